/- The document's answers: Walk. -/
import Derived.Test.YtggbeehnmconmaaRef3
import Derived.Test.YtggbeehnmconmaaDom8
import Derived.Test.YtggbeehnmconmaaWkP
namespace Go.Proofs.Ytggbeehnmconmaa
open Go.RowKit

theorem OB.at {w : World} {S : Nat → Prop} {g m c : Nat} {xs : List Bool} (h : OB w S (.slice (some ⟨g, 0, none⟩) m c) xs) (i : Nat) (hi : i < xs.length) : w.cell? ⟨g, i, none⟩ = some (.bool xs[i]) :=
  h.cell i _ (by simp [nB, hi])
theorem OB.set {w : World} {S : Nat → Prop} {g m c : Nat} {xs : List Bool} (h : OB w S (.slice (some ⟨g, 0, none⟩) m c) xs) (i : Nat) (x : Bool) : OB (w.setCell ⟨g, i, none⟩ (.bool x)) S (.slice (some ⟨g, 0, none⟩) m c) (xs.set i x) := by
  have := Ow.set h i (.bool x)
  unfold OB nB at *
  rw [List.length_set, List.map_set]
  exact this
theorem OB.made (w : World) {S : Nat → Prop} (n : Nat) (hS : S w.heap.size) (hn : n ≤ 9223372036854775807) : OB (w.alloc (.cells (madeCells #[.bool false] n) 4)) S (.slice (some ⟨w.heap.size, 0, none⟩) n n) (bl n fun _ => false) := by
  have := Ow.made w (S := S) 4 (.bool false) n hS hn
  unfold OB
  rw [bl_false, List.length_replicate, nB, List.map_replicate]
  exact this
theorem OB.made1 (w : World) {S : Nat → Prop} (n : Nat) {g : Nat} (hg : g = w.heap.size) (hS : S g) (hn : n ≤ 9223372036854775807) : OB (w.alloc (.cells ((madeCells #[.bool false] n).setIfInBounds 0 (.bool true)) 4)) S (.slice (some ⟨g, 0, none⟩) n n) (bl n fun j => decide (j = 0)) := by
  have e : (fun j => if j = 0 then true else (fun _ : Nat => false) j) = fun j : Nat => decide (j = 0) := by funext j; simp
  have h1 : (nB (bl n fun j => decide (j = 0))) = (List.replicate n (Value.bool false)).set 0 (.bool true) := by
    rw [← e, ← bl_set, bl_false, nB, List.map_set, List.map_replicate]
  unfold OB
  rw [h1, bl_len]
  refine Ow.of_obj (obj_new hg) hS (Nat.le_refl _) hn (by simp [size_madeCells]) ?_
  rw [Array.toList_setIfInBounds, toList_madeCells_one, Nat.mul_one]
  exact List.take_of_length_le (by simp)
theorem OB.keep {w w1 : World} {S T : Nat → Prop} {v : Value} {xs : List Bool} (h : OB w S v xs) (hk : Keeps w w1 T) (hd : ∀ g, S g → g < w.heap.size → ¬ T g) : OB w1 S v xs := Ow.keep h hk hd

def WalkA (bs : List Blk) (bar : Int) (bi : Nat) (w0 : World) (gg : Nat) (v6 v7 : Value) (wr : World) : Prop :=
  ∃ (m : Nat → Bool) (todo : List Nat) (i : Nat), v7 = .int .i64 i ∧ BF bs bar m todo i ∧ i ≤ todo.length ∧ bs.length - i ≤ gg ∧
    OB wr (fun g => g = bi) (.slice (some ⟨bi, 0, none⟩) bs.length bs.length) (bl bs.length m) ∧ OI wr (fun g => bi + 1 ≤ g) v6 (ints todo) ∧ Keeps w0 wr (fun g => g = bi)
def WalkB (bs : List Blk) (bar : Int) (bi : Nat) (w0 : World) (S : Nat → Prop) (x i gg : Nat) (v6 v9 : Value) (wr : World) : Prop :=
  ∃ (m : Nat → Bool) (todo : List Nat) (k : Nat), v9 = .int .i64 k ∧ BF bs bar m todo i ∧ todo[i]? = some x ∧ k ≤ (tgt bs (x : Int)).length ∧ (tgt bs (x : Int)).length - k ≤ gg ∧
    (∀ t ∈ (tg bs x).take k, (t : Int) ≠ bar → m t = true) ∧
    OB wr (fun g => g = bi) (.slice (some ⟨bi, 0, none⟩) bs.length bs.length) (bl bs.length m) ∧ OI wr S v6 (ints todo) ∧ Keeps w0 wr (fun g => g = bi ∨ S g)

set_option maxHeartbeats 2000000 in
set_option maxRecDepth 100000 in
theorem Walk_calls (F : Fn) (v : Value) (bar : Int) (w : World) (h : RFn w v F) (hn : F.blocks.length ≤ 1000000) :
    Calls Try.prog 29 #[v, .int .i64 bar] w fun e w' => ∃ v', e = .returned v' ∧ OB w' (fun g => w.heap.size ≤ g) v' (bl F.blocks.length (rch F.blocks bar)) ∧ Below w.heap.size w w' := by
  obtain ⟨vb, rfl, hb⟩ := h
  unfold fnV
  obtain ⟨A, c, rfl, hc, hl⟩ := RL.form hb
  have HR : Hd (RBlks w (.slice A F.blocks.length c) F.blocks) := ⟨hb⟩
  clear hb
  have hmk := run_make_row' (P := Try.prog) 33 4 (.bool false) 1 Try.underlying33 info_bool rfl .i64 .i64 F.blocks.length (by omega) (by omega)
  have hsz : (boxFn w F A c).heap.size = w.heap.size + 1 := by simp
  have HM : Hd (OB ((boxFn w F A c).alloc (.cells (madeCells #[.bool false] F.blocks.length) 4)) (fun g => g = w.heap.size + 1) (.slice (some ⟨w.heap.size + 1, 0, none⟩) F.blocks.length F.blocks.length) (bl F.blocks.length fun _ => false)) := ⟨by
    have := OB.made (boxFn w F A c) (S := fun g => g = w.heap.size + 1) F.blocks.length hsz (by omega)
    rwa [hsz] at this⟩
  clear hsz
  by_cases hn0 : F.blocks.length = 0
  · have HE : Hd (bl F.blocks.length (rch F.blocks bar) = bl F.blocks.length fun _ => false) := ⟨by rw [hn0]; rfl⟩
    have hz : ((F.blocks.length : Int) == 0) = true := by simp [hn0]
    have HN := Hd.mk hn0
    clear hn0
    go_enter Try.func29, Try.ntmps29
    go_wp2
    go_ret
    exact ⟨_, rfl, by rw [HE.out]; exact Ow.mono HM.out (fun g hg => by omega), (((Keeps.refl w _).alloc _).alloc _).below0⟩
  · have hz : ((F.blocks.length : Int) == 0) = false := by simpa using hn0
    have h0 : 0 < F.blocks.length := by omega
    clear hn0
    by_cases hb0 : bar = 0
    · have HE : Hd (bl F.blocks.length (rch F.blocks bar) = bl F.blocks.length fun _ => false) := ⟨by
        congr 1
        funext x
        cases hx : rch F.blocks bar x with
        | false => rfl
        | true =>
          rw [rch_iff, hb0] at hx
          exact absurd hx rch_zero⟩
      have hbz : (bar == 0) = true := by simpa using hb0
      clear hb0
      go_enter Try.func29, Try.ntmps29
      go_wp2
      go_ret
      exact ⟨_, rfl, by rw [HE.out]; exact Ow.mono HM.out (fun g hg => by omega), (((Keeps.refl w _).alloc _).alloc _).below0⟩
    · have hbz : (bar == 0) = false := by simpa using hb0
      have HB := Hd.mk (BF.start (bs := F.blocks) hb0)
      clear hb0
      have hmc := HM.out.at 0 (by rw [bl_len]; exact h0)
      have hmf := Ow.frozen HM.out 0
      go_enter Try.func29, Try.ntmps29
      go_wp2
      go_loopg [6, 7] F.blocks.length (fun gg v6 v7 wr => WalkA F.blocks bar (w.heap.size + 1) (boxFn w F A c) gg v6 v7 wr)
      case atStart =>
        refine ⟨_, _, 0, rfl, HB.out, Nat.zero_le _, Nat.le_refl _, ?_, ?_, ?_⟩
        · exact (OB.made1 (boxFn w F A c) (S := fun g => g = w.heap.size + 1) F.blocks.length (g := w.heap.size + 1) (by simp) rfl (by omega)).keep ((Keeps.refl _ (fun _ => False)).alloc _) (fun _ _ _ hf => hf)
        · exact Ow.of_obj (obj_new (by simp)) (by omega) (Nat.le_refl _) (by decide) rfl rfl
        · exact ((Keeps.refl _ _).alloc _).alloc _
      case round =>
        clear HM hmc hmf HB
        obtain ⟨m, todo, i, rfl, hB, hi, hgg, hM, hT, hK⟩ := hrel
        have HB := Hd.mk hB
        have HM := Hd.mk hM
        have HT := Hd.mk hT
        have HK := Hd.mk hK
        have hlt := hB.lt h0
        obtain ⟨A6, c6, rfl, _, _⟩ := Ow.form hT
        rw [show (ints todo).length = todo.length by simp [ints]] at HT
        rw [show (ints todo).length = todo.length by simp [ints]]
        clear hB hM hT hK
        obtain ⟨q0, q1, q2, q3, q4⟩ := box_cells HK.out (by omega)
        by_cases hil : i < todo.length
        · obtain ⟨x, hx⟩ : ∃ x, todo[i]? = some x := ⟨_, List.getElem?_eq_getElem hil⟩
          obtain ⟨g6, rfl, hg6, hg6'⟩ := Ow.ptr HT.out (by rw [show (ints todo).length = todo.length by simp [ints]]; omega)
          have cti := Ow.cell HT.out i (.int .i64 x) (by simp [nI, ints, hx])
          have HX := Hd.mk hx
          have HTG := Hd.mk (rTargets_calls F _ (x : Int) wr.drew ⟨_, rfl, RBlks.below (((Keeps.refl w fun _ => False).alloc _).trans HK.out (fun i hi e => by omega)).drew.below0 HR.out⟩)
          clear hx
          go_wp2
          go_still_tail 5, (by kernel_rfl)
          change wpList _ _ _ _ _ wr.drew
          go_wp2_with fail
          refine HTG.out.mono ?_
          rintro e w3 ⟨vt, rfl, ht, hk3⟩
          have hk3' : Keeps wr w3 (fun _ => False) := ((Keeps.refl wr _).drew).trans (Keeps.of_below hk3 _) (fun _ _ hf => hf)
          have hs3 := hk3'.size
          have hbi : w.heap.size + 1 < wr.heap.size := by
            obtain ⟨_, e, _, h⟩ := Ow.ptr HM.out (by rw [bl_len]; exact h0)
            injection e with e
            injection e with e
            omega
          obtain ⟨S, hS⟩ : ∃ S : Nat → Prop, S = (fun g => w.heap.size + 2 ≤ g ∧ ¬ (wr.heap.size ≤ g ∧ g < w3.heap.size)) := ⟨_, rfl⟩
          have HSB : Hd (∀ g, S g → w.heap.size + 2 ≤ g) := ⟨fun g hg => by rw [hS] at hg; exact hg.1⟩
          have HSW : Hd (∀ g, w3.heap.size ≤ g → S g) := ⟨fun g hg => by rw [hS]; exact ⟨by omega, by omega⟩⟩
          have HSL : Hd (∀ g, wr.heap.size ≤ g → g < w3.heap.size → ¬ S g) := ⟨fun g h1 h2 hg => by rw [hS] at hg; exact hg.2 ⟨h1, h2⟩⟩
          have HT3 := Hd.mk (show OI w3 S _ (ints todo) from OI.keep (T := fun _ => False) ⟨HT.out.1, fun g hg => by rw [hS]; have := HT.out.2 g hg; have := Ow.lt HT.out g hg; exact ⟨by omega, by omega⟩⟩ hk3' (fun _ _ _ hf => hf))
          have HL := Hd.mk (show OI w3 (fun g => wr.heap.size ≤ g ∧ g < w3.heap.size) vt _ from ⟨ht.1, fun g hg => ⟨by simpa using ht.2 g hg, Ow.lt ht g hg⟩⟩)
          have HM3 := Hd.mk (HM.out.keep hk3' (fun _ _ _ hf => hf))
          have HK3 := Hd.mk (HK.out.trans hk3' (fun _ _ hf => hf.elim))
          obtain ⟨At, ct, rfl, _, _⟩ := Ow.form ht
          clear hS ht hk3 hk3' HTG cti
          go_wp2
          go_loopg [6, 9] (tgt F.blocks (x : Int)).length (fun gg v6 v9 wq => WalkB F.blocks bar (w.heap.size + 1) w3 S x i gg v6 v9 wq)
          case atStart => exact ⟨m, todo, 0, rfl, HB.out, HX.out, Nat.zero_le _, Nat.le_refl _, by simp, HM3.out, HT3.out, Keeps.refl _ _⟩
          case round =>
            clear HM3 HT3 HM HT HB hlt hil hg6 hg6' hi
            obtain ⟨m2, todo2, k, rfl, hB, hx, hk, hgg2, hdone, hM, hT, hK⟩ := hrel
            have HB := Hd.mk hB
            have HM := Hd.mk hM
            have HT := Hd.mk hT
            have HK := Hd.mk hK
            have HX2 := Hd.mk hx
            have HDN := Hd.mk hdone
            have hlt := hB.lt h0
            obtain ⟨A6, c6, rfl, _, _⟩ := Ow.form hT
            rw [show (ints todo2).length = todo2.length by simp [ints]] at HT
            rw [show (ints todo2).length = todo2.length by simp [ints]]
            clear hB hM hT hK hx hdone
            have hil2 : i < F.blocks.length := by have := (List.getElem?_eq_some_iff.1 HX2.out).1; omega
            have HL4 := Hd.mk (OI.keep HL.out HK.out (fun g hg hlt hs => hs.elim (fun e => by have := hg.1; omega) (HSL.out g hg.1 hg.2)))
            by_cases hkl : k < (tgt F.blocks (x : Int)).length
            · obtain ⟨gl, rfl, hgl, _⟩ := Ow.ptr HL4.out (by omega)
              have hgl1 := hgl.1
              have hkl' : k < (tg F.blocks x).length := by rw [tg_length]; exact hkl
              have clk := HL4.out.at k hkl
              obtain ⟨t, ht⟩ : ∃ t, (tg F.blocks x)[k] = t := ⟨_, rfl⟩
              rw [tgt_get hkl' hkl, ht] at clk
              have htm : t ∈ tg F.blocks x := ht ▸ List.getElem_mem hkl'
              have htn := tg_mem htm
              have HTM := Hd.mk htm
              have HTK : Hd ((tg F.blocks x).take (k + 1) = (tg F.blocks x).take k ++ [t]) := ⟨by rw [List.take_succ_eq_append_getElem hkl', ht]⟩
              have cmt := HM.out.at t (by rw [bl_len]; exact htn)
              have cmf := Ow.frozen HM.out t
              rw [bl_at] at cmt
              clear ht htm hkl' hgl
              cases hmt : m2 t with
              | true =>
                rw [hmt] at cmt
                have HMT := Hd.mk hmt
                clear hmt
                go_wp2
                go_roundg ((tgt F.blocks (x : Int)).length - (k + 1))
                case measure => omega
                case rel =>
                  refine ⟨m2, todo2, k + 1, by go_num, HB.out, HX2.out, hkl, Nat.le_refl _, fun s hs hsb => ?_, HM.out, HT.out, HK.out⟩
                  rw [HTK.out, List.mem_append, List.mem_singleton] at hs
                  exact hs.elim (fun h => HDN.out s h hsb) (fun h => h ▸ HMT.out)
              | false =>
                rw [hmt] at cmt
                have HMT := Hd.mk hmt
                clear hmt
                by_cases htb : (t : Int) = bar
                · have htb' : ((t : Int) != bar) = false := by simpa using htb
                  have HTB := Hd.mk htb
                  clear htb
                  go_wp2
                  go_roundg ((tgt F.blocks (x : Int)).length - (k + 1))
                  case measure => omega
                  case rel =>
                    refine ⟨m2, todo2, k + 1, by go_num, HB.out, HX2.out, hkl, Nat.le_refl _, fun s hs hsb => ?_, HM.out, HT.out, HK.out⟩
                    rw [HTK.out, List.mem_append, List.mem_singleton] at hs
                    exact hs.elim (fun h => HDN.out s h hsb) (fun h => absurd (by rw [h]; exact HTB.out) hsb)
                · have htb' : ((t : Int) != bar) = true := by simpa using htb
                  have HTB := Hd.mk htb
                  clear htb
                  have HM5 := Hd.mk (HM.out.set t true)
                  have HT5 : Hd (OI (World.setCell _ _ _) S _ _) := Hd.mk (HT.out.keep (Keeps.set1 _ ⟨w.heap.size + 1, t, none⟩ (.bool true)) (fun g hg _ e => by have := HSB.out g hg; simp at e; omega))
                  have hlb : (ints todo2).length ≤ 1000000 := by simp [ints]; omega
                  go_wp2_with (at_builtin; refine append_int rfl (.tmp 66) (.tmp 71) rfl _ (ints todo2) (t : Int) rfl HT5.out _ _ rfl (by simp) hlb ?_; intro A2 c2 w2 hc2 ho2 hk2; have HO2 := Hd.mk ho2; have HK2 := Hd.mk hk2; clear ho2 hk2)
                  go_roundg ((tgt F.blocks (x : Int)).length - (k + 1))
                  case measure => omega
                  case rel =>
                    refine ⟨_, _, k + 1, by go_num, HB.out.push (List.getElem?_eq_some_iff.1 HX2.out).1 HX2.out HTM.out HTB.out HMT.out, by rw [List.getElem?_append_left (List.getElem?_eq_some_iff.1 HX2.out).1]; exact HX2.out, hkl, Nat.le_refl _, fun s hs hsb => ?_, ?_, ?_, ?_⟩
                    · rw [HTK.out, List.mem_append, List.mem_singleton] at hs
                      by_cases e : s = t
                      · simp [e]
                      · simp only [e, if_false]
                        exact hs.elim (fun h => HDN.out s h hsb) (fun h => absurd h e)
                    · rw [← bl_set]
                      exact HM5.out.keep HK2.out (fun g hg _ hs => by have := HSB.out g hs; omega)
                    · have e : ints (todo2 ++ [t]) = ints todo2 ++ [(t : Int)] := by simp [ints]
                      rw [e]
                      exact HO2.out.mono (fun g hg => hg.elim id (fun h => HSW.out g (by have := HK.out.size; simp at h; omega)))
                    · exact (HK.out.setCell (fun _ => .inl rfl) _).trans HK2.out (fun g _ hg => .inr hg)
            · obtain rfl : k = (tgt F.blocks (x : Int)).length := by omega
              go_wp2
              go_roundg (F.blocks.length - (i + 1))
              case measure => omega
              case rel =>
                refine ⟨m2, todo2, i + 1, by go_num, HB.out.next HX2.out (fun t ht hb => HDN.out t (by rw [← tg_length, List.take_length]; exact ht) hb), (List.getElem?_eq_some_iff.1 HX2.out).1, Nat.le_refl _, HM.out, HT.out.mono (fun g hg => by have := HSB.out g hg; omega), (HK3.out.trans HK.out (fun g hg hs => hs.elim id (fun h => by have := HSB.out g h; simp at hg; omega)))⟩
        · obtain rfl : i = todo.length := by omega
          go_wp2
          go_ret
          exact ⟨_, rfl, by rw [show rch F.blocks bar = m from funext fun x => (HB.out.final x).symm]; exact Ow.mono HM.out (fun g hg => by omega), (((Keeps.refl w _).alloc _).trans HK.out (fun g hg e => by omega)).below0⟩
end Go.Proofs.Ytggbeehnmconmaa
