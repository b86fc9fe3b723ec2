/- The document's answers: Over. -/
import Derived.Test.YtggbeehnmconmaaB4
namespace Go.Proofs.Ytggbeehnmconmaa
open Go.RowKit

theorem bl_put (n : Nat) (m : Nat → Bool) (t : Nat) (y : Bool) : (bl n m).set t y = bl n (fun j => if j = t then y else m j) := by
  apply List.ext_getElem
  · simp [bl]
  · intro i h1 h2
    rw [List.getElem_set, bl_at, bl_at]
    by_cases h : t = i
    · simp [h]
    · rw [if_neg h, if_neg (fun e => h e.symm)]
noncomputable def overRows (bs : List Blk) (k : Nat) : List (List Bool) := (List.range k).map fun d => bl bs.length (overB bs d)
theorem overRows_len (bs : List Blk) (k : Nat) : (overRows bs k).length = k := by simp [overRows]
theorem overRows_succ (bs : List Blk) (k : Nat) : overRows bs (k + 1) = overRows bs k ++ [bl bs.length (overB bs k)] := by simp [overRows, List.range_succ]
theorem over_off {bs : List Blk} {d : Nat} (h : rch bs (-1) d = false) : overB bs d = fun _ => false := by
  funext x
  rw [overB, h, Bool.false_and]
theorem over_on {bs : List Blk} {d : Nat} (h : rch bs (-1) d = true) : overB bs d = fun x => rch bs (-1) x && !rch bs (d : Int) x := by
  funext x
  rw [overB, h, Bool.true_and]
theorem bl_to_zero (n : Nat) (f : Nat → Bool) : (bl n fun x => decide (x < 0) && f x) = bl n fun _ => false := by
  congr 1
theorem bl_to_all (n : Nat) (f : Nat → Bool) : (bl n fun x => decide (x < n) && f x) = bl n f := by
  unfold bl
  apply List.map_congr_left
  intro x hx
  rw [List.mem_range] at hx
  simp [hx]
theorem bl_to_next (n k : Nat) (f : Nat → Bool) : (bl n fun x => decide (x < k) && f x).set k (f k) = bl n fun x => decide (x < k + 1) && f x := by
  rw [bl_put]
  congr 1
  funext x
  by_cases h : x = k
  · subst h
    simp
  · rw [if_neg h]
    congr 1
    simp only [decide_eq_decide]
    omega

def OverA (bs : List Blk) (w1 : World) (gg : Nat) (v4 v5 : Value) (wr : World) : Prop :=
  ∃ d : Nat, v5 = .int .i64 d ∧ d ≤ bs.length ∧ bs.length - d ≤ gg ∧ OBB wr (fun g => w1.heap.size ≤ g) v4 (overRows bs d) ∧ Keeps w1 wr (fun _ => False)
def OverW (bs : List Blk) (w2 : World) (g6 d gg : Nat) (v8 : Value) (wr : World) : Prop :=
  ∃ b : Nat, v8 = .int .i64 b ∧ b ≤ bs.length ∧ bs.length - b ≤ gg ∧ OB wr (fun g => g = g6) (.slice (some ⟨g6, 0, none⟩) bs.length bs.length) (bl bs.length fun x => decide (x < b) && (rch bs (-1) x && !rch bs (d : Int) x)) ∧ Keeps w2 wr (fun g => g = g6)

set_option maxHeartbeats 2000000 in
set_option maxRecDepth 100000 in
theorem Over_calls (F : Fn) (v : Value) (w : World) (h : RFn w v F) (hn : F.blocks.length ≤ 1000000) :
    Calls Try.prog 64 #[v] w fun e w' => ∃ v', e = .returned v' ∧ OBB w' (fun g => w.heap.size ≤ g) v' (overRows F.blocks F.blocks.length) ∧ Below w.heap.size w w' := by
  obtain ⟨vb, rfl, hb⟩ := h
  unfold fnV
  obtain ⟨A, c, rfl, hc, hl⟩ := RL.form hb
  have HR : Hd (RBlks w (.slice A F.blocks.length c) F.blocks) := ⟨hb⟩
  have HWK := Hd.mk (Walk_calls F _ (-1) (boxFn w F A c) ⟨_, rfl, RBlks.below ((Keeps.refl w fun _ => False).alloc _).below0 hb⟩ hn)
  clear hb
  have hmk := run_make_row' (P := Try.prog) 33 4 (.bool false) 1 Try.underlying33 info_bool rfl .i64 .i64 F.blocks.length (by omega) (by omega)
  go_enter Try.func64, Try.ntmps64
  go_wp2_with fail
  refine HWK.out.mono ?_
  rintro e w1 ⟨v3, rfl, h3, hk⟩
  have hk1 : Keeps (boxFn w F A c) w1 (fun _ => False) := Keeps.of_below hk _
  have hs1 := hk1.size
  have hsb : w.heap.size + 1 ≤ w1.heap.size := by simpa using hs1
  have H3 := Hd.mk (show OB w1 (fun g => g < w1.heap.size) v3 _ from ⟨h3.1, fun g hg => Ow.lt h3 g hg⟩)
  have HK1 := Hd.mk hk1
  obtain ⟨q0, q1, q2, q3, q4⟩ := box_cells hk1 (fun hf => hf)
  obtain ⟨A3, c3, rfl, _, _⟩ := Ow.form h3
  rw [bl_len] at H3
  rw [bl_len]
  clear h3 hk hk1 hs1 HWK
  go_wp2
  go_loopg [4, 5] F.blocks.length (fun gg v4 v5 wr => OverA F.blocks w1 gg v4 v5 wr)
  case atStart => exact ⟨0, rfl, Nat.zero_le _, Nat.le_refl _, ONN.nil _ _, Keeps.refl _ _⟩
  case round =>
    obtain ⟨d, rfl, hd, hgg, hO, hK⟩ := hrel
    have HO := Hd.mk hO
    have HK := Hd.mk hK
    obtain ⟨A4, c4, rfl, _, _⟩ := hO.form
    clear hO hK q0 q1 q2 q3 q4
    obtain ⟨q0, q1, q2, q3, q4⟩ := box_cells (HK1.out.trans HK.out (fun _ _ hf => hf)) (fun hf => hf)
    rw [overRows_len] at HO
    rw [overRows_len]
    have hsr : w1.heap.size ≤ wr.heap.size := HK.out.size
    have hwr : w.heap.size < wr.heap.size := by omega
    by_cases hlt : d < F.blocks.length
    · obtain ⟨g3, rfl, hg3, _⟩ := Ow.ptr H3.out (by rw [bl_len]; omega)
      have H3r := Hd.mk (OB.keep H3.out HK.out (fun _ _ _ hf => hf))
      have cd := H3r.out.at d (by rw [bl_len]; exact hlt)
      rw [bl_at] at cd
      have hg3r : g3 < wr.heap.size := by omega
      have HM := Hd.mk (OB.made wr (S := fun g => g = wr.heap.size) F.blocks.length rfl (by omega))
      cases hrd : rch F.blocks (-1) d with
      | false =>
        rw [hrd] at cd
        have HE := Hd.mk (over_off hrd)
        clear hrd
        have hK0 : Keeps wr (wr.alloc (.cells (madeCells #[.bool false] F.blocks.length) 4)) (fun _ => False) := (Keeps.refl _ _).alloc _
        obtain ⟨vs, hv, hfin⟩ := ONN.snoc (by decide) (HO.out.keep hK0 (fun _ _ _ hf => hf)) (Ow.mono HM.out (T := fun g => w1.heap.size ≤ g) (fun g hg => by omega))
        rw [overRows_len] at hv hfin
        have HV := Hd.mk hv
        have HFIN := Hd.mk hfin
        have HK0 := Hd.mk hK0
        clear hv hfin hK0
        go_wp2_with (at_builtin; refine append1 rfl (.tmp 49) (.tmp 51) 65 33 (.slice none 0 0) 1 24 rfl Try.underlying65 info_bools rfl (by omega) _ d vs [.slice (some ⟨wr.heap.size, 0, none⟩) F.blocks.length F.blocks.length] rfl HV.out _ _ rfl (by simp) rfl (by simp [Value.oneCell']) (by omega) (by omega) _ rfl ?_; intro v6 w6 ho6 hk6; obtain ⟨A6, c6, rfl, _, _⟩ := Ow.form ho6; have HO6 := Hd.mk ho6; have HK6 := Hd.mk hk6; clear ho6 hk6)
        go_roundg (F.blocks.length - (d + 1))
        case measure => omega
        case rel =>
          refine ⟨d + 1, by go_num, hlt, Nat.le_refl _, ?_, ?_⟩
          · rw [overRows_succ, HE.out]
            exact (HFIN.out _ _ HO6.out HK6.out).mono (fun g hg => hg.elim id (fun h => by simp at h; omega))
          · exact (HK.out.trans HK0.out (fun _ _ hf => hf)).trans HK6.out (fun g hg hs => by have := hs.1; omega)
      | true =>
        rw [hrd] at cd
        have HE := Hd.mk (over_on hrd)
        clear hrd
        have hK0 : Keeps wr (wr.alloc (.cells (madeCells #[.bool false] F.blocks.length) 4)) (fun _ => False) := (Keeps.refl _ _).alloc _
        have HTW := Hd.mk (Walk_calls F _ (d : Int) _ ⟨_, rfl, RBlks.below (((((Keeps.refl w fun _ => False).alloc _).trans HK1.out (fun _ _ hf => hf)).trans HK.out (fun _ _ hf => hf)).trans hK0 (fun _ _ hf => hf)).below0 HR.out⟩ hn)
        have HK0 := Hd.mk hK0
        clear hK0
        go_wp2_with fail
        refine HTW.out.mono ?_
        rintro e w2 ⟨v7, rfl, h7, hk2⟩
        have hk2' : Keeps (wr.alloc (.cells (madeCells #[.bool false] F.blocks.length) 4)) w2 (fun _ => False) := Keeps.of_below hk2 _
        have hs2 := hk2'.size
        have hs2' : wr.heap.size + 1 ≤ w2.heap.size := by simpa using hs2
        have H7 := Hd.mk (show OB w2 (fun g => wr.heap.size + 1 ≤ g) v7 _ from Ow.mono h7 (fun g hg => by simpa using hg))
        obtain ⟨A7, c7, rfl, _, _⟩ := Ow.form h7
        obtain ⟨g7, rfl, hg7, _⟩ := Ow.ptr H7.out (by rw [bl_len]; omega)
        have HM2 := Hd.mk (OB.keep HM.out hk2' (fun _ _ _ hf => hf))
        have HO2 := Hd.mk (HO.out.bound.keep (HK0.out.trans hk2' (fun _ _ hf => hf)) (fun _ _ _ hf => hf))
        have H32 := Hd.mk (OB.keep H3r.out (HK0.out.trans hk2' (fun _ _ hf => hf)) (fun _ _ _ hf => hf))
        have HK2 := Hd.mk (HK.out.trans (HK0.out.trans hk2' (fun _ _ hf => hf)) (fun _ _ hf => hf))
        rw [bl_len] at H7
        rw [bl_len]
        clear HTW h7 hk2 hk2' hs2 HM H3r HO HK HK0 cd
        obtain ⟨wa, rfl⟩ : ∃ wa, wa = wr := ⟨_, rfl⟩
        have hdk : decide ((d : Int) < (F.blocks.length : Int)) = true := decide_eq_true (by omega)
        go_wp2
        go_loopg [8] F.blocks.length (fun gg v8 wq => OverW F.blocks w2 wa.heap.size d gg v8 wq)
        case atStart =>
          refine ⟨0, rfl, Nat.zero_le _, Nat.le_refl _, ?_, Keeps.refl _ _⟩
          rw [bl_to_zero]
          exact HM2.out
        case round =>
          clear HM2
          obtain ⟨b, rfl, hb, hgg2, hB, hKq⟩ := hrel
          have HB := Hd.mk hB
          have HKq := Hd.mk hKq
          clear hB hKq
          by_cases hbl : b < F.blocks.length
          · have c3b := (OB.keep H32.out HKq.out (fun g hg _ e => by omega)).at b (by rw [bl_len]; exact hbl)
            have c7b := (OB.keep H7.out HKq.out (fun g hg _ e => by omega)).at b (by rw [bl_len]; exact hbl)
            have cbb := HB.out.at b (by rw [bl_len]; exact hbl)
            have cbf := Ow.frozen HB.out b
            rw [bl_at] at c3b c7b
            have HB2 := Hd.mk (HB.out.set b (rch F.blocks (-1) b && !rch F.blocks (d : Int) b))
            have hx1 : ∃ x, rch F.blocks (-1) b = x := ⟨_, rfl⟩
            have hx2 : ∃ x, rch F.blocks (d : Int) b = x := ⟨_, rfl⟩
            obtain ⟨x1, hx1⟩ := hx1
            obtain ⟨x2, hx2⟩ := hx2
            have HN : Hd ((bl F.blocks.length fun x => decide (x < b) && (rch F.blocks (-1) x && !rch F.blocks (d : Int) x)).set b (rch F.blocks (-1) b && !rch F.blocks (d : Int) b) = _) := ⟨bl_to_next _ _ _⟩
            rw [hx1, hx2] at HN
            rw [hx1, hx2] at HB2
            rw [hx1] at c3b
            rw [hx2] at c7b
            clear hx1 hx2
            cases x1 with
            | true =>
              go_wp2
              go_roundg (F.blocks.length - (b + 1))
              case measure => omega
              case rel =>
                refine ⟨b + 1, by go_num, hbl, Nat.le_refl _, ?_, HKq.out.setCell (fun _ => rfl) _⟩
                rw [← HN.out]
                exact HB2.out
            | false =>
              go_wp2
              go_roundg (F.blocks.length - (b + 1))
              case measure => omega
              case rel =>
                refine ⟨b + 1, by go_num, hbl, Nat.le_refl _, ?_, HKq.out.setCell (fun _ => rfl) _⟩
                rw [← HN.out]
                exact HB2.out
          · obtain rfl : b = F.blocks.length := by omega
            have hkq := HKq.out.size
            obtain ⟨vs, hv, hfin⟩ := ONN.snoc (by decide) ((HO2.out.keep HKq.out (fun g hg _ e => by omega)).mono (T := fun g => w1.heap.size ≤ g) (fun g hg => hg.1)) (Ow.mono HB.out (T := fun g => w1.heap.size ≤ g) (fun g hg => by omega))
            rw [overRows_len] at hv hfin
            have HV := Hd.mk hv
            have HFIN := Hd.mk hfin
            clear hv hfin
            go_wp2_with (at_builtin; refine append1 rfl (.tmp 49) (.tmp 51) 65 33 (.slice none 0 0) 1 24 rfl Try.underlying65 info_bools rfl (by omega) _ d vs [.slice (some ⟨wa.heap.size, 0, none⟩) F.blocks.length F.blocks.length] rfl HV.out _ _ rfl (by simp) rfl (by simp [Value.oneCell']) (by omega) (by omega) _ rfl ?_; intro v6 w6 ho6 hk6; obtain ⟨A6, c6, rfl, _, _⟩ := Ow.form ho6; have HO6 := Hd.mk ho6; have HK6 := Hd.mk hk6; clear ho6 hk6)
            go_roundg (F.blocks.length - (d + 1))
            case measure => omega
            case rel =>
              refine ⟨d + 1, by go_num, hlt, Nat.le_refl _, ?_, ?_⟩
              · have h := (HFIN.out _ _ HO6.out HK6.out).mono (T := fun g => w1.heap.size ≤ g) (fun g hg => hg.elim id (fun h => by omega))
                rw [overRows_succ, HE.out]
                rw [bl_to_all] at h
                exact h
              · exact (HK2.out.trans HKq.out (fun g hg e => by omega)).trans HK6.out (fun g hg hs => by have := hs.1; omega)
    · obtain rfl : d = F.blocks.length := by omega
      go_wp2
      go_ret
      exact ⟨_, rfl, HO.out.mono (fun g hg => by omega), ((((Keeps.refl w fun _ => False).alloc _).trans HK1.out (fun _ _ hf => hf)).trans HK.out (fun _ _ hf => hf)).below0⟩
end Go.Proofs.Ytggbeehnmconmaa
