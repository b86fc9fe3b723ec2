/- The document's answers: order. -/
import Derived.Test.YtggbeehnmconmaaRef7
import Derived.Test.YtggbeehnmconmaaRoP
namespace Go.Proofs.Ytggbeehnmconmaa
open Go.RowKit

def OrdRel (bs : List Blk) (b : Nat) (m0 : Nat → Bool) (o0 : List Nat) (bi : Nat) (So : Nat → Prop) (wt : World) (gg : Nat) (v3 v10 : Value) (wr : World) : Prop :=
  ∃ (k : Nat) (m : Nat → Bool) (o : List Nat), v10 = .int .i64 k ∧ k ≤ (tg bs b).length ∧ (tg bs b).length - k ≤ gg ∧
    (∀ m' o', OL (tg bs) b k m o m' o' → OL (tg bs) b 0 m0 o0 m' o') ∧ (∀ x, m0 x = true → m x = true) ∧ o.length + cnt m bs.length ≤ o0.length + cnt m0 bs.length ∧
    OB wr (fun g => g = bi) (.slice (some ⟨bi, 0, none⟩) bs.length bs.length) (bl bs.length m) ∧ OI wr (fun g => So g ∨ wt.heap.size ≤ g) v3 (ints o) ∧ Keeps wt wr (fun g => g = bi ∨ So g)

set_option maxHeartbeats 2000000 in
set_option maxRecDepth 100000 in
theorem order_calls (F : Fn) (v : Value) (w0 : World) (h : RFn w0 v F) (hn : F.blocks.length ≤ 1000000) (N : Nat) : ∀ (w : World) (b : Nat) (m : Nat → Bool) (o : List Nat) (bi : Nat) (vo : Value) (So : Nat → Prop),
    cnt m F.blocks.length ≤ N → b < F.blocks.length → m b = false → o.length + cnt m F.blocks.length ≤ F.blocks.length → Below w0.heap.size w0 w → w0.heap.size ≤ bi → (∀ g, So g → w0.heap.size ≤ g ∧ g < w.heap.size ∧ g ≠ bi) →
    OB w (fun g => g = bi) (.slice (some ⟨bi, 0, none⟩) F.blocks.length F.blocks.length) (bl F.blocks.length m) → OI w So vo (ints o) →
    Calls Try.prog 61 #[v, .int .i64 b, .slice (some ⟨bi, 0, none⟩) F.blocks.length F.blocks.length, vo] w fun e w' => ∃ v' m' o', e = .returned v' ∧ OL (tg F.blocks) b 0 (mset m b) o m' o' ∧
      OB w' (fun g => g = bi) (.slice (some ⟨bi, 0, none⟩) F.blocks.length F.blocks.length) (bl F.blocks.length m') ∧ OI w' (fun g => So g ∨ w.heap.size ≤ g) v' (ints (o' ++ [b])) ∧ Keeps w w' (fun g => g = bi ∨ So g) := by
  induction N with
  | zero =>
    intro w b m o bi vo So hN hb hm
    have := cnt_put hb hm
    omega
  | succ N ih =>
    intro w b m o bi vo So hN hb hm hlen hBel hbi hSo hM hO
    have IH := Hd.mk ih
    clear ih
    have hcnt := cnt_put hb hm
    obtain ⟨vb, rfl, hblk⟩ := h
    have HV := Hd.mk hblk
    unfold fnV at *
    obtain ⟨A, c, rfl, hc, hl⟩ := RL.form hblk
    obtain ⟨Ao, co, rfl, _, _⟩ := Ow.form hO
    rw [show (ints o).length = o.length by simp [ints]] at hO ⊢
    have hbw : bi < w.heap.size := by
      obtain ⟨_, e, _, h⟩ := Ow.ptr hM (by rw [bl_len]; omega)
      injection e with e
      injection e with e
      omega
    have cb := hM.at b (by rw [bl_len]; exact hb)
    have cf := Ow.frozen hM b
    have hM1 : OB (boxFn (w.setCell ⟨bi, b, none⟩ (.bool true)) F A c) (fun g => g = bi) (.slice (some ⟨bi, 0, none⟩) F.blocks.length F.blocks.length) (bl F.blocks.length (mset m b)) := by
      have := hM.set b true
      rw [bl_set] at this
      exact this.keep ((Keeps.refl _ (fun _ => False)).alloc _) (fun _ _ _ hf => hf)
    have hk1 : Keeps w (boxFn (w.setCell ⟨bi, b, none⟩ (.bool true)) F A c) (fun g => g = bi) := ((Keeps.refl w (fun g => g = bi)).setCell (p := ⟨bi, b, none⟩) (fun _ => rfl) _).alloc _
    have HM1 := Hd.mk hM1
    have HO1 := Hd.mk (OI.keep hO hk1 (fun g hg _ => (hSo g hg).2.2))
    have HK1 := Hd.mk hk1
    have HSO := Hd.mk hSo
    have HT := Hd.mk (fun w1 (hk : Below w0.heap.size w0 w1) => rTargets_calls F (fnV F (.slice A F.blocks.length c)) (b : Int) w1 ⟨_, rfl, RBlks.below hk HV.out⟩)
    have HB0 : Hd (Keeps w0 w (fun _ => False)) := ⟨Keeps.of_below hBel _⟩
    have hw0 := hBel.size
    clear hM hO hM1 hk1 hSo hBel hblk
    go_enter Try.func61, Try.ntmps61
    go_wp2_with fail
    refine (HT.out _ ?_).mono ?_
    · exact (HB0.out.trans HK1.out (fun g hg e => by omega)).below0
    · rintro e wt ⟨v9, rfl, h9, hkt⟩
      have hkt' : Keeps (boxFn (w.setCell ⟨bi, b, none⟩ (.bool true)) F A c) wt (fun _ => False) := Keeps.of_below hkt _
      have hst := hkt'.size
      have hst' : w.heap.size + 1 ≤ wt.heap.size := by simpa using hst
      obtain ⟨A9, c9, rfl, _, _⟩ := Ow.form h9
      have H9 := Hd.mk (show OI wt (fun g => w.heap.size + 1 ≤ g ∧ g < wt.heap.size) _ _ from ⟨h9.1, fun g hg => ⟨by simpa using h9.2 g hg, Ow.lt h9 g hg⟩⟩)
      have HMt := Hd.mk (OB.keep HM1.out hkt' (fun _ _ _ hf => hf))
      have HOt := Hd.mk (OI.keep HO1.out hkt' (fun _ _ _ hf => hf))
      have HKt := Hd.mk (HK1.out.trans hkt' (fun _ _ hf => hf.elim))
      have HKB := Hd.mk hkt'
      clear h9 hkt hkt' hst HM1 HO1 HK1 HT cb cf
      rw [← tg_length] at H9
      rw [← tg_length]
      have hwbt : w.heap.size < wt.heap.size := by omega
      have hbx : ∀ {wr : World} {S : Nat → Prop}, Keeps wt wr S → ¬ S w.heap.size → wr.cell? ⟨w.heap.size, 0, none⟩ = some (.string F.name) ∧ wr.cell? ⟨w.heap.size, 1, none⟩ = some (.bool F.weak) ∧ wr.cell? ⟨w.heap.size, 2, none⟩ = some (.int .i64 F.params) ∧
          wr.cell? ⟨w.heap.size, 3, none⟩ = some (.int .i64 F.values) ∧ wr.cell? ⟨w.heap.size, 4, none⟩ = some (.slice A F.blocks.length c) := fun {wr S} hk hS => by
        have := box_cells ((HKB.out.mono (T := S) (fun _ _ h => h.elim)).trans hk (fun _ _ h => h)) (by simpa using hS)
        simpa using this
      have HBX := Hd.mk @hbx
      clear hbx
      go_wp2
      go_loopg [3, 10] (tg F.blocks b).length (fun gg v3 v10 wr => OrdRel F.blocks b (mset m b) o bi So wt gg v3 v10 wr)
      case atStart =>
        exact ⟨0, _, o, rfl, Nat.zero_le _, Nat.le_refl _, fun _ _ h => h, fun _ h => h, Nat.le_refl _, HMt.out, HOt.out.mono (fun g hg => .inl hg), Keeps.refl _ _⟩
      case round =>
        obtain ⟨k, m2, o2, rfl, hk, hgg, hOL, hmono, hl2, hM, hO, hK⟩ := hrel
        have HOL := Hd.mk hOL
        have HMON := Hd.mk hmono
        have HM := Hd.mk hM
        have HO := Hd.mk hO
        have HK := Hd.mk hK
        obtain ⟨A3, c3, rfl, _, _⟩ := Ow.form hO
        rw [show (ints o2).length = o2.length by simp [ints]] at HO ⊢
        clear hOL hmono hM hO hK
        have hsz := HK.out.size
        have hcm := cnt_mono HMON.out F.blocks.length
        have hnS : ¬ (w.heap.size = bi ∨ So w.heap.size) := fun h => h.elim (fun e => by omega) (fun h => by have := (HSO.out _ h).2.1; omega)
        obtain ⟨q0, q1, q2, q3, q4⟩ := HBX.out HK.out hnS
        by_cases hkl : k < (tg F.blocks b).length
        · obtain ⟨gl, rfl, hgl, _⟩ := Ow.ptr H9.out (by rw [← tg_length]; omega)
          have hkl' : k < (tgt F.blocks (b : Int)).length := by rw [← tg_length]; exact hkl
          have clk := (OI.keep H9.out HK.out (fun g hg _ hs => hs.elim (fun e => by omega) (fun h => by have := (HSO.out _ h).2.1; omega))).at k hkl'
          obtain ⟨t, ht⟩ : ∃ t, (tg F.blocks b)[k] = t := ⟨_, rfl⟩
          rw [tgt_get hkl hkl', ht] at clk
          have htn : t < F.blocks.length := tg_mem (ht ▸ List.getElem_mem hkl)
          have HTK := Hd.mk ht
          have cmt := HM.out.at t (by rw [bl_len]; exact htn)
          rw [bl_at] at cmt
          have hkd : (k : Int) < ((tg F.blocks b).length : Int) := by omega
          clear ht hgl
          cases hmt : m2 t with
          | true =>
            rw [hmt] at cmt
            have HMT := Hd.mk hmt
            clear hmt
            go_wp2
            go_roundg ((tg F.blocks b).length - (k + 1))
            case measure => omega
            case rel => exact ⟨k + 1, m2, o2, by go_num, hkl, Nat.le_refl _, fun m' o' h => HOL.out m' o' (.skip hkl (by rw [HTK.out]; exact HMT.out) h), HMON.out, hl2, HM.out, HO.out, HK.out⟩
          | false =>
            rw [hmt] at cmt
            have HMT := Hd.mk hmt
            clear hmt
            have hKd : Keeps wr wr.drew (fun _ => False) := (Keeps.refl wr _).drew
            have HC := Hd.mk (IH.out wr.drew t m2 o2 bi (.slice A3 o2.length c3) (fun g => (So g ∨ wt.heap.size ≤ g) ∧ g < wr.heap.size) (by omega) htn HMT.out (by omega)
              ((((HB0.out.trans HKt.out (fun g hg e => by omega)).trans HK.out (fun g hg e => e.elim (fun e => by omega) (fun h => by have := (HSO.out _ h).1; omega))).trans hKd (fun _ _ hf => hf)).below0) hbi
              (fun g hg => ⟨hg.1.elim (fun h => (HSO.out _ h).1) (fun h => by omega), hg.2, hg.1.elim (fun h => (HSO.out _ h).2.2) (fun h => by omega)⟩)
              (OB.keep HM.out hKd (fun _ _ _ hf => hf)) (OI.keep ⟨HO.out.1, fun g hg => ⟨HO.out.2 g hg, Ow.lt HO.out g hg⟩⟩ hKd (fun _ _ _ hf => hf)))
            clear hKd
            go_wp2
            go_still_tail 7, (by kernel_rfl)
            change wpList _ _ _ _ _ wr.drew
            go_wp2_with fail
            refine HC.out.mono ?_
            rintro e w5 ⟨v5, m5, o5, rfl, h1, h2, h3, h4⟩
            have H1 := Hd.mk h1
            have H2 := Hd.mk h2
            have H3 := Hd.mk h3
            have H4 := Hd.mk h4
            clear h1 h2 h3 h4
            go_wp2
            go_roundg ((tg F.blocks b).length - (k + 1))
            case measure => omega
            case rel =>
              have hf := H1.out.facts (fun b t ht => tg_mem ht)
              have hcp := cnt_put htn HMT.out
              refine ⟨k + 1, m5, o5 ++ [t], by go_num, hkl, Nat.le_refl _, fun m' o' h => HOL.out m' o' (.into hkl (by rw [HTK.out]; exact HMT.out) (by rw [HTK.out]; exact H1.out) (by rw [HTK.out]; exact h)), fun x hx => hf.1 x ?_, ?_, H2.out, ?_, ?_⟩
              · unfold mset
                split
                · rfl
                · exact HMON.out x hx
              · simp only [List.length_append, List.length_singleton]
                have := hf.2
                omega
              · exact Ow.mono H3.out (fun g hg => hg.elim (fun h => h.1) (fun h => .inr (by simp at h; omega)))
              · exact (HK.out.drew).trans H4.out (fun g hg hs => hs.elim .inl (fun h => h.1.elim .inr (fun h => by omega)))
        · obtain rfl : k = (tg F.blocks b).length := by omega
          have hob : (ints o2).length ≤ 1000000 := by simp [ints]; omega
          have HD := Hd.mk (HOL.out _ _ .done)
          go_wp2_with (at_builtin; refine append_int rfl (.tmp 39) (.tmp 41) rfl _ (ints o2) (b : Int) rfl HO.out _ _ rfl rfl hob ?_; intro A5 c5 w5 hc5 ho5 hk5; have HO5 := Hd.mk ho5; have HK5 := Hd.mk hk5; clear ho5 hk5)
          go_ret
          refine ⟨_, m2, o2, rfl, HD.out, OB.keep HM.out HK5.out (fun g hg _ hs => hs.elim (fun h => (HSO.out _ h).2.2 hg) (fun h => by omega)), ?_, ?_⟩
          · have e : ints (o2 ++ [b]) = ints o2 ++ [(b : Int)] := by simp [ints]
            rw [e]
            exact HO5.out.mono (fun g hg => hg.elim (fun h => h.elim .inl (fun h => .inr (by omega))) (fun h => .inr (by omega)))
          · exact (((HKt.out.mono (T := fun g => g = bi ∨ So g) (fun _ _ h => .inl h)).trans HK.out (fun g hg hs => hs)).trans HK5.out (fun g hg hs => hs.elim .inr (fun h => by omega)))
end Go.Proofs.Ytggbeehnmconmaa
