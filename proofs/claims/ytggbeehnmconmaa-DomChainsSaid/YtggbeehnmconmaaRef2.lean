/- The document's answers: Targets, Sources. -/
import Derived.Test.YtggbeehnmconmaaRef1
namespace Go.Proofs.Ytggbeehnmconmaa
open Go.RowKit

theorem app_eq {a b c d : List Int} (h : a = b) (k : c = d) : a ++ c = b ++ d := by rw [h, k]
def inR (n : Nat) (t : Int) : List Int := if 0 ≤ t ∧ t < n then [t] else []
theorem tgt_ref {bs : List Blk} {i : Nat} (hi : i < bs.length) :
    tgt bs (i : Int) = if bs[i].fin = 0 then inR bs.length bs[i].a else if bs[i].fin = 1 then inR bs.length bs[i].a ++ (if bs[i].b = bs[i].a then [] else inR bs.length bs[i].b) else [] := by
  rw [tgt, if_neg (by omega), Int.toNat_natCast, getElem!_pos _ i hi]
  generalize bs[i] = x
  have h1 : ∀ t : Int, List.filter (fun t => !(decide (t < 0) || decide (t ≥ (bs.length : Int)))) [t] = inR bs.length t := fun t => by
    unfold inR
    by_cases h : 0 ≤ t ∧ t < (bs.length : Int)
    · rw [if_pos h, List.filter_cons_of_pos (by simp; omega), List.filter_nil]
    · rw [if_neg h, List.filter_cons_of_neg (by simp; omega), List.filter_nil]
  unfold tgtL
  split
  · exact h1 _
  · split
    · by_cases e : x.a = x.b
      · rw [if_pos e, if_pos e.symm, h1, List.append_nil]
      · rw [if_neg e, if_neg (fun h => e h.symm), show [x.a, x.b] = [x.a] ++ [x.b] from rfl, List.filter_append, h1, h1]
    · rfl

set_option maxHeartbeats 4000000 in
set_option maxRecDepth 100000 in
theorem rTargets_calls (F : Fn) (v : Value) (b : Int) (w : World) (h : RFn w v F) :
    Calls Try.prog 37 #[v, .int .i64 b] w fun e w' => ∃ v', e = .returned v' ∧ OI w' (fun g => w.heap.size ≤ g) v' (tgt F.blocks b) ∧ Below w.heap.size w w' := by
  obtain ⟨vb, rfl, hb⟩ := h
  unfold fnV
  obtain ⟨A, c, rfl, hc, hl⟩ := RL.form hb
  have hout : b < 0 ∨ b ≥ F.blocks.length → tgt F.blocks b = [] := fun h => by rw [tgt, if_pos h]
  by_cases h1 : b < 0
  · have H := Hd.mk (hout (.inl h1))
    clear hout hb
    go_enter Try.func37, Try.ntmps37
    go_wp2
    go_ret
    exact ⟨_, rfl, by rw [H.out]; exact Ow.nil _ _ _ _, ((Keeps.refl _ _).alloc _).below0⟩
  · by_cases h2 : b ≥ F.blocks.length
    · have H := Hd.mk (hout (.inr h2))
      clear hout hb
      go_enter Try.func37, Try.ntmps37
      go_wp2
      go_ret
      exact ⟨_, rfl, by rw [H.out]; exact Ow.nil _ _ _ _, ((Keeps.refl _ _).alloc _).below0⟩
    · clear hout
      obtain ⟨i, rfl⟩ := Int.eq_ofNat_of_zero_le (Int.not_lt.1 h1)
      have hi : i < F.blocks.length := by omega
      obtain ⟨bk, o, c', e1, _⟩ := RL.addr hb (by omega)
      injection e1 with e1 _ e2
      subst e1 e2
      obtain ⟨vp, vi, c0, c1, c2, c3, c4, c5, hp, hv⟩ := RBlks.at hb i hi
      obtain ⟨Ap, cp, rfl, _, _⟩ := RL.form hp
      obtain ⟨Ai, ci, rfl, _, _⟩ := RL.form hv
      have hbk : bk < w.heap.size := World.block_lt_of_cell? w _ c2
      have HT := Hd.mk (tgt_ref hi)
      clear hp hv hb h1 h2
      generalize F.blocks[i] = x at *
      have hn0 : (0 : Int) ≤ (F.blocks.length : Int) := by omega
      by_cases e0 : x.fin = 0
      · rw [if_pos e0] at HT
        by_cases ha0 : x.a < 0
        · have HIA : Hd (inR F.blocks.length x.a = []) := ⟨by rw [inR, if_neg (by omega)]⟩
          have HL := Hd.mk (HT.out.trans HIA.out)
          clear HT HIA
          go_enter Try.func37, Try.ntmps37
          go_wp2
          go_ret
          exact ⟨_, rfl, by rw [HL.out]; exact Ow.nil _ _ _ _, Keeps.below0 (((Keeps.refl w (fun _ => False)).alloc _).alloc _)⟩
        · by_cases ha1 : x.a ≥ F.blocks.length
          · have HIA : Hd (inR F.blocks.length x.a = []) := ⟨by rw [inR, if_neg (by omega)]⟩
            have HL := Hd.mk (HT.out.trans HIA.out)
            clear HT HIA
            go_enter Try.func37, Try.ntmps37
            go_wp2
            go_ret
            exact ⟨_, rfl, by rw [HL.out]; exact Ow.nil _ _ _ _, Keeps.below0 (((Keeps.refl w (fun _ => False)).alloc _).alloc _)⟩
          · have HIA : Hd (inR F.blocks.length x.a = [x.a]) := ⟨by rw [inR, if_pos (by omega)]⟩
            have hap : 0 ≤ x.a := by omega
            have haq : x.a < F.blocks.length := by omega
            have HL := Hd.mk (HT.out.trans HIA.out)
            clear HT HIA
            go_enter Try.func37, Try.ntmps37
            go_wp2_with (at_builtin; refine append_int rfl (.tmp 40) (.tmp 43) rfl _ [] x.a rfl (show OI _ (fun _ => False) _ [] from Ow.nil _ _ _ _) _ _ rfl (by simp) (by simp) ?_; intro A2 c2 w2 hc2 ho2 hk2; have b0 := hk2.cell (a := ⟨w.heap.size, 4, none⟩) (v := .slice (some ⟨bk, o, none⟩) F.blocks.length c) (by go_simp) (fun h => h); have b2 := hk2.cell (a := ⟨w.heap.size + 1, 2, none⟩) (v := .int .i64 x.fin) (by go_simp) (fun h => h); have b4 := hk2.cell (a := ⟨w.heap.size + 1, 4, none⟩) (v := .int .i64 x.a) (by go_simp) (fun h => h); have b5 := hk2.cell (a := ⟨w.heap.size + 1, 5, none⟩) (v := .int .i64 x.b) (by go_simp) (fun h => h))
            go_ret
            exact ⟨_, rfl, by rw [HL.out]; exact ho2.mono (fun g hg => by simp at hg; omega), Keeps.below0 ((((Keeps.refl w (fun _ => False)).alloc _).alloc _).trans hk2 (fun g hg hs => hs))⟩
      · rw [if_neg e0] at HT
        by_cases e1 : x.fin = 1
        · rw [if_pos e1] at HT
          by_cases ha0 : x.a < 0
          · have HIA : Hd (inR F.blocks.length x.a = []) := ⟨by rw [inR, if_neg (by omega)]⟩
            by_cases e2 : x.b = x.a
            · have HL := Hd.mk (HT.out.trans ((app_eq HIA.out (if_pos e2)).trans (List.append_nil _)))
              clear HT HIA
              go_enter Try.func37, Try.ntmps37
              go_wp2
              go_ret
              exact ⟨_, rfl, by rw [HL.out]; exact Ow.nil _ _ _ _, Keeps.below0 (((Keeps.refl w (fun _ => False)).alloc _).alloc _)⟩
            · by_cases hb0 : x.b < 0
              · skip
                have HIB : Hd (inR F.blocks.length x.b = []) := ⟨by rw [inR, if_neg (by omega)]⟩
                have HL := Hd.mk (HT.out.trans (app_eq HIA.out ((if_neg e2).trans HIB.out)))
                clear HT HIA HIB
                go_enter Try.func37, Try.ntmps37
                go_wp2
                go_ret
                exact ⟨_, rfl, by rw [HL.out]; exact Ow.nil _ _ _ _, Keeps.below0 (((Keeps.refl w (fun _ => False)).alloc _).alloc _)⟩
              · by_cases hb1 : x.b ≥ F.blocks.length
                · skip
                  have HIB : Hd (inR F.blocks.length x.b = []) := ⟨by rw [inR, if_neg (by omega)]⟩
                  have HL := Hd.mk (HT.out.trans (app_eq HIA.out ((if_neg e2).trans HIB.out)))
                  clear HT HIA HIB
                  go_enter Try.func37, Try.ntmps37
                  go_wp2
                  go_ret
                  exact ⟨_, rfl, by rw [HL.out]; exact Ow.nil _ _ _ _, Keeps.below0 (((Keeps.refl w (fun _ => False)).alloc _).alloc _)⟩
                · skip
                  have HIB : Hd (inR F.blocks.length x.b = [x.b]) := ⟨by rw [inR, if_pos (by omega)]⟩
                  have hbp : 0 ≤ x.b := by omega
                  have hbq : x.b < F.blocks.length := by omega
                  have HL := Hd.mk (HT.out.trans (app_eq HIA.out ((if_neg e2).trans HIB.out)))
                  clear HT HIA HIB
                  go_enter Try.func37, Try.ntmps37
                  go_wp2_with (at_builtin; refine append_int rfl (.tmp 68) (.tmp 71) rfl _ [] x.b rfl (show OI _ (fun _ => False) _ [] from Ow.nil _ _ _ _) _ _ rfl (by simp) (by simp) ?_; intro A3 c3 w3 hc3 ho3 hk3)
                  go_ret
                  exact ⟨_, rfl, by rw [HL.out]; exact ho3.mono (fun g hg => by first | (have := hk2.size; simp at hg this; omega) | (simp at hg; omega)), Keeps.below0 ((((Keeps.refl w (fun _ => False)).alloc _).alloc _).trans hk3 (fun g hg hs => by simp at hg hs <;> omega))⟩
          · by_cases ha1 : x.a ≥ F.blocks.length
            · have HIA : Hd (inR F.blocks.length x.a = []) := ⟨by rw [inR, if_neg (by omega)]⟩
              by_cases e2 : x.b = x.a
              · have HL := Hd.mk (HT.out.trans ((app_eq HIA.out (if_pos e2)).trans (List.append_nil _)))
                clear HT HIA
                go_enter Try.func37, Try.ntmps37
                go_wp2
                go_ret
                exact ⟨_, rfl, by rw [HL.out]; exact Ow.nil _ _ _ _, Keeps.below0 (((Keeps.refl w (fun _ => False)).alloc _).alloc _)⟩
              · by_cases hb0 : x.b < 0
                · skip
                  have HIB : Hd (inR F.blocks.length x.b = []) := ⟨by rw [inR, if_neg (by omega)]⟩
                  have HL := Hd.mk (HT.out.trans (app_eq HIA.out ((if_neg e2).trans HIB.out)))
                  clear HT HIA HIB
                  go_enter Try.func37, Try.ntmps37
                  go_wp2
                  go_ret
                  exact ⟨_, rfl, by rw [HL.out]; exact Ow.nil _ _ _ _, Keeps.below0 (((Keeps.refl w (fun _ => False)).alloc _).alloc _)⟩
                · by_cases hb1 : x.b ≥ F.blocks.length
                  · skip
                    have HIB : Hd (inR F.blocks.length x.b = []) := ⟨by rw [inR, if_neg (by omega)]⟩
                    have HL := Hd.mk (HT.out.trans (app_eq HIA.out ((if_neg e2).trans HIB.out)))
                    clear HT HIA HIB
                    go_enter Try.func37, Try.ntmps37
                    go_wp2
                    go_ret
                    exact ⟨_, rfl, by rw [HL.out]; exact Ow.nil _ _ _ _, Keeps.below0 (((Keeps.refl w (fun _ => False)).alloc _).alloc _)⟩
                  · skip
                    have HIB : Hd (inR F.blocks.length x.b = [x.b]) := ⟨by rw [inR, if_pos (by omega)]⟩
                    have hbp : 0 ≤ x.b := by omega
                    have hbq : x.b < F.blocks.length := by omega
                    have HL := Hd.mk (HT.out.trans (app_eq HIA.out ((if_neg e2).trans HIB.out)))
                    clear HT HIA HIB
                    go_enter Try.func37, Try.ntmps37
                    go_wp2_with (at_builtin; refine append_int rfl (.tmp 68) (.tmp 71) rfl _ [] x.b rfl (show OI _ (fun _ => False) _ [] from Ow.nil _ _ _ _) _ _ rfl (by simp) (by simp) ?_; intro A3 c3 w3 hc3 ho3 hk3)
                    go_ret
                    exact ⟨_, rfl, by rw [HL.out]; exact ho3.mono (fun g hg => by first | (have := hk2.size; simp at hg this; omega) | (simp at hg; omega)), Keeps.below0 ((((Keeps.refl w (fun _ => False)).alloc _).alloc _).trans hk3 (fun g hg hs => by simp at hg hs <;> omega))⟩
            · have HIA : Hd (inR F.blocks.length x.a = [x.a]) := ⟨by rw [inR, if_pos (by omega)]⟩
              have hap : 0 ≤ x.a := by omega
              have haq : x.a < F.blocks.length := by omega
              by_cases e2 : x.b = x.a
              · have HL := Hd.mk (HT.out.trans ((app_eq HIA.out (if_pos e2)).trans (List.append_nil _)))
                clear HT HIA
                go_enter Try.func37, Try.ntmps37
                go_wp2_with (at_builtin; refine append_int rfl (.tmp 40) (.tmp 43) rfl _ [] x.a rfl (show OI _ (fun _ => False) _ [] from Ow.nil _ _ _ _) _ _ rfl (by simp) (by simp) ?_; intro A2 c2 w2 hc2 ho2 hk2; have b0 := hk2.cell (a := ⟨w.heap.size, 4, none⟩) (v := .slice (some ⟨bk, o, none⟩) F.blocks.length c) (by go_simp) (fun h => h); have b2 := hk2.cell (a := ⟨w.heap.size + 1, 2, none⟩) (v := .int .i64 x.fin) (by go_simp) (fun h => h); have b4 := hk2.cell (a := ⟨w.heap.size + 1, 4, none⟩) (v := .int .i64 x.a) (by go_simp) (fun h => h); have b5 := hk2.cell (a := ⟨w.heap.size + 1, 5, none⟩) (v := .int .i64 x.b) (by go_simp) (fun h => h))
                go_ret
                exact ⟨_, rfl, by rw [HL.out]; exact ho2.mono (fun g hg => by simp at hg; omega), Keeps.below0 ((((Keeps.refl w (fun _ => False)).alloc _).alloc _).trans hk2 (fun g hg hs => hs))⟩
              · by_cases hb0 : x.b < 0
                · skip
                  have HIB : Hd (inR F.blocks.length x.b = []) := ⟨by rw [inR, if_neg (by omega)]⟩
                  have HL := Hd.mk (HT.out.trans (app_eq HIA.out ((if_neg e2).trans HIB.out)))
                  clear HT HIA HIB
                  go_enter Try.func37, Try.ntmps37
                  go_wp2_with (at_builtin; refine append_int rfl (.tmp 40) (.tmp 43) rfl _ [] x.a rfl (show OI _ (fun _ => False) _ [] from Ow.nil _ _ _ _) _ _ rfl (by simp) (by simp) ?_; intro A2 c2 w2 hc2 ho2 hk2; have b0 := hk2.cell (a := ⟨w.heap.size, 4, none⟩) (v := .slice (some ⟨bk, o, none⟩) F.blocks.length c) (by go_simp) (fun h => h); have b2 := hk2.cell (a := ⟨w.heap.size + 1, 2, none⟩) (v := .int .i64 x.fin) (by go_simp) (fun h => h); have b4 := hk2.cell (a := ⟨w.heap.size + 1, 4, none⟩) (v := .int .i64 x.a) (by go_simp) (fun h => h); have b5 := hk2.cell (a := ⟨w.heap.size + 1, 5, none⟩) (v := .int .i64 x.b) (by go_simp) (fun h => h))
                  go_ret
                  exact ⟨_, rfl, by rw [HL.out]; exact ho2.mono (fun g hg => by simp at hg; omega), Keeps.below0 ((((Keeps.refl w (fun _ => False)).alloc _).alloc _).trans hk2 (fun g hg hs => hs))⟩
                · by_cases hb1 : x.b ≥ F.blocks.length
                  · skip
                    have HIB : Hd (inR F.blocks.length x.b = []) := ⟨by rw [inR, if_neg (by omega)]⟩
                    have HL := Hd.mk (HT.out.trans (app_eq HIA.out ((if_neg e2).trans HIB.out)))
                    clear HT HIA HIB
                    go_enter Try.func37, Try.ntmps37
                    go_wp2_with (at_builtin; refine append_int rfl (.tmp 40) (.tmp 43) rfl _ [] x.a rfl (show OI _ (fun _ => False) _ [] from Ow.nil _ _ _ _) _ _ rfl (by simp) (by simp) ?_; intro A2 c2 w2 hc2 ho2 hk2; have b0 := hk2.cell (a := ⟨w.heap.size, 4, none⟩) (v := .slice (some ⟨bk, o, none⟩) F.blocks.length c) (by go_simp) (fun h => h); have b2 := hk2.cell (a := ⟨w.heap.size + 1, 2, none⟩) (v := .int .i64 x.fin) (by go_simp) (fun h => h); have b4 := hk2.cell (a := ⟨w.heap.size + 1, 4, none⟩) (v := .int .i64 x.a) (by go_simp) (fun h => h); have b5 := hk2.cell (a := ⟨w.heap.size + 1, 5, none⟩) (v := .int .i64 x.b) (by go_simp) (fun h => h))
                    go_ret
                    exact ⟨_, rfl, by rw [HL.out]; exact ho2.mono (fun g hg => by simp at hg; omega), Keeps.below0 ((((Keeps.refl w (fun _ => False)).alloc _).alloc _).trans hk2 (fun g hg hs => hs))⟩
                  · skip
                    have HIB : Hd (inR F.blocks.length x.b = [x.b]) := ⟨by rw [inR, if_pos (by omega)]⟩
                    have hbp : 0 ≤ x.b := by omega
                    have hbq : x.b < F.blocks.length := by omega
                    have HL := Hd.mk (HT.out.trans (app_eq HIA.out ((if_neg e2).trans HIB.out)))
                    clear HT HIA HIB
                    go_enter Try.func37, Try.ntmps37
                    go_wp2_with (first | (at_builtin; refine append_int rfl (.tmp 68) (.tmp 71) rfl _ [x.a] x.b rfl ho2 _ _ rfl (by simp) (by simp) ?_; intro A3 c3 w3 hc3 ho3 hk3) | (at_builtin; refine append_int rfl (.tmp 40) (.tmp 43) rfl _ [] x.a rfl (show OI _ (fun _ => False) _ [] from Ow.nil _ _ _ _) _ _ rfl (by simp) (by simp) ?_; intro A2 c2 w2 hc2 ho2 hk2; have b0 := hk2.cell (a := ⟨w.heap.size, 4, none⟩) (v := .slice (some ⟨bk, o, none⟩) F.blocks.length c) (by go_simp) (fun h => h); have b2 := hk2.cell (a := ⟨w.heap.size + 1, 2, none⟩) (v := .int .i64 x.fin) (by go_simp) (fun h => h); have b4 := hk2.cell (a := ⟨w.heap.size + 1, 4, none⟩) (v := .int .i64 x.a) (by go_simp) (fun h => h); have b5 := hk2.cell (a := ⟨w.heap.size + 1, 5, none⟩) (v := .int .i64 x.b) (by go_simp) (fun h => h)))
                    go_ret
                    exact ⟨_, rfl, by rw [HL.out]; exact ho3.mono (fun g hg => by first | (have := hk2.size; simp at hg this; omega) | (simp at hg; omega)), Keeps.below0 (((((Keeps.refl w (fun _ => False)).alloc _).alloc _).trans hk2 (fun g hg hs => hs)).trans hk3 (fun g hg hs => by simp at hg hs <;> omega))⟩
        · rw [if_neg e1] at HT
          have HL := HT
          have e0b : (x.fin != 0) = true := by simpa using e0
          have e1b : (x.fin != 1) = true := by simpa using e1
          clear HT
          go_enter Try.func37, Try.ntmps37
          go_wp2
          go_ret
          exact ⟨_, rfl, by rw [HL.out]; exact Ow.nil _ _ _ _, Keeps.below0 (((Keeps.refl w (fun _ => False)).alloc _).alloc _)⟩
end Go.Proofs.Ytggbeehnmconmaa
