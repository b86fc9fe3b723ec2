/- The program's dom: Targets. -/
import Derived.Test.YtggbeehnmconmaaB1
import Derived.Test.YtggbeehnmconmaaDomP
namespace Go.Proofs.Ytggbeehnmconmaa
open Go.RowKit

set_option maxHeartbeats 1000000 in
set_option maxRecDepth 100000 in
theorem Targets_1_calls (x : Int) (g : Nat) (A : Option Addr) (n c : Nat) (w : World) (hg : w.cell? ⟨g, 4, none⟩ = some (.slice A n c)) :
    Calls Try.prog 80 #[.int .i64 x, .pointer (some ⟨g, 0, none⟩)] w fun e w' => e = .returned (.bool (decide (x < 0) || decide (x ≥ n))) ∧ w' = w := by
  by_cases h : x < 0
  · have h2 : decide (x < 0) = true := decide_eq_true h
    go_enter Try.func80, Try.ntmps80
    go_wp2
    go_ret
    exact ⟨by simp [h2], rfl⟩
  · have h2 : decide (x < 0) = false := decide_eq_false h
    go_enter Try.func80, Try.ntmps80
    go_wp2
    go_ret
    exact ⟨by simp, rfl⟩

theorem targets_del {W : World} {l : List Int} {v : Value} {S : Nat → Prop} {bf m cc : Nat} {A : Option Addr} (hbox : W.cell? ⟨bf, 4, none⟩ = some (.slice A m cc)) (hO : OI W S v l) (hbf : ¬ S bf) :
    Calls Try.prog 79 #[v, .func (.func 80) #[] #[.pointer (some ⟨bf, 0, none⟩)]] W fun e w' => ∃ v', e = .returned v' ∧ OI w' S v' (l.filter fun t => !(decide (t < 0) || decide (t ≥ (m : Int)))) ∧ Keeps W w' S :=
  DeleteFunc_int_calls hO (fun t => decide (t < 0) || decide (t ≥ (m : Int))) 80 #[.pointer (some ⟨bf, 0, none⟩)] (enters_of Try.func80 (by kernel_rfl) rfl)
    (fun W' x hk => (Targets_1_calls x bf A m cc W' (hk.cell hbox hbf)).mono fun _ _ ⟨h1, h2⟩ => ⟨h1, 0, h2⟩)

set_option maxHeartbeats 1000000 in
set_option maxRecDepth 100000 in
theorem Targets_calls (F : Fn) (v : Value) (b : Int) (w : World) (h : RFn w v F) :
    Calls Try.prog 36 #[v, .int .i64 b] w fun e w' => ∃ v', e = .returned v' ∧ OI w' (fun g => w.heap.size ≤ g) v' (tgt F.blocks b) ∧ Below w.heap.size w w' := by
  obtain ⟨vb, rfl, hb⟩ := h
  unfold fnV
  obtain ⟨A, c, rfl, hc, hl⟩ := RL.form hb
  have hout : b < 0 ∨ b ≥ F.blocks.length → tgt F.blocks b = [] := fun h => by rw [tgt, if_pos h]
  by_cases h1 : b < 0
  · have H := Hd.mk (hout (.inl h1))
    clear hout hb
    go_enter Try.func36, Try.ntmps36
    go_wp2
    go_ret
    exact ⟨_, rfl, by rw [H.out]; exact Ow.nil _ _ _ _, ((Keeps.refl _ _).alloc _).below0⟩
  · by_cases h2 : b ≥ F.blocks.length
    · have H := Hd.mk (hout (.inr h2))
      clear hout hb
      go_enter Try.func36, Try.ntmps36
      go_wp2
      go_ret
      exact ⟨_, rfl, by rw [H.out]; exact Ow.nil _ _ _ _, ((Keeps.refl _ _).alloc _).below0⟩
    · clear hout
      obtain ⟨i, rfl⟩ := Int.eq_ofNat_of_zero_le (Int.not_lt.1 h1)
      have hi : i < F.blocks.length := by omega
      obtain ⟨bk, o, c', e1, _⟩ := RL.addr hb (by omega)
      injection e1 with e1 _ e2
      subst e1 e2
      obtain ⟨vp, vi, c0, c1, c2, c3, c4, c5, hp, hv⟩ := RBlks.at hb i hi
      obtain ⟨Ap, cp, rfl, _, _⟩ := RL.form hp
      obtain ⟨Ai, ci, rfl, _, _⟩ := RL.form hv
      have hbk : bk < w.heap.size := World.block_lt_of_cell? w _ c2
      have HT : Hd (tgt F.blocks i = (tgtL F.blocks[i]).filter fun t => !(decide (t < 0) || decide (t ≥ (F.blocks.length : Int)))) := ⟨by
        rw [tgt, if_neg (by omega), Int.toNat_natCast, getElem!_pos _ i hi]⟩
      clear hp hv hb h1 h2
      generalize hx : F.blocks[i] = x at *
      clear hx
      have fin : ∀ {W w' : World} {v' : Value} {l : List Int} {g : Nat}, Keeps w W (fun _ => False) → w.heap.size ≤ g → l = tgtL x → OI w' (fun k => k = g) v' (l.filter fun t => !(decide (t < 0) || decide (t ≥ (F.blocks.length : Int)))) → Keeps W w' (fun k => k = g) →
          OI w' (fun g => w.heap.size ≤ g) v' (tgt F.blocks i) ∧ Below w.heap.size w w' := fun {W w' v' l g} hk hg hl ho hk' => by
        subst hl
        exact ⟨by rw [HT.out]; exact ho.mono (fun k e => e ▸ hg), (hk.trans hk' (fun k hk e => by omega)).below0⟩
      have FIN := Hd.mk @fin
      clear fin
      by_cases e0 : x.fin = 0
      · have HL : Hd ([x.a] = tgtL x) := ⟨by rw [tgtL, if_pos e0]⟩
        go_enter Try.func36, Try.ntmps36
        go_wp2_with fail
        refine Calls.mono (targets_del (S := fun k => k = w.heap.size + 1 + 1) (l := [x.a]) (bf := w.heap.size) (A := some ⟨bk, o, none⟩) (m := F.blocks.length) (cc := c) ?_ ?_ ?_) ?_
        · go_simp
        · exact Ow.of_obj (obj_new (by simp)) rfl (by simp) (by omega) (by rfl) (by rfl)
        · omega
        · rintro e w' ⟨v', rfl, ho, hk⟩
          go_wp2
          go_ret
          exact ⟨_, rfl, FIN.out ((((Keeps.refl _ _).alloc _).alloc _).alloc _) (by omega) HL.out ho hk⟩
      · by_cases e1 : x.fin = 1
        · by_cases e2 : x.a = x.b
          · have HL : Hd ([x.b] = tgtL x) := ⟨by rw [tgtL, if_neg e0, if_pos e1, if_pos e2, e2]⟩
            go_enter Try.func36, Try.ntmps36
            go_wp2_with fail
            refine Calls.mono (targets_del (S := fun k => k = w.heap.size + 1 + 1) (l := [x.b]) (bf := w.heap.size) (A := some ⟨bk, o, none⟩) (m := F.blocks.length) (cc := c) ?_ ?_ ?_) ?_
            · go_simp
            · exact Ow.of_obj (obj_new (by simp)) rfl (by simp) (by omega) (by rfl) (by rfl)
            · omega
            · rintro e w' ⟨v', rfl, ho, hk⟩
              go_wp2
              go_ret
              exact ⟨_, rfl, FIN.out ((((Keeps.refl _ _).alloc _).alloc _).alloc _) (by omega) HL.out ho hk⟩
          · have HL : Hd ([x.a, x.b] = tgtL x) := ⟨by rw [tgtL, if_neg e0, if_pos e1, if_neg e2]⟩
            go_enter Try.func36, Try.ntmps36
            go_wp2_with fail
            refine Calls.mono (targets_del (S := fun k => k = w.heap.size + 1 + 1) (l := [x.a, x.b]) (bf := w.heap.size) (A := some ⟨bk, o, none⟩) (m := F.blocks.length) (cc := c) ?_ ?_ ?_) ?_
            · go_simp
            · exact Ow.of_obj (obj_new (by simp)) rfl (by simp) (by omega) (by rfl) (by rfl)
            · omega
            · rintro e w' ⟨v', rfl, ho, hk⟩
              go_wp2
              go_ret
              exact ⟨_, rfl, FIN.out ((((Keeps.refl _ _).alloc _).alloc _).alloc _) (by omega) HL.out ho hk⟩
        · have HL : Hd (([] : List Int) = tgtL x) := ⟨by rw [tgtL, if_neg e0, if_neg e1]⟩
          go_enter Try.func36, Try.ntmps36
          go_wp2_with fail
          refine Calls.mono (targets_del (S := fun k => k = w.heap.size + 1 + 1) (l := ([] : List Int)) (bf := w.heap.size) (A := some ⟨bk, o, none⟩) (m := F.blocks.length) (cc := c) ?_ ?_ ?_) ?_
          · go_simp
          · exact Ow.nil _ _ _ _
          · omega
          · rintro e w' ⟨v', rfl, ho, hk⟩
            go_wp2
            go_ret
            exact ⟨_, rfl, FIN.out (((Keeps.refl _ _).alloc _).alloc _) (by omega) HL.out ho hk⟩

end Go.Proofs.Ytggbeehnmconmaa
