/- The laws' helpers: lists. -/
import Derived.Deep.QuietTactic
import Derived.BigQuiet
import Derived.Test.YtggbeehnmconmaaRef7
namespace Go.Proofs.Ytggbeehnmconmaa
open Go.RowKit

theorem ints_read {w : World} {b o m c : Nat} {xss : List (List Int)} (h : RIntss w (.slice (some ⟨b, o, none⟩) m c) xss) {i : Nat} (hi : i < xss.length) :
    ∃ u, w.cell? ⟨b, o + i, none⟩ = some u ∧ RInts w u xss[i] := by
  obtain ⟨b', o', c', e, _, h4⟩ := RL.addr h (by omega)
  injection e with e1 e2 e3
  injection e1 with e1
  injection e1 with e1 e4
  subst e1 e4
  obtain ⟨cs, hc1, ⟨u, rfl, hu⟩, hc3⟩ := h4 i hi
  refine ⟨u, ?_, hu⟩
  have := hc3 0 _ rfl
  rwa [Nat.mul_one, Nat.add_zero] at this

def ListsRel (xss yss : List (List Int)) (w : World) (gg : Nat) (v5 : Value) (wr : World) : Prop :=
  ∃ i : Nat, v5 = .int .i64 i ∧ i ≤ xss.length ∧ xss.length - i ≤ gg ∧ xss.take i = yss.take i ∧ Keeps w wr (fun _ => False)

theorem SameInts_quiet {w : World} {va vb : Value} {xs ys : List Int} (ha : RInts w va xs) (hb : RInts w vb ys) (n : Nat) :
    Calls Try.prog 21 #[va, vb] (w.drewN n) fun e w' => e = .returned (.bool (decide (xs = ys))) ∧ ∃ m, w' = w.drewN m :=
  (SameInts_calls (RInts.below ((Keeps.refl w (fun _ => False)).drewN n).below0 ha) (RInts.below ((Keeps.refl w (fun _ => False)).drewN n).below0 hb)).mono fun _ _ ⟨h1, q, h2⟩ => ⟨h1, n + q, by rw [h2, drewN_add]⟩

set_option maxHeartbeats 1000000 in
set_option maxRecDepth 100000 in
theorem lists_calls {w : World} {va vb : Value} {xss yss : List (List Int)} (ha : RIntss w va xss) (hb : RIntss w vb yss) :
    Calls Try.prog 26 #[va, vb] w fun e w' => e = .returned (.bool (decide (xss = yss))) ∧ Below w.heap.size w w' := by
  obtain ⟨A1, c1, rfl, _, _⟩ := RL.form ha
  obtain ⟨A2, c2, rfl, _, _⟩ := RL.form hb
  have HA := Hd.mk ha
  have HB := Hd.mk hb
  clear ha hb
  by_cases hl : xss.length = yss.length
  · have hne : ((xss.length : Int) != (yss.length : Int)) = false := by simp [hl]
    have HL := Hd.mk hl
    clear hl
    go_enter Try.func26, Try.ntmps26
    go_wp2
    go_loopg [5] xss.length (fun gg v5 wr => ListsRel xss yss w gg v5 wr)
    case atStart => exact ⟨0, rfl, Nat.zero_le _, Nat.le_refl _, rfl, Keeps.refl _ _⟩
    case round =>
      obtain ⟨i, rfl, hi, hg, ht, hK⟩ := hrel
      have HT := Hd.mk ht
      have HK := Hd.mk hK
      clear ht hK
      by_cases hlt : i < xss.length
      · have hlt2 : i < yss.length := by have := HL.out; omega
        obtain ⟨b1, o1, rfl⟩ := RL.ptr HA.out (by omega)
        obtain ⟨b2, o2, rfl⟩ := RL.ptr HB.out (by omega)
        obtain ⟨u1, e1, r1⟩ := ints_read (RIntss.below HK.out.below0 HA.out) hlt
        obtain ⟨u2, e2, r2⟩ := ints_read (RIntss.below HK.out.below0 HB.out) hlt2
        have hp1 : (i : Int) < (xss.length : Int) := by omega
        have hp2 : (i : Int) < (yss.length : Int) := by omega
        obtain ⟨x, hx⟩ : ∃ x, xss[i] = x := ⟨_, rfl⟩
        obtain ⟨y, hy⟩ : ∃ y, yss[i] = y := ⟨_, rfl⟩
        rw [hx] at r1
        rw [hy] at r2
        have HX := Hd.mk hx
        have HY := Hd.mk hy
        have HS := Hd.mk (SameInts_quiet r1 r2)
        obtain ⟨B1, cc1, rfl, _, _⟩ := RL.form r1
        obtain ⟨B2, cc2, rfl, _, _⟩ := RL.form r2
        clear hx hy r1 r2
        by_cases he : x = y
        · have HE := Hd.mk he
          rw [decide_eq_true he] at HS
          clear he
          go_wp2
          go_quiet ((go_at_call 21; exact HS.out _))
          go_wp2
          go_roundg (xss.length - (i + 1))
          case measure => omega
          case rel =>
            refine ⟨i + 1, by go_num, hlt, Nat.le_refl _, ?_, HK.out.drewN _⟩
            rw [List.take_succ_eq_append_getElem hlt, List.take_succ_eq_append_getElem hlt2, HT.out, HX.out, HY.out, HE.out]
        · have HE : Hd (¬ xss = yss) := ⟨fun e => he (by have := HX.out; have := HY.out; subst e; simp_all)⟩
          rw [decide_eq_false he] at HS
          clear he
          go_wp2
          go_quiet ((go_at_call 21; exact HS.out _))
          go_wp2
          go_ret
          exact ⟨by simp [HE.out], (HK.out.drewN _).below0⟩
      · obtain rfl : i = xss.length := by omega
        have HE : Hd (xss = yss) := ⟨by have := HT.out; rw [List.take_length, HL.out, List.take_length] at this; exact this⟩
        go_wp2
        go_ret
        exact ⟨by simp [HE.out], HK.out.below0⟩
  · have HE : Hd (¬ xss = yss) := ⟨fun e => hl (by rw [e])⟩
    have hne : ((xss.length : Int) != (yss.length : Int)) = true := by simp; omega
    go_enter Try.func26, Try.ntmps26
    go_wp2
    go_ret
    exact ⟨by simp [HE.out], Below.refl _ _⟩
end Go.Proofs.Ytggbeehnmconmaa
