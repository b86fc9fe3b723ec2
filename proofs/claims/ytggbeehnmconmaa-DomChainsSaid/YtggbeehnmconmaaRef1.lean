/- The document's answers: SameInts, Has. -/
import Derived.Test.YtggbeehnmconmaaDom6
namespace Go.Proofs.Ytggbeehnmconmaa
open Go.RowKit

theorem take_same {xs ys : List Int} {i : Nat} (h : xs.take i = ys.take i) (hi : i < xs.length) (hj : i < ys.length) (he : xs[i] = ys[i]) : xs.take (i + 1) = ys.take (i + 1) := by
  rw [List.take_succ_eq_append_getElem hi, List.take_succ_eq_append_getElem hj, h, he]

def SameRel (xs ys : List Int) (w : World) (gg : Nat) (v5 : Value) (wr : World) : Prop :=
  ∃ i q : Nat, v5 = .int .i64 i ∧ i ≤ xs.length ∧ xs.length - i ≤ gg ∧ xs.take i = ys.take i ∧ wr = w.drewN q

set_option maxHeartbeats 1000000 in
set_option maxRecDepth 100000 in
theorem SameInts_calls {w : World} {va vb : Value} {xs ys : List Int} (ha : RInts w va xs) (hb : RInts w vb ys) :
    Calls Try.prog 21 #[va, vb] w fun e w' => e = .returned (.bool (decide (xs = ys))) ∧ ∃ q, w' = w.drewN q := by
  obtain ⟨A1, c1, rfl, _, _⟩ := RL.form ha
  obtain ⟨A2, c2, rfl, _, _⟩ := RL.form hb
  have HA := Hd.mk ha
  have HB := Hd.mk hb
  clear ha hb
  by_cases hl : xs.length = ys.length
  · have hne : ((xs.length : Int) != (ys.length : Int)) = false := by simp [hl]
    have HL := Hd.mk hl
    clear hl
    go_enter Try.func21, Try.ntmps21
    go_wp2
    go_loopg [5] xs.length (fun gg v5 wr => SameRel xs ys w gg v5 wr)
    case atStart => exact ⟨0, 0, rfl, Nat.zero_le _, Nat.le_refl _, rfl, rfl⟩
    case round =>
      obtain ⟨i, q, rfl, hi, hg, ht, rfl⟩ := hrel
      have HT := Hd.mk ht
      clear ht
      by_cases hlt : i < xs.length
      · have hlt2 : i < ys.length := by have := HL.out; omega
        obtain ⟨b1, o1, rfl⟩ := RL.ptr HA.out (by omega)
        obtain ⟨b2, o2, rfl⟩ := RL.ptr HB.out (by omega)
        have ca := HA.out.at i hlt
        have cb := HB.out.at i hlt2
        have hp1 : (i : Int) < (xs.length : Int) := by omega
        have hp2 : (i : Int) < (ys.length : Int) := by omega
        by_cases he : xs[i] = ys[i]
        · have HE := Hd.mk (take_same HT.out hlt hlt2 he)
          rw [he] at ca
          clear he
          generalize hy : ys[i] = y at *
          clear hy
          go_wp2
          go_quiet (fail)
          go_wp2
          go_roundg (xs.length - (i + 1))
          case measure => omega
          case rel => exact ⟨i + 1, q + nq, by go_num, hlt, Nat.le_refl _, HE.out, rfl⟩
        · have HE : Hd (¬ xs = ys) := ⟨fun e => by subst e; exact he rfl⟩
          have hb : (xs[i] != ys[i]) = true := by simpa using he
          generalize ys[i] = y at *
          generalize xs[i] = x at *
          go_wp2
          go_quiet (fail)
          go_wp2
          go_ret
          exact ⟨by simp [HE.out], q + nq, drewN_add _ _ _⟩
      · obtain rfl : i = xs.length := by omega
        have HE : Hd (xs = ys) := ⟨by have := HT.out; rw [List.take_length, HL.out, List.take_length] at this; exact this⟩
        go_wp2
        go_ret
        exact ⟨by simp [HE.out], q, rfl⟩
  · have HE : Hd (¬ xs = ys) := ⟨fun e => hl (by rw [e])⟩
    have hne : ((xs.length : Int) != (ys.length : Int)) = true := by simp; omega
    go_enter Try.func21, Try.ntmps21
    go_wp2
    go_ret
    exact ⟨by simp [HE.out], 0, rfl⟩

def HasRel (xs : List Int) (k : Int) (w : World) (gg : Nat) (v5 : Value) (wr : World) : Prop :=
  ∃ i : Nat, v5 = .int .i64 i ∧ i ≤ xs.length ∧ xs.length - i ≤ gg ∧ k ∉ xs.take i ∧ wr = w

set_option maxHeartbeats 1000000 in
set_option maxRecDepth 100000 in
theorem Has_calls {w : World} {va : Value} {xs : List Int} (k : Int) (ha : RInts w va xs) :
    Calls Try.prog 82 #[va, .int .i64 k] w fun e w' => e = .returned (.bool (xs.contains k)) ∧ w' = w := by
  obtain ⟨A1, c1, rfl, _, _⟩ := RL.form ha
  have HA := Hd.mk ha
  clear ha
  go_enter Try.func82, Try.ntmps82
  go_wp2
  go_loopg [5] xs.length (fun gg v5 wr => HasRel xs k w gg v5 wr)
  case atStart => exact ⟨0, rfl, Nat.zero_le _, Nat.le_refl _, by simp, rfl⟩
  case round =>
    obtain ⟨i, rfl, hi, hg, ht, rfl⟩ := hrel
    have HT := Hd.mk ht
    clear ht
    by_cases hlt : i < xs.length
    · obtain ⟨b1, o1, rfl⟩ := RL.ptr HA.out (by omega)
      have ca := HA.out.at i hlt
      by_cases he : xs[i] = k
      · have HE : Hd (xs.contains k = true) := ⟨by rw [List.contains_iff_mem, ← he]; exact List.getElem_mem hlt⟩
        rw [he] at ca
        clear he
        go_wp2
        go_ret
        exact ⟨by rw [HE.out]; rfl, rfl⟩
      · have HE : Hd (k ∉ xs.take (i + 1)) := ⟨by
          rw [List.take_succ_eq_append_getElem hlt, List.mem_append, List.mem_singleton]
          exact fun h => h.elim HT.out (fun e => he e.symm)⟩
        generalize xs[i] = x at *
        go_wp2
        go_roundg (xs.length - (i + 1))
        case measure => omega
        case rel => exact ⟨i + 1, by go_num, hlt, Nat.le_refl _, HE.out, rfl⟩
    · obtain rfl : i = xs.length := by omega
      have HE : Hd (xs.contains k = false) := ⟨by
        have := HT.out
        rw [List.take_length] at this
        simpa using this⟩
      go_wp2
      go_ret
      exact ⟨by rw [HE.out]; rfl, rfl⟩
end Go.Proofs.Ytggbeehnmconmaa
