/- Plain: what the document's example comes to. -/
import Derived.Test.YtggbeehnmconmaaLawB
namespace Go.Proofs.Ytggbeehnmconmaa

section
variable {g : Nat → List Nat} {b k : Nat} {m : Nat → Bool} {out : List Nat}
theorem OL.done' (h : k = (g b).length) : OL g b k m out m out := by subst h; exact .done
theorem OL.skip' {t : Nat} {m' out'} (ht : (g b)[k]? = some t) (hm : m t = true) (h : OL g b (k + 1) m out m' out') : OL g b k m out m' out' := by
  obtain ⟨h1, rfl⟩ := List.getElem?_eq_some_iff.1 ht
  exact .skip h1 hm h
theorem OL.into' {t : Nat} {m1 out1 m' out'} (ht : (g b)[k]? = some t) (hm : m t = false) (h : OL g t 0 (mset m t) out m1 out1) (h' : OL g b (k + 1) m1 (out1 ++ [t]) m' out') : OL g b k m out m' out' := by
  obtain ⟨h1, rfl⟩ := List.getElem?_eq_some_iff.1 ht
  exact .into h1 hm h h'
end
/-- What is come to is a list that holds block 0, its targets but one, and no more. -/
theorem rch_of {bs : List Blk} {bar : Int} (R : List Nat) (h0 : bar ≠ 0 → 0 ∈ R) (hc : ∀ b ∈ R, ∀ t ∈ tg bs b, (t : Int) ≠ bar → t ∈ R) (hr : ∀ x ∈ R, Rch bs bar x) (x : Nat) : rch bs bar x = R.contains x := by
  rw [Bool.eq_iff_iff, rch_iff, List.contains_iff_mem]
  refine ⟨fun h => ?_, hr x⟩
  induction h with
  | zero h => exact h0 h
  | step _ ht hb ih => exact hc _ ih _ ht hb

def diaB : List Blk := diaF.blocks
theorem dia0 : tg diaB 0 = [1, 2] := by decide
theorem dia1 : tg diaB 1 = [3] := by decide
theorem dia2 : tg diaB 2 = [3] := by decide
theorem dia3 : tg diaB 3 = [] := by decide

theorem dia_reach : ∃ m, DReach (tg diaB) m [3, 1, 2, 0] [] := by
  have h : OL (tg diaB) 0 0 (fun j => decide (j = 0)) [] (mset (mset (mset (fun j => decide (j = 0)) 1) 3) 2) [3, 1, 2] := by
    refine .into' (t := 1) (m1 := mset (mset (fun j => decide (j = 0)) 1) 3) (out1 := [3]) (by rw [dia0]; rfl) rfl ?_ ?_
    · refine .into' (t := 3) (by rw [dia1]; rfl) rfl (.done' (by rw [dia3]; rfl)) (.done' (by rw [dia1]; rfl))
    · refine .into' (t := 2) (out1 := [3, 1]) (by rw [dia0]; rfl) rfl ?_ (.done' (by rw [dia0]; rfl))
      exact .skip' (t := 3) (by rw [dia2]; rfl) rfl (.done' (by rw [dia2]; rfl))
  exact ⟨_, .pop (h.reach [] .init) rfl⟩
theorem dia_ord {L : List Nat} (h : OrdF diaB L) : L = [0, 2, 1, 3] := by
  obtain ⟨m, hd⟩ := dia_reach
  exact h.one (.inr ⟨by decide, m, _, hd, rfl⟩)

def diaR : Nat → List Nat
  | 0 => []
  | 1 => [0, 2, 3]
  | 2 => [0, 1, 3]
  | 3 => [0, 1, 2]
  | _ => [0, 1, 2, 3]
theorem dia_close {bar : Int} {R : List Nat} (h : ∀ b ∈ R, b < 4 ∧ (b = 0 → ((1 : Int) ≠ bar → 1 ∈ R) ∧ ((2 : Int) ≠ bar → 2 ∈ R)) ∧ (b = 1 ∨ b = 2 → (3 : Int) ≠ bar → 3 ∈ R)) : ∀ b ∈ R, ∀ t ∈ tg diaB b, (t : Int) ≠ bar → t ∈ R := by
  intro b hb t ht hne
  obtain ⟨h1, h2, h3⟩ := h b hb
  match b, h1 with
  | 0, _ =>
    rw [dia0] at ht
    simp at ht
    rcases ht with rfl | rfl
    · exact (h2 rfl).1 hne
    · exact (h2 rfl).2 hne
  | 1, _ => rw [dia1] at ht; simp at ht; subst ht; exact h3 (.inl rfl) hne
  | 2, _ => rw [dia2] at ht; simp at ht; subst ht; exact h3 (.inr rfl) hne
  | 3, _ => rw [dia3] at ht; simp at ht
theorem dia_all (x : Nat) : rch diaB (-1) x = [0, 1, 2, 3].contains x := by
  have r0 : Rch diaB (-1) 0 := .zero (by decide)
  have r1 : Rch diaB (-1) 1 := .step r0 (by rw [dia0]; decide) (by decide)
  have r2 : Rch diaB (-1) 2 := .step r0 (by rw [dia0]; decide) (by decide)
  have r3 : Rch diaB (-1) 3 := .step r1 (by rw [dia1]; decide) (by decide)
  refine rch_of _ (by decide) (dia_close (by decide)) (fun x hx => ?_) x
  simp at hx
  rcases hx with rfl | rfl | rfl | rfl <;> assumption
theorem dia_bar0 (x : Nat) : rch diaB 0 x = ([] : List Nat).contains x := rch_of _ (by decide) (by simp) (by simp) x
theorem dia_bar1 (x : Nat) : rch diaB 1 x = [0, 2, 3].contains x := by
  have r0 : Rch diaB 1 0 := .zero (by decide)
  have r2 : Rch diaB 1 2 := .step r0 (by rw [dia0]; decide) (by decide)
  have r3 : Rch diaB 1 3 := .step r2 (by rw [dia2]; decide) (by decide)
  refine rch_of _ (by decide) (dia_close (by decide)) (fun x hx => ?_) x
  simp at hx
  rcases hx with rfl | rfl | rfl <;> assumption
theorem dia_bar2 (x : Nat) : rch diaB 2 x = [0, 1, 3].contains x := by
  have r0 : Rch diaB 2 0 := .zero (by decide)
  have r1 : Rch diaB 2 1 := .step r0 (by rw [dia0]; decide) (by decide)
  have r3 : Rch diaB 2 3 := .step r1 (by rw [dia1]; decide) (by decide)
  refine rch_of _ (by decide) (dia_close (by decide)) (fun x hx => ?_) x
  simp at hx
  rcases hx with rfl | rfl | rfl <;> assumption
theorem dia_bar3 (x : Nat) : rch diaB 3 x = [0, 1, 2].contains x := by
  have r0 : Rch diaB 3 0 := .zero (by decide)
  have r1 : Rch diaB 3 1 := .step r0 (by rw [dia0]; decide) (by decide)
  have r2 : Rch diaB 3 2 := .step r0 (by rw [dia0]; decide) (by decide)
  refine rch_of _ (by decide) (dia_close (by decide)) (fun x hx => ?_) x
  simp at hx
  rcases hx with rfl | rfl | rfl <;> assumption
def diaO (d b : Nat) : Bool := [0, 1, 2, 3].contains d && ([0, 1, 2, 3].contains b && !(diaR d).contains b)
theorem dia_over : overB diaB = diaO := by
  funext d b
  unfold overB diaO
  rw [dia_all, dia_all]
  by_cases h : d < 4
  · match d, h with
    | 0, _ => exact congrArg (fun z => [0, 1, 2, 3].contains 0 && ([0, 1, 2, 3].contains b && !z)) (dia_bar0 b)
    | 1, _ => exact congrArg (fun z => [0, 1, 2, 3].contains 1 && ([0, 1, 2, 3].contains b && !z)) (dia_bar1 b)
    | 2, _ => exact congrArg (fun z => [0, 1, 2, 3].contains 2 && ([0, 1, 2, 3].contains b && !z)) (dia_bar2 b)
    | 3, _ => exact congrArg (fun z => [0, 1, 2, 3].contains 3 && ([0, 1, 2, 3].contains b && !z)) (dia_bar3 b)
  · have : [0, 1, 2, 3].contains d = false := by simp; omega
    rw [this, Bool.false_and, Bool.false_and]
theorem dia_above : aboveR (overB diaB) 4 = [-1, 0, 0, 0] := by rw [dia_over]; decide
theorem dia_edge : edgeR (overB diaB) diaB 4 = [[], [3], [3], []] := by rw [dia_over]; decide
end Go.Proofs.Ytggbeehnmconmaa
