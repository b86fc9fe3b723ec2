/- Plain: the walk through all blocks but one. -/
import Derived.Test.YtggbeehnmconmaaAbP
namespace Go.Proofs.Ytggbeehnmconmaa

def bl (n : Nat) (m : Nat → Bool) : List Bool := (List.range n).map m
theorem bl_len (n : Nat) (m : Nat → Bool) : (bl n m).length = n := by simp [bl]
theorem bl_at {n : Nat} {m : Nat → Bool} {i : Nat} (h : i < (bl n m).length) : (bl n m)[i] = m i := by simp [bl]
theorem bl_set (n : Nat) (m : Nat → Bool) (t : Nat) : (bl n m).set t true = bl n (fun j => if j = t then true else m j) := by
  apply List.ext_getElem
  · simp [bl]
  · intro i h1 h2
    rw [List.getElem_set, bl_at, bl_at]
    by_cases h : t = i
    · simp [h]
    · rw [if_neg h, if_neg (fun e => h e.symm)]
theorem bl_false (n : Nat) : bl n (fun _ => false) = List.replicate n false := by
  apply List.ext_getElem <;> simp [bl]

theorem Rch.lt {bs : List Blk} {bar : Int} (h0 : 0 < bs.length) {x : Nat} (h : Rch bs bar x) : x < bs.length := by
  cases h with
  | zero _ => exact h0
  | step _ ht _ => exact tg_mem ht
theorem rch_zero {bs : List Blk} {x : Nat} : ¬ Rch bs 0 x := fun h => by
  induction h with
  | zero h => exact h rfl
  | step _ _ _ ih => exact ih

structure BF (bs : List Blk) (bar : Int) (m : Nat → Bool) (todo : List Nat) (i : Nat) : Prop where
  nd : todo.Nodup
  mem : ∀ x, m x = true ↔ x ∈ todo
  rc : ∀ x ∈ todo, Rch bs bar x
  zero : 0 ∈ todo
  done : ∀ k x, k < i → todo[k]? = some x → ∀ t ∈ tg bs x, (t : Int) ≠ bar → t ∈ todo

section
variable {bs : List Blk} {bar : Int} {m : Nat → Bool} {todo : List Nat} {i : Nat}
theorem BF.start (hb : bar ≠ 0) : BF bs bar (fun j => decide (j = 0)) [0] 0 :=
  ⟨by simp, fun x => by simp, fun x hx => by simp at hx; subst hx; exact .zero hb, by simp, fun k x hk => by omega⟩
theorem BF.push (h : BF bs bar m todo i) (hi : i < todo.length) {x t : Nat} (hx : todo[i]? = some x) (ht : t ∈ tg bs x) (hb : (t : Int) ≠ bar) (hm : m t = false) : BF bs bar (fun j => if j = t then true else m j) (todo ++ [t]) i := by
  have hn : t ∉ todo := fun hc => by rw [(h.mem t).2 hc] at hm; cases hm
  refine ⟨?_, fun y => ?_, fun y hy => ?_, by simp [h.zero], fun k y hk hy s hs hsb => ?_⟩
  · rw [List.nodup_append]
    exact ⟨h.nd, by simp, fun a ha b hb e => by simp at hb; subst hb; subst e; exact hn ha⟩
  · rw [List.mem_append, List.mem_singleton]
    by_cases e : y = t
    · simp [e]
    · simp [e, h.mem]
  · rw [List.mem_append, List.mem_singleton] at hy
    rcases hy with hy | rfl
    · exact h.rc y hy
    · exact .step (h.rc x (List.mem_of_getElem? hx)) ht hb
  · rw [List.getElem?_append_left (by omega)] at hy
    exact List.mem_append_left _ (h.done k y hk hy s hs hsb)
theorem BF.next (h : BF bs bar m todo i) {x : Nat} (hx : todo[i]? = some x) (ht : ∀ t ∈ tg bs x, (t : Int) ≠ bar → m t = true) : BF bs bar m todo (i + 1) :=
  ⟨h.nd, h.mem, h.rc, h.zero, fun k y hk hy t hty hb => by
    by_cases e : k = i
    · subst e
      rw [hx] at hy
      injection hy with hy
      subst hy
      exact (h.mem t).1 (ht t hty hb)
    · exact h.done k y (by omega) hy t hty hb⟩
theorem BF.final (h : BF bs bar m todo todo.length) (x : Nat) : m x = rch bs bar x := by
  rw [Bool.eq_iff_iff, rch_iff, h.mem]
  refine ⟨h.rc x, fun hr => ?_⟩
  induction hr with
  | zero _ => exact h.zero
  | @step b t _ ht hb ih =>
    obtain ⟨k, hk⟩ := List.getElem?_of_mem ih
    exact h.done k b (List.getElem?_eq_some_iff.1 hk).1 hk t ht hb
theorem BF.lt (h : BF bs bar m todo i) (h0 : 0 < bs.length) : todo.length ≤ bs.length ∧ ∀ x ∈ todo, x < bs.length :=
  ⟨nodup_length _ _ h.nd (fun x hx => (h.rc x hx).lt h0), fun x hx => (h.rc x hx).lt h0⟩
end
end Go.Proofs.Ytggbeehnmconmaa
