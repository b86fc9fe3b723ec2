/- Slices of slices that grow by append alone. -/
import Derived.Test.YtggbeehnmconmaaRef4
namespace Go.Proofs.Ytggbeehnmconmaa
open Go.RowKit

def ONN {α : Type} (eo ei : Nat) (enc : α → Value) (w : World) (S : Nat → Prop) (v : Value) (rows : List (List α)) : Prop :=
  ∃ vs : List Value, vs.length = rows.length ∧ Ow w S eo 1 v rows.length vs ∧ ∀ i (h : i < rows.length) u, vs[i]? = some u → Ow w S ei 1 u rows[i].length (rows[i].map enc)
section
variable {α : Type} {eo ei : Nat} {enc : α → Value} {w w1 : World} {S T : Nat → Prop} {v : Value} {rows : List (List α)}
theorem ONN.nil (w : World) (S : Nat → Prop) : ONN eo ei enc w S (.slice none 0 0) [] := ⟨[], rfl, Ow.nil _ _ _ _, fun i h => by simp at h⟩
theorem ONN.keep (h : ONN eo ei enc w S v rows) (hk : Keeps w w1 T) (hd : ∀ g, S g → g < w.heap.size → ¬ T g) : ONN eo ei enc w1 S v rows := by
  obtain ⟨vs, h1, h2, h3⟩ := h
  exact ⟨vs, h1, h2.keep hk hd, fun i hi u hu => (h3 i hi u hu).keep hk hd⟩
theorem ONN.mono (h : ONN eo ei enc w S v rows) (hS : ∀ g, S g → T g) : ONN eo ei enc w T v rows := by
  obtain ⟨vs, h1, h2, h3⟩ := h
  exact ⟨vs, h1, h2.mono hS, fun i hi u hu => (h3 i hi u hu).mono hS⟩
theorem ONN.bound (h : ONN eo ei enc w S v rows) : ONN eo ei enc w (fun g => S g ∧ g < w.heap.size) v rows := by
  obtain ⟨vs, h1, h2, h3⟩ := h
  exact ⟨vs, h1, ⟨h2.1, fun g hg => ⟨h2.2 g hg, h2.lt g hg⟩⟩, fun i hi u hu => ⟨(h3 i hi u hu).1, fun g hg => ⟨(h3 i hi u hu).2 g hg, (h3 i hi u hu).lt g hg⟩⟩⟩
theorem ONN.form (h : ONN eo ei enc w S v rows) : ∃ A c, v = .slice A rows.length c ∧ rows.length ≤ c ∧ rows.length ≤ 9223372036854775807 := by
  obtain ⟨vs, h1, h2, h3⟩ := h
  exact h2.form
/-- The outer one as append takes it, and what comes of it. -/
theorem ONN.snoc (hne : eo ≠ ei) (h : ONN eo ei enc w S v rows) {u : Value} {row : List α} (hu : Ow w S ei 1 u row.length (row.map enc)) :
    ∃ vs, Ow w (fun g => S g ∧ ∃ cur, w.heap[g]? = some (.cells cur eo (0, 0))) eo 1 v rows.length vs ∧
      ∀ v' w', Ow w' (fun k => (S k ∧ ∃ cur, w.heap[k]? = some (.cells cur eo (0, 0))) ∨ w.heap.size ≤ k) eo 1 v' (rows.length + 1) (vs ++ [u]) → Keeps w w' (fun g => S g ∧ ∃ cur, w.heap[g]? = some (.cells cur eo (0, 0))) →
        ONN eo ei enc w' (fun k => S k ∨ w.heap.size ≤ k) v' (rows ++ [row]) := by
  obtain ⟨vs, h1, h2, h3⟩ := h
  refine ⟨vs, h2.own, fun v' w' h4 hk => ⟨vs ++ [u], by simp [h1], by rw [List.length_append]; exact h4.mono (fun g hg => hg.elim (fun h => .inl h.1) .inr), fun i hi x hx => ?_⟩⟩
  have key : ∀ {x : Value} {r : List α}, Ow w S ei 1 x r.length (r.map enc) → Ow w' (fun k => S k ∨ w.heap.size ≤ k) ei 1 x r.length (r.map enc) := fun hx =>
    (hx.own.keep hk (fun g hg _ hc => typed_ne hne hc.2 hg.2)).mono (fun g hg => .inl hg.1)
  by_cases hl : i < rows.length
  · rw [List.getElem?_append_left (by omega)] at hx
    rw [List.getElem_append_left hl]
    exact key (h3 i hl x hx)
  · rw [List.length_append, List.length_singleton] at hi
    obtain rfl : i = rows.length := by omega
    rw [← h1, List.getElem?_concat_length] at hx
    injection hx with hx
    subst hx
    rw [List.getElem_append_right (Nat.le_refl _)]
    simp only [Nat.sub_self, List.getElem_cons_zero]
    exact key hu
theorem ONN.reads {R : α → List Value → Prop} (h : ONN eo ei enc w S v rows) (hR : ∀ x, R x [enc x]) : RL (fun (x : List α) cs => ∃ u, cs = [u] ∧ RL R 1 w u x) 1 w v rows := by
  obtain ⟨vs, hl, ho, hh⟩ := h
  obtain ⟨A, c, rfl, h1, h2⟩ := ho.form
  refine ⟨A, c, rfl, h1, h2, ?_⟩
  rcases Nat.eq_zero_or_pos rows.length with h0 | h0
  · exact .inl (List.length_eq_zero_iff.1 h0)
  · obtain ⟨g, c', cur, e1, _⟩ := ho.addr h0
    injection e1 with e1
    subst e1
    refine .inr ⟨g, 0, rfl, fun i hi => ⟨[vs[i]], rfl, ⟨_, rfl, Ow.reads1 (hh i hi _ (List.getElem?_eq_getElem (by omega))) hR⟩, fun j u hj => ?_⟩⟩
    cases j with
    | zero =>
      simp only [List.getElem?_cons_zero, Option.some.injEq] at hj
      subst hj
      exact ho.cell _ _ (by rw [Nat.zero_add, Nat.mul_one, Nat.add_zero, List.getElem?_eq_getElem (by omega)])
    | succ j => simp at hj
end
abbrev OBB := @ONN Bool 33 4 (fun b => .bool b)
abbrev OII := @ONN Int 27 3 (fun x => .int .i64 x)
theorem OBB.reads {w : World} {S : Nat → Prop} {v : Value} {rows : List (List Bool)} (h : OBB w S v rows) : RBoolss w v rows := ONN.reads h (fun _ => rfl)
theorem OII.reads {w : World} {S : Nat → Prop} {v : Value} {rows : List (List Int)} (h : OII w S v rows) : RIntss w v rows := ONN.reads h (fun _ => rfl)
end Go.Proofs.Ytggbeehnmconmaa
