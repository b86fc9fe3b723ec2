/- Slices of structs that are owned: by their elements' cells. -/
import Derived.Test.YtggbeehnmconmaaB3
namespace Go.Proofs.Ytggbeehnmconmaa
open Go.RowKit

theorem flatten_len {css : List (List Value)} {sz : Nat} (h : ∀ cs ∈ css, cs.length = sz) : css.flatten.length = css.length * sz := by
  induction css with
  | nil => simp
  | cons c css ih =>
    rw [List.flatten_cons, List.length_append, ih (fun x hx => h x (by simp [hx])), h c (by simp), List.length_cons, Nat.succ_mul]
    omega
theorem flatten_get {css : List (List Value)} {sz : Nat} (h : ∀ cs ∈ css, cs.length = sz) {i j : Nat} (hi : i < css.length) (hj : j < sz) : css.flatten[i * sz + j]? = css[i][j]? := by
  induction css generalizing i with
  | nil => simp at hi
  | cons c css ih =>
    have hc := h c (by simp)
    rw [List.flatten_cons]
    cases i with
    | zero =>
      rw [Nat.zero_mul, Nat.zero_add, List.getElem?_append_left (by omega)]
      rfl
    | succ i =>
      rw [List.getElem?_append_right (by rw [Nat.succ_mul]; omega), show (i + 1) * sz + j - c.length = i * sz + j by rw [Nat.succ_mul]; omega]
      simp only [List.length_cons] at hi
      rw [ih (fun x hx => h x (by simp [hx])) (by omega)]
      rfl
theorem flatten_set {css : List (List Value)} {sz : Nat} (h : ∀ cs ∈ css, cs.length = sz) {i j : Nat} (hi : i < css.length) (hj : j < sz) (u : Value) : css.flatten.set (i * sz + j) u = (css.set i (css[i].set j u)).flatten := by
  induction css generalizing i with
  | nil => simp at hi
  | cons c css ih =>
    have hc := h c (by simp)
    rw [List.flatten_cons]
    cases i with
    | zero =>
      rw [Nat.zero_mul, Nat.zero_add, List.set_append_left _ _ (by omega)]
      rfl
    | succ i =>
      rw [List.set_append_right _ _ (by rw [Nat.succ_mul]; omega), show (i + 1) * sz + j - c.length = i * sz + j by rw [Nat.succ_mul]; omega]
      simp only [List.length_cons] at hi
      rw [ih (fun x hx => h x (by simp [hx])) (by omega)]
      rfl
/-- A slice that is owned reads as a list whose elements' cells are known. -/
theorem Ow.readsN {α : Type} {R : α → List Value → Prop} {w : World} {S : Nat → Prop} {e sz : Nat} {v : Value} {xs : List α} {css : List (List Value)} (h : Ow w S e sz v xs.length css.flatten) (hl : css.length = xs.length)
    (hs : ∀ cs ∈ css, cs.length = sz) (hR : ∀ i (h : i < xs.length), R xs[i] (css[i]'(by omega))) : RL R sz w v xs := by
  obtain ⟨A, c, rfl, h1, h2⟩ := h.form
  refine ⟨A, c, rfl, h1, h2, ?_⟩
  rcases Nat.eq_zero_or_pos xs.length with h0 | h0
  · exact .inl (List.length_eq_zero_iff.1 h0)
  · obtain ⟨g, c', cur, e1, _⟩ := h.addr h0
    injection e1 with e1
    subst e1
    refine .inr ⟨g, 0, rfl, fun i hi => ⟨_, hs _ (List.getElem_mem (by omega)), hR i hi, fun j u hj => ?_⟩⟩
    have hjl := (List.getElem?_eq_some_iff.1 hj).1
    rw [hs _ (List.getElem_mem (by omega))] at hjl
    rw [Nat.zero_add]
    exact h.cell _ _ (by rw [flatten_get hs (by omega) hjl]; exact hj)
/-- 'append(l, x)', x of the cells news, the answer by its form. -/
theorem append1s {P : Program} {ops : Array Oper} {rest : List Oper} {o : Oper} {a : Act} {Q : Exit → Act → World → Prop} {w : World} {S : Nat → Prop} (hgd : o.guard = none) (s x : Operand) (t e : TypeId) (z : Value) (size bytes : Nat)
    (ho : o.op = .call { callee := .builtin .append, args := #[s, x], argTypes := #[t, t] }) (ht : P.underlying t = some (.slice e))
    (hinfo : (P.info? e).map (fun i => (i.zero, i.size, i.bytes)) = some (some z, size, bytes)) (hzs : z.cells.size = size) (hsz : 0 < size)
    (v : Value) (n : Nat) (cs news : List Value) (hs : a.eval s = v) (hown : Ow w S e size v n cs)
    (g c : Nat) (hx : a.eval x = .slice (some ⟨g, 0, none⟩) 1 c) (hg : g = w.heap.size) (hl : news.length = size) (h1 : ∀ u ∈ news, u.oneCell' = true) (hb : (n + 1) * bytes ≤ 140737488355328) (h63 : n + 1 ≤ 9223372036854775807) (arr : Array Value) (harr : arr = news.toArray)
    (h : ∀ A' c' w', n + 1 ≤ c' → Ow w' (fun k => S k ∨ w.heap.size ≤ k) e size (.slice A' (n + 1) c') (n + 1) (cs ++ news) → Keeps w w' S → wpList P ops Q rest (a.put o.dst (.slice A' (n + 1) c')) w') :
    wpList P ops Q (o :: rest) a (w.alloc (.cells arr e)) :=
  append1 hgd s x t e z size bytes ho ht hinfo hzs hsz v n cs news hs hown g c hx hg hl h1 hb h63 arr harr (fun v' w' h1 h2 => by
    obtain ⟨A', c', rfl, h4, _⟩ := Ow.form h1
    exact h A' c' w' h4 h1 h2)
end Go.Proofs.Ytggbeehnmconmaa
