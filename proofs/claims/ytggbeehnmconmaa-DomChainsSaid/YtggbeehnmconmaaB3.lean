/- Lists of lists that are owned: no two rows lie in one block (their blocks' colours differ). -/
import Derived.Test.YtggbeehnmconmaaB2
namespace Go.Proofs.Ytggbeehnmconmaa
open Go.RowKit

def OLL (w : World) (S : Nat → Prop) (col : Nat → Nat) (v : Value) (xss : List (List Int)) : Prop :=
  ∃ vs : List Value, vs.length = xss.length ∧ Ow w (fun g => S g ∧ col g = 0) 27 1 v xss.length vs ∧
    ∀ i (h : i < xss.length) u, vs[i]? = some u → OI w (fun g => S g ∧ col g = i + 1) u xss[i]

section
variable {w w1 : World} {S T : Nat → Prop} {col : Nat → Nat} {v : Value} {xss : List (List Int)}
theorem Ow.made (w : World) {S : Nat → Prop} (e : Nat) (z : Value) (n : Nat) (hS : S w.heap.size) (hn : n ≤ 9223372036854775807) : Ow (w.alloc (.cells (madeCells #[z] n) e)) S e 1 (.slice (some ⟨w.heap.size, 0, none⟩) n n) n (List.replicate n z) :=
  Ow.of_obj (obj_new rfl) hS (Nat.le_refl _) hn (by simp [size_madeCells]) (by rw [toList_madeCells_one, Nat.mul_one]; exact List.take_of_length_le (by simp))
theorem OLL.made (w : World) {S : Nat → Prop} (n : Nat) (hS : ∀ k, w.heap.size ≤ k → S k) (hn : n ≤ 9223372036854775807) :
    OLL (w.alloc (.cells (madeCells #[.slice none 0 0] n) 27)) S (fun _ => 0) (.slice (some ⟨w.heap.size, 0, none⟩) n n) (List.replicate n []) := by
  refine ⟨List.replicate n (.slice none 0 0), by simp, ?_, fun i hi u hu => ?_⟩
  · rw [List.length_replicate]
    exact Ow.made w _ _ n ⟨hS _ (Nat.le_refl _), rfl⟩ hn
  · have : u = .slice none 0 0 := by
      rw [List.getElem?_replicate] at hu
      split at hu <;> simp_all
    subst this
    rw [List.getElem_replicate]
    exact Ow.nil _ _ _ _
theorem OLL.keep (h : OLL w S col v xss) (hk : Keeps w w1 T) (hd : ∀ g, S g → g < w.heap.size → ¬ T g) : OLL w1 S col v xss := by
  obtain ⟨vs, hl, ho, hi⟩ := h
  exact ⟨vs, hl, ho.keep hk (fun g hg hlt => hd g hg.1 hlt), fun i h u hu => (hi i h u hu).keep hk (fun g hg hlt => hd g hg.1 hlt)⟩
theorem OLL.mono (h : OLL w S col v xss) (hS : ∀ g, S g → T g) : OLL w T col v xss := by
  obtain ⟨vs, hl, ho, hi⟩ := h
  exact ⟨vs, hl, ho.mono (fun g hg => ⟨hS g hg.1, hg.2⟩), fun i h u hu => (hi i h u hu).mono (fun g hg => ⟨hS g hg.1, hg.2⟩)⟩
theorem OLL.bound (h : OLL w S col v xss) : OLL w (fun k => S k ∧ k < w.heap.size) col v xss := by
  obtain ⟨vs, hl, ho, hi⟩ := h
  exact ⟨vs, hl, ⟨ho.1, fun g hg => ⟨⟨(ho.2 g hg).1, ho.lt g hg⟩, (ho.2 g hg).2⟩⟩, fun i h u hu => ⟨(hi i h u hu).1, fun g hg => ⟨⟨((hi i h u hu).2 g hg).1, Ow.lt (hi i h u hu) g hg⟩, ((hi i h u hu).2 g hg).2⟩⟩⟩
theorem OLL.form (h : OLL w S col v xss) : ∃ A c, v = .slice A xss.length c ∧ xss.length ≤ c ∧ xss.length ≤ 9223372036854775807 := by
  obtain ⟨vs, hl, ho, hi⟩ := h
  exact ho.form
theorem OLL.addr (h : OLL w S col v xss) (hn : 0 < xss.length) : ∃ g c, v = .slice (some ⟨g, 0, none⟩) xss.length c ∧ xss.length ≤ c ∧ S g ∧ g < w.heap.size := by
  obtain ⟨vs, hl, ho, hi⟩ := h
  obtain ⟨g, c, cur, rfl, h1, h2, h3, _⟩ := ho.addr hn
  exact ⟨g, c, rfl, h1, h2.1, obj_lt h3⟩
theorem OLL.ptr {A : Option Addr} {m c : Nat} (h : OLL w S col (.slice A m c) xss) (hn : 0 < xss.length) : ∃ g, A = some ⟨g, 0, none⟩ ∧ S g ∧ g < w.heap.size := by
  obtain ⟨g, c', e, _, h1, h2⟩ := h.addr hn
  injection e with e
  exact ⟨g, e, h1, h2⟩
theorem OLL.at {g m c : Nat} (h : OLL w S col (.slice (some ⟨g, 0, none⟩) m c) xss) (i : Nat) (hi : i < xss.length) :
    ∃ u, w.cell? ⟨g, i, none⟩ = some u ∧ OI w (fun g => S g ∧ col g = i + 1) u xss[i] := by
  obtain ⟨vs, hl, ho, hh⟩ := h
  have hv : i < vs.length := by omega
  exact ⟨vs[i], ho.cell i _ (List.getElem?_eq_getElem hv), hh i hi _ (List.getElem?_eq_getElem hv)⟩
theorem OLL.frozen {g m c : Nat} (h : OLL w S col (.slice (some ⟨g, 0, none⟩) m c) xss) (i : Nat) : w.frozen? ⟨g, i, none⟩ = false := by
  obtain ⟨vs, hl, ho, hh⟩ := h
  exact ho.frozen i
theorem OLL.outer {w' : World} {g m c i : Nat} {u : Value} (h : OLL w S col (.slice (some ⟨g, 0, none⟩) m c) xss) (hk : Keeps w w' (fun k => S k ∧ col k = i + 1)) (hi : i < xss.length) (hu : w.cell? ⟨g, i, none⟩ = some u) : w'.cell? ⟨g, i, none⟩ = some u ∧ w'.frozen? ⟨g, i, none⟩ = false := by
  have hf := h.frozen i
  obtain ⟨vs, hl, hO, hh⟩ := h
  obtain ⟨g', c', cur, e, _, h2, h3, _⟩ := hO.addr (by omega)
  injection e with e
  injection e with e
  injection e with e
  subst e
  have hn : ¬ (S g ∧ col g = i + 1) := fun hc => by have := h2.2; have := hc.2; omega
  exact ⟨hk.cell hu hn, (World.frozen?_of_block (hk.block g (obj_lt h3) hn)).trans hf⟩
theorem OLL.put {w' : World} {g m c : Nat} {u' : Value} {ys : List Int} (h : OLL w S col (.slice (some ⟨g, 0, none⟩) m c) xss) (hS : ∀ k, w.heap.size ≤ k → S k) (i : Nat)
    (ho : OI w' (fun k => (S k ∧ col k = i + 1) ∨ w.heap.size ≤ k) u' ys) (hk : Keeps w w' (fun k => S k ∧ col k = i + 1)) :
    OLL (w'.setCell ⟨g, i, none⟩ u') S (fun k => if k < w.heap.size then col k else i + 1) (.slice (some ⟨g, 0, none⟩) m c) (xss.set i ys) := by
  obtain ⟨vs, hl, hO, hh⟩ := h
  have hg : xss.length ≠ 0 → (S g ∧ col g = 0) ∧ g < w.heap.size := fun hne => by
    obtain ⟨g', c', cur, e, _, h2, h3, _⟩ := hO.addr (by omega)
    injection e with e
    injection e with e
    injection e with e
    subst e
    exact ⟨h2, obj_lt h3⟩
  have h1 := (hO.keep hk (fun k hk hlt => fun hc => by have := hk.2; have := hc.2; omega)).set i u'
  refine ⟨vs.set i u', by simp [hl], ?_, fun j hj u hu => ?_⟩
  · rw [List.length_set]
    refine ⟨h1.1, fun k hk' => ?_⟩
    have hk2 := hO.2 k hk'
    exact ⟨hk2.1, (if_pos (hO.lt k hk')).trans hk2.2⟩
  · rw [List.length_set] at hj
    obtain ⟨hg1, hglt⟩ := hg (by omega)
    by_cases hji : j = i
    · subst hji
      have : u = u' := by
        rw [List.getElem?_set_self (by omega)] at hu
        injection hu with hu
        exact hu.symm
      subst this
      rw [List.getElem_set_self]
      refine Ow.mono (Ow.keep ho ((Keeps.refl _ (fun k => k = g)).setCell (fun _ => rfl) _) (fun k hk hlt e => ?_)) (fun k hk => ?_)
      · subst e
        rcases hk with hk | hk <;> omega
      · rcases hk with hk | hk
        · refine ⟨hk.1, ?_⟩
          show (if k < w.heap.size then col k else j + 1) = j + 1
          split
          · exact hk.2
          · rfl
        · exact ⟨hS k hk, if_neg (by omega)⟩
    · rw [List.getElem?_set_ne (by omega)] at hu
      rw [List.getElem_set_ne (by omega)]
      have h5 := hh j hj u hu
      have hlt5 := Ow.lt h5
      have h6 := h5.keep hk (fun k hk hlt => fun hc => by have := hk.2; have := hc.2; omega)
      have h7 := Ow.keep h6 ((Keeps.refl _ (fun k => k = g)).setCell (p := ⟨g, i, none⟩) (fun _ => rfl) u') (fun k hk hlt e => by subst e; omega)
      refine ⟨h7.1, fun k hk => ?_⟩
      have := h5.2 k hk
      exact ⟨this.1, (if_pos (hlt5 k hk)).trans this.2⟩
theorem OLL.reads (h : OLL w S col v xss) : RIntss w v xss := by
  obtain ⟨vs, hl, ho, hh⟩ := h
  obtain ⟨A, c, rfl, h1, h2⟩ := ho.form
  refine ⟨A, c, rfl, h1, h2, ?_⟩
  rcases Nat.eq_zero_or_pos xss.length with h0 | h0
  · exact .inl (List.length_eq_zero_iff.1 h0)
  · obtain ⟨g, c', cur, e1, _⟩ := ho.addr h0
    injection e1 with e1
    subst e1
    refine .inr ⟨g, 0, rfl, fun i hi => ⟨[vs[i]], rfl, ⟨_, rfl, (hh i hi _ (List.getElem?_eq_getElem (by omega))).reads⟩, fun j u hj => ?_⟩⟩
    cases j with
    | zero =>
      simp only [List.getElem?_cons_zero, Option.some.injEq] at hj
      subst hj
      exact ho.cell _ _ (by rw [Nat.zero_add, Nat.mul_one, Nat.add_zero, List.getElem?_eq_getElem (by omega)])
    | succ j => simp at hj
end
end Go.Proofs.Ytggbeehnmconmaa
