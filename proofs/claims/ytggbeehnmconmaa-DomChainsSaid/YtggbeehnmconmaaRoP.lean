/- Plain: the document's order, and that it is Order's. -/
import Derived.Test.YtggbeehnmconmaaOrdP
namespace Go.Proofs.Ytggbeehnmconmaa

def mset (m : Nat → Bool) (t : Nat) : Nat → Bool := fun j => if j = t then true else m j
/-- From the k-th target of b on: what is met, and what is left. -/
inductive OL (g : Nat → List Nat) : Nat → Nat → (Nat → Bool) → List Nat → (Nat → Bool) → List Nat → Prop
  | done {b : Nat} {m out} : OL g b (g b).length m out m out
  | skip {b k : Nat} {m out m' out'} (h : k < (g b).length) : m (g b)[k] = true → OL g b (k + 1) m out m' out' → OL g b k m out m' out'
  | into {b k : Nat} {m out m1 out1 m' out'} (h : k < (g b).length) : m (g b)[k] = false → OL g (g b)[k] 0 (mset m (g b)[k]) out m1 out1 → OL g b (k + 1) m1 (out1 ++ [(g b)[k]]) m' out' → OL g b k m out m' out'

theorem OL.reach {g : Nat → List Nat} {b k m out m' out'} (h : OL g b k m out m' out') : ∀ way, DReach g m out (way ++ [(b, k)]) → DReach g m' out' (way ++ [(b, (g b).length)]) := by
  induction h with
  | done => exact fun _ h => h
  | skip h hm _ ih => exact fun way hd => ih way (.skip h hd hm)
  | @into b k m out m1 out1 m' out' h hm _ _ ih1 ih2 =>
    intro way hd
    have h1 := DReach.push h hd hm
    rw [show way ++ [(b, k + 1), ((g b)[k], 0)] = (way ++ [(b, k + 1)]) ++ [((g b)[k], 0)] by simp] at h1
    exact ih2 way (.pop (ih1 _ h1) rfl)

def cnt (m : Nat → Bool) : Nat → Nat
  | 0 => 0
  | n + 1 => cnt m n + bif m n then 0 else 1
theorem cnt_set (m : Nat → Bool) (t : Nat) (n : Nat) : cnt (mset m t) n + (if t < n ∧ m t = false then 1 else 0) = cnt m n := by
  induction n with
  | zero => simp [cnt]
  | succ n ih =>
    simp only [cnt]
    by_cases h : t = n
    · subst h
      have h4 : ¬ t < t := by omega
      simp only [h4, false_and, if_false] at ih
      cases hm : m t <;> simp [mset] at ih ⊢ <;> omega
    · have h5 : mset m t n = m n := by simp [mset]; intro e; exact absurd e.symm h
      rw [h5]
      have : (t < n + 1) ↔ (t < n) := by omega
      simp only [this]
      omega
theorem cnt_put {m : Nat → Bool} {t n : Nat} (ht : t < n) (hm : m t = false) : cnt (mset m t) n + 1 = cnt m n := by
  have := cnt_set m t n
  simpa [ht, hm] using this
theorem cnt_mono {m m' : Nat → Bool} (h : ∀ x, m x = true → m' x = true) (n : Nat) : cnt m' n ≤ cnt m n := by
  induction n with
  | zero => exact Nat.le_refl _
  | succ n ih =>
    simp only [cnt]
    cases hm : m n with
    | true => simp [h n hm]; exact ih
    | false => cases m' n <;> simp <;> omega
theorem OL.facts {g : Nat → List Nat} {n : Nat} (hg : ∀ b t, t ∈ g b → t < n) {b k m out m' out'} (h : OL g b k m out m' out') : (∀ x, m x = true → m' x = true) ∧ out'.length + cnt m' n ≤ out.length + cnt m n := by
  induction h with
  | done => exact ⟨fun _ h => h, Nat.le_refl _⟩
  | skip _ _ _ ih => exact ih
  | @into b k m out m1 out1 m' out' h hm _ _ ih1 ih2 =>
    have h1 := cnt_put (hg b _ (List.getElem_mem h)) hm
    refine ⟨fun x hx => ih2.1 x (ih1.1 x ?_), ?_⟩
    · unfold mset
      split
      · rfl
      · exact hx
    · have := ih1.2
      have := ih2.2
      simp only [List.length_append, List.length_singleton] at *
      omega

/-! ### The stack machine knows one way -/
theorem snoc_inj {α : Type} {a b : List α} {x y : α} (h : a ++ [x] = b ++ [y]) : a = b ∧ x = y := by
  have := List.append_inj' h rfl
  simpa using this
/-- One step. -/
inductive DStep (g : Nat → List Nat) : (Nat → Bool) → List Nat → List (Nat × Nat) → (Nat → Bool) → List Nat → List (Nat × Nat) → Prop
  | pop {m out way b k} : k = (g b).length → DStep g m out (way ++ [(b, k)]) m (out ++ [b]) way
  | skip {m out way b k} (h : k < (g b).length) : m (g b)[k] = true → DStep g m out (way ++ [(b, k)]) m out (way ++ [(b, k + 1)])
  | push {m out way b k} (h : k < (g b).length) : m (g b)[k] = false → DStep g m out (way ++ [(b, k)]) (fun j => if j = (g b)[k] then true else m j) out (way ++ [(b, k + 1), ((g b)[k], 0)])
/-- To the end. -/
inductive DEnd (g : Nat → List Nat) : (Nat → Bool) → List Nat → List (Nat × Nat) → List Nat → Prop
  | here {m out} : DEnd g m out [] out
  | step {m out way m' out' way' r} : DStep g m out way m' out' way' → DEnd g m' out' way' r → DEnd g m out way r
theorem DStep.det {g : Nat → List Nat} {m out way m1 out1 way1 m2 out2 way2} (h : DStep g m out way m1 out1 way1) (k : DStep g m out way m2 out2 way2) : m1 = m2 ∧ out1 = out2 ∧ way1 = way2 := by
  cases h with
  | pop h1 =>
    generalize hw : _ ++ [_] = W at k
    cases k with
    | pop h2 => obtain ⟨e1, e2⟩ := snoc_inj hw; injection e2 with e2 e3; subst e1 e2; exact ⟨rfl, rfl, rfl⟩
    | skip h2 _ => obtain ⟨e1, e2⟩ := snoc_inj hw; injection e2 with e2 e3; subst e2 e3; omega
    | push h2 _ => obtain ⟨e1, e2⟩ := snoc_inj hw; injection e2 with e2 e3; subst e2 e3; omega
  | skip h1 hm =>
    generalize hw : _ ++ [_] = W at k
    cases k with
    | pop h2 => obtain ⟨e1, e2⟩ := snoc_inj hw; injection e2 with e2 e3; subst e2 e3; omega
    | skip h2 _ => obtain ⟨e1, e2⟩ := snoc_inj hw; injection e2 with e2 e3; subst e1 e2 e3; exact ⟨rfl, rfl, rfl⟩
    | push h2 hm2 => obtain ⟨e1, e2⟩ := snoc_inj hw; injection e2 with e2 e3; subst e2 e3; rw [hm] at hm2; cases hm2
  | push h1 hm =>
    generalize hw : _ ++ [_] = W at k
    cases k with
    | pop h2 => obtain ⟨e1, e2⟩ := snoc_inj hw; injection e2 with e2 e3; subst e2 e3; omega
    | skip h2 hm2 => obtain ⟨e1, e2⟩ := snoc_inj hw; injection e2 with e2 e3; subst e2 e3; rw [hm] at hm2; cases hm2
    | push h2 _ => obtain ⟨e1, e2⟩ := snoc_inj hw; injection e2 with e2 e3; subst e1 e2 e3; exact ⟨rfl, rfl, rfl⟩
theorem DEnd.det {g : Nat → List Nat} {m out way r r'} (h : DEnd g m out way r) (k : DEnd g m out way r') : r = r' := by
  induction h with
  | here =>
    cases k with
    | here => rfl
    | step s _ =>
      exfalso
      generalize hw : ([] : List (Nat × Nat)) = W at s
      cases s <;> simp at hw
  | step s _ ih =>
    cases k with
    | here =>
      exfalso
      generalize hw : ([] : List (Nat × Nat)) = W at s
      cases s <;> simp at hw
    | step s2 k2 =>
      obtain ⟨rfl, rfl, rfl⟩ := s.det s2
      exact ih k2
theorem DReach.ends {g : Nat → List Nat} {m out way} (h : DReach g m out way) : ∀ r, DEnd g m out way r → DEnd g (fun j => decide (j = 0)) [] [(0, 0)] r := by
  induction h with
  | init => exact fun _ h => h
  | pop _ hk ih => exact fun r h => ih r (.step (.pop hk) h)
  | skip hk _ hm ih => exact fun r h => ih r (.step (.skip hk hm) h)
  | push hk _ hm ih => exact fun r h => ih r (.step (.push hk hm) h)
/-- There is one end. -/
theorem DReach.one {g : Nat → List Nat} {m out m' out'} (h : DReach g m out []) (k : DReach g m' out' []) : out = out' := (h.ends _ .here).det (k.ends _ .here)
end Go.Proofs.Ytggbeehnmconmaa
