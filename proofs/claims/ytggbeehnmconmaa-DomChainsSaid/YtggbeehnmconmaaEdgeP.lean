/- Plain: where what stands above ends. -/
import Derived.Test.YtggbeehnmconmaaTreeW
namespace Go.Proofs.Ytggbeehnmconmaa
open T

/-- d stands above b. -/
def Ovr (L : List Nat) (par : Nat → Option Nat) (d b : Nat) : Prop := ∃ i k, num L d = some i ∧ num L b = some k ∧ Anc par i k
/-- b is of d's edge by way of its source s. -/
def Pth (L : List Nat) (par : Nat → Option Nat) (b s d : Nat) : Prop := Ovr L par d s ∧ (d = b ∨ ¬ Ovr L par d b)
def InE (bs : List Blk) (L : List Nat) (par : Nat → Option Nat) (b d : Nat) : Prop := b ∈ L ∧ ∃ s : Nat, (s : Int) ∈ src bs (b : Int) ∧ s ∈ L ∧ Pth L par b s d
open Classical in
noncomputable def inE (bs : List Blk) (L : List Nat) (par : Nat → Option Nat) (b d : Nat) : Bool := decide (InE bs L par b d)
theorem inE_iff {bs : List Blk} {L : List Nat} {par : Nat → Option Nat} {b d : Nat} : inE bs L par b d = true ↔ InE bs L par b d := by classical exact decide_eq_true_iff
theorem inE_of {bs : List Blk} {L : List Nat} {par : Nat → Option Nat} {b d : Nat} {x : Bool} (h1 : x = true → InE bs L par b d) (h2 : InE bs L par b d → x = true) : x = inE bs L par b d :=
  Bool.eq_iff_iff.2 ⟨fun h => inE_iff.2 (h1 h), fun h => h2 (inE_iff.1 h)⟩

def eRow (E : Nat → Nat → Bool) (n b : Nat) (D : Nat → Bool) : List (List Int) := (List.range n).map fun d => (((List.range b).filter fun y => E y d).map fun y : Nat => (y : Int)) ++ (if D d = true then [(b : Int)] else [])
theorem eRow_len (E : Nat → Nat → Bool) (n b : Nat) (D : Nat → Bool) : (eRow E n b D).length = n := by simp [eRow]
theorem eRow_zero (E : Nat → Nat → Bool) (n : Nat) : eRow E n 0 (fun _ => false) = List.replicate n [] := by
  apply List.ext_getElem <;> simp [eRow]
theorem eRow_next (E : Nat → Nat → Bool) (n b : Nat) (D : Nat → Bool) (hD : ∀ d, D d = E b d) : eRow E n b D = eRow E n (b + 1) (fun _ => false) := by
  unfold eRow
  apply List.map_congr_left
  intro d _
  rw [List.range_succ, List.filter_append, List.map_append, hD d]
  cases h : E b d <;> simp [h]
theorem eRow_get (E : Nat → Nat → Bool) {n b d : Nat} (D : Nat → Bool) (h : d < (eRow E n b D).length) :
    (eRow E n b D)[d] = (((List.range b).filter fun y => E y d).map fun y : Nat => (y : Int)) ++ (if D d = true then [(b : Int)] else []) := by simp [eRow]
theorem eRow_put (E : Nat → Nat → Bool) {n b d : Nat} (D : Nat → Bool) (h : d < (eRow E n b D).length) (hD : D d = false) :
    (eRow E n b D).set d ((eRow E n b D)[d] ++ [(b : Int)]) = eRow E n b (fun x => if x = d then true else D x) := by
  apply List.ext_getElem
  · simp [eRow]
  · intro i h1 h2
    rw [List.getElem_set]
    split
    · next e =>
      subst e
      rw [eRow_get, eRow_get, hD]
      simp
    · next e =>
      rw [eRow_get, eRow_get]
      have : ¬ i = d := fun e2 => e e2.symm
      simp [this]
theorem eRow_last (E : Nat → Nat → Bool) {n b d : Nat} (D : Nat → Bool) (h : d < (eRow E n b D).length) : (eRow E n b D)[d].length ≤ b + 1 ∧
    ((D d = true → (eRow E n b D)[d].getLast? = some (b : Int)) ∧ (D d = false → ∀ y, (eRow E n b D)[d].getLast? = some y → y ≠ (b : Int))) := by
  rw [eRow_get]
  refine ⟨?_, fun hd => ?_, fun hd y hy => ?_⟩
  · have h1 := List.length_filter_le (fun y => E y d) (List.range b)
    rw [List.length_range] at h1
    rw [List.length_append, List.length_map]
    split <;> simp <;> omega
  · simp [hd]
  · simp only [hd, Bool.false_eq_true, if_false, List.append_nil] at hy
    have := List.mem_of_getLast? hy
    simp at this
    obtain ⟨z, ⟨h1, _⟩, rfl⟩ := this
    omega

section
variable {bs : List Blk} {L : List Nat} (hO : Ord bs L) {par : Nat → Option Nat} {j : Nat} (hI : Inv L.length (SL bs L) (ppL bs L) L.length j par)
include hO
theorem ovr_at {i k : Nat} (hi : i < L.length) (hk : k < L.length) : Ovr L par (L.getD i 0) (L.getD k 0) ↔ Anc par i k := by
  unfold Ovr
  rw [num_get hO.nodup (getD_at hi), num_get hO.nodup (getD_at hk)]
  constructor
  · rintro ⟨_, _, h1, h2, h⟩
    injection h1 with h1
    injection h2 with h2
    subst h1 h2
    exact h
  · exact fun h => ⟨_, _, rfl, rfl, h⟩
include hI
/-- What b's parent says of the edge. -/
theorem pth_at {i k b : Nat} (hi : i < L.length) (hk : k < L.length) (hb : b < L.length) :
    Pth L par (L.getD b 0) (L.getD k 0) (L.getD i 0) ↔ Anc par i k ∧ ∀ q, par b = some q → ¬ Anc par i q := by
  unfold Pth
  rw [ovr_at hO hi hk, ovr_at hO hi hb]
  constructor
  · rintro ⟨h1, h2⟩
    refine ⟨h1, fun q hq ha => ?_⟩
    rcases h2 with h2 | h2
    · have : i = b := getD_inj hO hi hb h2
      subst this
      have := ha.le hI.V'
      have := hI.V' _ _ hq
      omega
    · exact h2 (.up hq ha)
  · rintro ⟨h1, h2⟩
    refine ⟨h1, ?_⟩
    by_cases e : i = b
    · exact .inl (by rw [e])
    · right
      intro h
      cases h with
      | refl => exact e rfl
      | up hq ha => exact h2 _ hq ha
omit hO in
/-- One step of the walk up from a source. -/
theorem edge_step {i k b : Nat} (hi : i < L.length) (ha : Anc par i k) (hq : ∀ q, par b = some q → q ≤ i) (hq' : ∀ q, par b = some q → Anc par q k) (hne : ∀ q, par b = some q → i ≠ q) (D0 D D' : Nat → Bool)
    (hD : ∀ d, D d = true ↔ D0 d = true ∨ ∃ x, x < L.length ∧ d = L.getD x 0 ∧ Anc par x k ∧ i < x) (hD' : ∀ d, D' d = true ↔ D d = true ∨ d = L.getD i 0) :
    (∀ i', par i = some i' → i' < L.length ∧ Anc par i' k ∧ i' + 1 ≤ i ∧ ∀ q, par b = some q → q ≤ i') ∧ (par i = none → par b = none) ∧
    (∀ d, D' d = true ↔ D0 d = true ∨ ∃ x, x < L.length ∧ d = L.getD x 0 ∧ Anc par x k ∧ ∀ i', par i = some i' → i' < x) := by
  have hup : ∀ q, par b = some q → ∃ i', par i = some i' ∧ Anc par q i' := fun q hb => by
    have h := Anc.linear hI.V' (hq' q hb) ha (hq q hb)
    cases h with
    | refl => exact absurd rfl (hne _ hb)
    | up h1 h2 => exact ⟨_, h1, h2⟩
  refine ⟨fun i' hi' => ?_, fun h => ?_, fun d => ?_⟩
  · have := hI.V' _ _ hi'
    refine ⟨by omega, Anc.trans (.up hi' (.refl _)) ha, by omega, fun q hb => ?_⟩
    obtain ⟨i2, h1, h2⟩ := hup q hb
    rw [hi'] at h1
    injection h1 with e
    subst e
    exact h2.le hI.V'
  · cases hb : par b with
    | none => rfl
    | some q =>
      obtain ⟨i2, h1, _⟩ := hup q hb
      rw [h] at h1
      cases h1
  · rw [hD', hD]
    constructor
    · rintro ((h | ⟨x, h1, h2, h3, h4⟩) | h)
      · exact .inl h
      · exact .inr ⟨x, h1, h2, h3, fun i' hi' => by have := hI.V' _ _ hi'; omega⟩
      · exact .inr ⟨i, hi, h, ha, fun i' hi' => hI.V' _ _ hi'⟩
    · rintro (h | ⟨x, h1, h2, h3, h4⟩)
      · exact .inl (.inl h)
      · by_cases hx : i < x
        · exact .inl (.inr ⟨x, h1, h2, h3, hx⟩)
        · have h := Anc.linear hI.V' h3 ha (by omega)
          cases h with
          | refl => exact .inr h2
          | up e1 e2 => have := e2.le hI.V'; have := h4 _ e1; omega
/-- The walk up from a source has ended. -/
theorem edge_done {k b : Nat} (hk : k < L.length) (hb : b < L.length) (o : Option Nat) (ho : par b = o) (hq' : ∀ q, par b = some q → Anc par q k) (d : Nat) :
    (∃ x, x < L.length ∧ d = L.getD x 0 ∧ Anc par x k ∧ ∀ i, o = some i → i < x) ↔ Pth L par (L.getD b 0) (L.getD k 0) d := by
  subst ho
  constructor
  · rintro ⟨x, h1, rfl, h3, h4⟩
    rw [pth_at hO hI h1 hk hb]
    exact ⟨h3, fun q hq ha => by have := ha.le hI.V'; have := h4 q hq; omega⟩
  · intro h
    obtain ⟨⟨x, k', h1, h2, h3⟩, h4⟩ := h
    have hx := num_some h1
    have hxl := (List.getElem?_eq_some_iff.1 hx).1
    have hd : d = L.getD x 0 := by rw [List.getD_eq_getElem?_getD, hx]; rfl
    subst hd
    have := (pth_at hO hI hxl hk hb).1 ⟨⟨x, k', h1, h2, h3⟩, h4⟩
    refine ⟨x, hxl, rfl, this.1, fun q hq => ?_⟩
    have h5 := this.2 q hq
    by_cases hlt : q < x
    · exact hlt
    · exact absurd (Anc.linear hI.V' this.1 (hq' q hq) (by omega)) h5
end
end Go.Proofs.Ytggbeehnmconmaa
