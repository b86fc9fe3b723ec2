/- Plain: the tree in the blocks' own numbers. -/
import Derived.Test.YtggbeehnmconmaaDomP
import Derived.Test.YtggbeehnmconmaaTreeP
namespace Go.Proofs.Ytggbeehnmconmaa
open T

/-- Two blocks' nearest common one, going up one step at a time; n steps. -/
inductive Meets0 (at_ ab : List Int) : Nat → Nat → Nat → Nat → Prop
  | done (a : Nat) : Meets0 at_ ab 0 a a a
  | left {n a b a' r : Nat} : at_.getD a 0 > at_.getD b 0 → ab.getD a 0 = (a' : Int) → a' < at_.length → Meets0 at_ ab n a' b r → Meets0 at_ ab (n + 1) a b r
  | right {n a b b' r : Nat} : at_.getD b 0 > at_.getD a 0 → ab.getD b 0 = (b' : Int) → b' < at_.length → Meets0 at_ ab n a b' r → Meets0 at_ ab (n + 1) a b r
theorem Meets0.ne {at_ ab : List Int} {n a b r : Nat} (h : Meets0 at_ ab n a b r) (hne : a ≠ b) : at_.getD a 0 ≠ at_.getD b 0 := by
  cases h with
  | done => exact absurd rfl hne
  | left h => omega
  | right h => omega

theorem Meets0.eq {at_ ab : List Int} {n a r : Nat} (h : Meets0 at_ ab n a a r) : r = a := by
  cases h with
  | done => rfl
  | left h => omega
  | right h => omega


/-- The place of a block in a list. -/
def num : List Nat → Nat → Option Nat
  | [], _ => none
  | x :: l, b => if x = b then some 0 else (num l b).map (· + 1)
theorem num_some : ∀ {l : List Nat} {b i : Nat}, num l b = some i → l[i]? = some b
  | [], _, _, h => by simp [num] at h
  | x :: l, b, i, h => by
    unfold num at h
    split at h
    · next e => injection h with h; subst h e; rfl
    · cases hn : num l b with
      | none => simp [hn] at h
      | some k =>
        simp [hn] at h
        subst h
        simpa using num_some hn
theorem num_get : ∀ {l : List Nat} {b i : Nat}, l.Nodup → l[i]? = some b → num l b = some i
  | [], _, _, _, h => by simp at h
  | x :: l, b, 0, _, h => by
    simp at h
    simp [num, h]
  | x :: l, b, i + 1, hn, h => by
    rw [List.nodup_cons] at hn
    have h1 : l[i]? = some b := by simpa using h
    have h2 : x ≠ b := fun e => hn.1 (e ▸ List.mem_of_getElem? h1)
    rw [num, if_neg h2, num_get hn.2 h1]
    rfl
theorem num_mem {l : List Nat} {b : Nat} (h : b ∈ l) : ∃ i, num l b = some i := by
  induction l with
  | nil => simp at h
  | cons x l ih =>
    by_cases e : x = b
    · exact ⟨0, by rw [num, if_pos e]⟩
    · rcases List.mem_cons.1 h with h | h
      · exact absurd h.symm e
      · obtain ⟨i, hi⟩ := ih h
        exact ⟨i + 1, by rw [num, if_neg e, hi]; rfl⟩
theorem num_none {l : List Nat} {b : Nat} (h : b ∉ l) : num l b = none := by
  cases hn : num l b with
  | none => rfl
  | some i => exact absurd (List.mem_of_getElem? (num_some hn)) h
theorem num_snoc {l : List Nat} {x b : Nat} (h : x ∉ l) : num (l ++ [x]) b = if b = x then some l.length else num l b := by
  induction l with
  | nil =>
    by_cases e : b = x
    · subst e; simp [num]
    · simp [num, e]; exact fun e2 => e e2.symm
  | cons y l ih =>
    have h1 : x ∉ l := fun hm => h (List.mem_cons_of_mem _ hm)
    have h2 : y ≠ x := fun e => h (by rw [e]; simp)
    show num (y :: (l ++ [x])) b = _
    rw [num, num, ih h1]
    by_cases e : b = x
    · subst e
      simp [h2]
    · simp [e]

def atV (L : List Nat) (b : Nat) : Int := match num L b with | some i => (i : Int) | none => -1
def abV (L : List Nat) (par : Nat → Option Nat) (b : Nat) : Int := match num L b with
  | some i => (match par i with | some q => ((L.getD q 0 : Nat) : Int) | none => -1)
  | none => -1
def atL (n : Nat) (L : List Nat) : List Int := (List.range n).map (atV L)
def abL (n : Nat) (L : List Nat) (par : Nat → Option Nat) : List Int := (List.range n).map (abV L par)
theorem atL_len (n : Nat) (L : List Nat) : (atL n L).length = n := by simp [atL]
theorem abL_len (n : Nat) (L : List Nat) (par : Nat → Option Nat) : (abL n L par).length = n := by simp [abL]
theorem atL_get {n b : Nat} (L : List Nat) (h : b < n) : (atL n L)[b]? = some (atV L b) := by simp [atL, h]
theorem abL_get {n b : Nat} (L : List Nat) (par : Nat → Option Nat) (h : b < n) : (abL n L par)[b]? = some (abV L par b) := by simp [abL, h]
theorem atL_nil (n : Nat) : atL n [] = List.replicate n (-1) := by
  apply List.ext_getElem <;> simp [atL, atV, num]
theorem abL_none (n : Nat) (L : List Nat) : abL n L (fun _ => none) = List.replicate n (-1) := by
  apply List.ext_getElem
  · simp [abL]
  · intro i _ _
    simp only [abL, List.getElem_map, List.getElem_replicate, abV]
    split <;> rfl
theorem atL_snoc {n : Nat} {l : List Nat} {x : Nat} (h : x ∉ l) : (atL n l).set x (l.length : Int) = atL n (l ++ [x]) := by
  apply List.ext_getElem
  · simp [atL]
  · intro i h1 h2
    by_cases e : i = x
    · subst e
      simp [atL, atV, num_snoc h]
    · rw [List.getElem_set_ne (Ne.symm e)]
      simp [atL, atV, num_snoc h, e]

/-- The order of all that are reached. -/
structure Ord (bs : List Blk) (L : List Nat) : Prop where
  nodup : L.Nodup
  lt : ∀ x ∈ L, x < bs.length
  zero : L[0]? = some 0
  pred : ∀ i, 0 < i → i < L.length → ∃ k b x, k < i ∧ L[k]? = some b ∧ L[i]? = some x ∧ x ∈ tg bs b
  shut : ∀ b ∈ L, ∀ t ∈ tg bs b, t ∈ L

/-- The sources of the i-th, as places. -/
def nums (L : List Nat) (l : List Int) : List Nat := l.filterMap fun s => num L s.toNat
def SL (bs : List Blk) (L : List Nat) (i : Nat) : List Nat := nums L (src bs ((L.getD i 0 : Nat) : Int))
theorem mem_src {bs : List Blk} {b : Nat} {s : Int} : s ∈ src bs (b : Int) ↔ ∃ k : Nat, s = (k : Int) ∧ k < bs.length ∧ b ∈ tg bs k := by
  unfold src srcTo
  simp only [List.mem_map, List.mem_filter, List.mem_range, List.contains_eq_mem, decide_eq_true_eq]
  constructor
  · rintro ⟨k, ⟨h1, h2⟩, rfl⟩
    exact ⟨k, rfl, h1, List.mem_map.2 ⟨_, h2, by simp⟩⟩
  · rintro ⟨k, rfl, h1, h2⟩
    refine ⟨k, ⟨h1, ?_⟩, rfl⟩
    obtain ⟨y, hy, e⟩ := List.mem_map.1 h2
    have := tgt_mem hy
    have : y = (b : Int) := by omega
    rw [← this]
    exact hy
theorem mem_nums {L : List Nat} {l : List Int} {k : Nat} (hn : L.Nodup) (hl : ∀ s ∈ l, 0 ≤ s) : k ∈ nums L l ↔ ∃ b, L[k]? = some b ∧ (b : Int) ∈ l := by
  unfold nums
  rw [List.mem_filterMap]
  constructor
  · rintro ⟨s, hs, h⟩
    exact ⟨s.toNat, num_some h, by rw [Int.toNat_of_nonneg (hl s hs)]; exact hs⟩
  · rintro ⟨b, h1, h2⟩
    exact ⟨_, h2, by rw [Int.toNat_natCast]; exact num_get hn h1⟩
theorem src_nonneg {bs : List Blk} {b : Int} : ∀ s ∈ src bs b, 0 ≤ s := by
  intro s hs
  unfold src srcTo at hs
  simp only [List.mem_map] at hs
  obtain ⟨k, _, rfl⟩ := hs
  omega
theorem mem_SL {bs : List Blk} {L : List Nat} (hO : Ord bs L) {i x : Nat} (hi : L[i]? = some x) {k : Nat} : k ∈ SL bs L i ↔ ∃ b, L[k]? = some b ∧ x ∈ tg bs b := by
  unfold SL
  rw [mem_nums hO.nodup src_nonneg, List.getD_eq_getElem?_getD, hi]
  constructor
  · rintro ⟨b, h1, h2⟩
    obtain ⟨k', e, _, h3⟩ := mem_src.1 h2
    have : k' = b := by omega
    exact ⟨b, h1, this ▸ h3⟩
  · rintro ⟨b, h1, h2⟩
    exact ⟨b, h1, mem_src.2 ⟨b, rfl, hO.lt _ (List.mem_of_getElem? h1), h2⟩⟩

/-- A source ahead of each. -/
noncomputable def ppL (bs : List Blk) (L : List Nat) (i : Nat) : Nat := Classical.epsilon fun k => k ∈ SL bs L i ∧ k < i
theorem Ord.gr {bs : List Blk} {L : List Nat} (hO : Ord bs L) : Gr L.length (SL bs L) (ppL bs L) where
  pos := by
    have := hO.zero
    cases L with
    | nil => simp at this
    | cons => simp
  src := fun i s hs => by
    unfold SL nums at hs
    rw [List.mem_filterMap] at hs
    obtain ⟨x, _, h⟩ := hs
    have := num_some h
    exact (List.getElem?_eq_some_iff.1 this).1
  pp := fun i h0 hi => by
    obtain ⟨k, b, x, hk, h1, h2, h3⟩ := hO.pred i h0 hi
    exact Classical.epsilon_spec (p := fun k => k ∈ SL bs L i ∧ k < i) ⟨k, (mem_SL hO h2).2 ⟨b, h1, h3⟩, hk⟩

section
variable {bs : List Blk} {L : List Nat} (hO : Ord bs L) {c j : Nat} {par : Nat → Option Nat} (hI : Inv L.length (SL bs L) (ppL bs L) c j par)
include hO
theorem atV_at {i : Nat} (hi : i < L.length) : atV L L[i] = (i : Int) := by
  rw [atV, num_get hO.nodup (List.getElem?_eq_getElem hi)]
theorem abV_at {i : Nat} (hi : i < L.length) : abV L par L[i] = match par i with | some q => ((L.getD q 0 : Nat) : Int) | none => -1 := by
  rw [abV, num_get hO.nodup (List.getElem?_eq_getElem hi)]
theorem abL_set {i t : Nat} (hi : i < L.length) : (abL bs.length L par).set L[i] ((L.getD t 0 : Nat) : Int) = abL bs.length L (upd par i t) := by
  apply List.ext_getElem
  · simp [abL]
  · intro k h1 h2
    rw [List.getElem_set]
    split
    · next e =>
      subst e
      simp only [abL, List.getElem_map, List.getElem_range]
      rw [abV_at hO hi, upd_self]
    · next e =>
      simp only [abL, List.getElem_map, List.getElem_range]
      unfold abV
      cases hn : num L k with
      | none => rfl
      | some i' =>
        have h3 := num_some hn
        have : i' ≠ i := fun e2 => e (by subst e2; rw [List.getElem?_eq_getElem hi] at h3; injection h3)
        simp only [upd_ne par this]
end
end Go.Proofs.Ytggbeehnmconmaa
