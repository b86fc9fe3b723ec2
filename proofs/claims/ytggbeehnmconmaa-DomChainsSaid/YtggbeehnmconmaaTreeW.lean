/- Plain: what a round of the tree's loops comes to, in the lists that the program holds. -/
import Derived.Test.YtggbeehnmconmaaTreeQ
namespace Go.Proofs.Ytggbeehnmconmaa
open T

/-- What the sources so far have in common: none was done, or the block's place is t. -/
def ToR (L : List Nat) (par : Nat → Option Nat) (c : Nat) (pre : List Nat) (to : Int) : Prop :=
  (to = -1 ∧ ∀ k ∈ pre, ¬ k < c) ∨ ∃ t, to = ((L.getD t 0 : Nat) : Int) ∧ t < c ∧ ∀ x, Anc par x t ↔ ∀ k ∈ pre, k < c → Anc par x k

section
variable {L : List Nat} {c : Nat} {par : Nat → Option Nat}
theorem getD_at {i : Nat} (hi : i < L.length) : L[i]? = some (L.getD i 0) := by rw [List.getD_eq_getElem?_getD, List.getElem?_eq_getElem hi]; rfl
/-- A source that is not reached, or not done yet. -/
theorem ToR.skip {pre : List Nat} {to : Int} (h : ToR L par c pre to) {s : Nat} (hs : ∀ k, num L s = some k → ¬ k < c) : ToR L par c (pre ++ nums L [(s : Int)]) to := by
  have hk : ∀ k ∈ nums L [(s : Int)], ¬ k < c := fun k hk => by
    unfold nums at hk
    simp at hk
    exact hs k hk
  rcases h with ⟨h1, h2⟩ | ⟨t, h1, h2, h3⟩
  · refine .inl ⟨h1, fun k hk' => ?_⟩
    rcases List.mem_append.1 hk' with hk' | hk'
    · exact h2 k hk'
    · exact hk k hk'
  · refine .inr ⟨t, h1, h2, fun x => ?_⟩
    rw [h3 x]
    refine ⟨fun hx k hk' hc => ?_, fun hx k hk' hc => hx k (List.mem_append_left _ hk') hc⟩
    rcases List.mem_append.1 hk' with hk' | hk'
    · exact hx k hk' hc
    · exact absurd hc (hk k hk')
/-- A source that is done: the first .. -/
theorem ToR.first {pre : List Nat} (h : ToR L par c pre (-1)) {s k : Nat} (hs : num L s = some k) (hk : k < c) : ToR L par c (pre ++ nums L [(s : Int)]) (s : Int) := by
  have e : nums L [(s : Int)] = [k] := by simp [nums, hs]
  rw [e]
  rcases h with ⟨_, h2⟩ | ⟨t, h1, h2, h3⟩
  · refine .inr ⟨k, ?_, hk, fun x => ⟨fun hx k' hk' hc => ?_, fun hx => hx k (by simp) hk⟩⟩
    · rw [List.getD_eq_getElem?_getD, num_some hs]; rfl
    · rcases List.mem_append.1 hk' with hk' | hk'
      · exact absurd hc (h2 k' hk')
      · simp at hk'; subst hk'; exact hx
  · omega
end

section
variable {bs : List Blk} {L : List Nat} (hO : Ord bs L) {c j : Nat} {par : Nat → Option Nat} (hI : Inv L.length (SL bs L) (ppL bs L) c j par)
include hO
theorem getD_lt {i : Nat} (hi : i < L.length) : L.getD i 0 < bs.length := hO.lt _ (List.mem_of_getElem? (getD_at hi))
theorem getD_inj {i k : Nat} (hi : i < L.length) (hk : k < L.length) (h : L.getD i 0 = L.getD k 0) : i = k := by
  have h1 := num_get hO.nodup (getD_at hi)
  have h2 := num_get hO.nodup (getD_at hk)
  rw [h] at h1
  rw [h1] at h2
  injection h2
theorem atL_at {i : Nat} (hi : i < L.length) : (atL bs.length L).getD (L.getD i 0) 0 = (i : Int) := by
  rw [List.getD_eq_getElem?_getD, atL_get L (getD_lt hO hi), Option.getD_some, atV, num_get hO.nodup (getD_at hi)]
theorem abL_at {i q : Nat} (hi : i < L.length) (hq : par i = some q) : (abL bs.length L par).getD (L.getD i 0) 0 = ((L.getD q 0 : Nat) : Int) := by
  rw [List.getD_eq_getElem?_getD, abL_get L par (getD_lt hO hi), Option.getD_some, abV, num_get hO.nodup (getD_at hi)]
  show (match par i with | some q => ((L.getD q 0 : Nat) : Int) | none => -1) = _
  rw [hq]
theorem meets_of (hV : ∀ i q, par i = some q → q < i) {n a b r : Nat} (h : MeetN par n a b r) (ha : a < L.length) (hb : b < L.length) : Meets0 (atL bs.length L) (abL bs.length L par) n (L.getD a 0) (L.getD b 0) (L.getD r 0) := by
  induction h with
  | done => exact .done _
  | @left n a b a' r hlt hp _ ih =>
    have := hV _ _ hp
    refine .left ?_ (abL_at hO ha hp) (by rw [atL_len]; exact getD_lt hO (by omega)) (ih (by omega) hb)
    rw [atL_at hO ha, atL_at hO hb]
    omega
  | @right n a b b' r hlt hp _ ih =>
    have := hV _ _ hp
    refine .right ?_ (abL_at hO hb hp) (by rw [atL_len]; exact getD_lt hO (by omega)) (ih ha (by omega))
    rw [atL_at hO ha, atL_at hO hb]
    omega
include hI
/-- .. or one more. -/
theorem ToR.next {pre : List Nat} {t : Nat} (h : ToR L par c pre (t : Int)) {s k : Nat} (hs : num L s = some k) (hk : k < c) :
    ∃ n r, Meets0 (atL bs.length L) (abL bs.length L par) n t s r ∧ t < bs.length ∧ ToR L par c (pre ++ nums L [(s : Int)]) (r : Int) := by
  have e : nums L [(s : Int)] = [k] := by simp [nums, hs]
  rw [e]
  have hkm : k < L.length := (List.getElem?_eq_some_iff.1 (num_some hs)).1
  have hcm := hI.cm
  rcases h with ⟨h1, _⟩ | ⟨t', h1, h2, h3⟩
  · omega
  · have e1 : t = L.getD t' 0 := by omega
    have e2 : s = L.getD k 0 := by rw [List.getD_eq_getElem?_getD, num_some hs]; rfl
    obtain ⟨n, r, hm, hr, hx⟩ := hI.meet (t' + k) t' k (Nat.le_refl _) h2 hk
    refine ⟨n, L.getD r 0, ?_, by rw [e1]; exact getD_lt hO (by omega), .inr ⟨r, rfl, hr, fun x => ?_⟩⟩
    · rw [e1, e2]
      exact meets_of hO hI.V' hm (by omega) hkm
    · rw [hx x, h3 x]
      refine ⟨fun ⟨k1, k2⟩ k' hk' hc => ?_, fun hh => ⟨fun k' hk' hc => hh k' (List.mem_append_left _ hk') hc, hh k (by simp) hk⟩⟩
      rcases List.mem_append.1 hk' with hk' | hk'
      · exact k1 k' hk' hc
      · simp at hk'; subst hk'; exact k2
/-- Behind all sources of the j-th. -/
theorem ToR.done {to : Int} (h : ToR L par c (SL bs L j) to) (h0 : 0 < j) (hj : j < L.length) :
    ∃ t, to = ((L.getD t 0 : Nat) : Int) ∧ t < L.length ∧ (∀ x, Anc par x t ↔ ∀ s ∈ SL bs L j, s < c → Anc par x s) := by
  have hp := hO.gr.pp j h0 hj
  rcases h with ⟨_, h2⟩ | ⟨t, h1, h2, h3⟩
  · exact absurd (by have := hI.jc; omega) (h2 _ hp.1)
  · exact ⟨t, h1, by have := hI.cm; omega, h3⟩
/-- What the program reads of a source. -/
theorem src_read (s : Nat) (hs : s < bs.length) :
    (num L s = none ∧ atV L s = -1) ∨ ∃ k, num L s = some k ∧ atV L s = (k : Int) ∧ (s = 0 ↔ k = 0) ∧ ((k = 0 ∨ c ≤ k) ∧ abV L par s = -1 ∨ (0 < k ∧ k < c) ∧ 0 ≤ abV L par s) := by
  cases hn : num L s with
  | none => exact .inl ⟨rfl, by rw [atV, hn]⟩
  | some k =>
    have h1 := num_some hn
    refine .inr ⟨k, rfl, by rw [atV, hn], ⟨fun e => ?_, fun e => ?_⟩, ?_⟩
    · subst e
      have := num_get hO.nodup hO.zero
      rw [hn] at this
      injection this
    · subst e
      have := hO.zero
      rw [h1] at this
      injection this
    · by_cases hk : k = 0 ∨ c ≤ k
      · exact .inl ⟨hk, by rw [abV, hn]; simp only; rw [hI.non k hk]⟩
      · obtain ⟨q, hq, _⟩ := hI.V k (by omega) (by omega)
        exact .inr ⟨by omega, by rw [abV, hn]; simp only; rw [hq]; simp⟩
end
/-- In this pass no block turned: each has what its sources have in common. -/
def FixP (bs : List Blk) (L : List Nat) (c : Nat) (par : Nat → Option Nat) (j : Nat) : Prop :=
  ∀ i q, i < j → par i = some q → ∀ x, Anc par x q → ∀ s ∈ SL bs L i, s < c → Anc par x s
/-- What tree comes to. -/
def TreeR (bs : List Blk) (L : List Nat) (par : Nat → Option Nat) : Prop := Ord bs L ∧ ∃ j, Inv L.length (SL bs L) (ppL bs L) L.length j par ∧ FixP bs L L.length par L.length
end Go.Proofs.Ytggbeehnmconmaa
