/- Plain: in the order each block stands behind the one above it; what the statement counts. -/
import Derived.Test.YtggbeehnmconmaaLawA
namespace Go.Proofs.Ytggbeehnmconmaa

section
variable {bs : List Blk} {L : List Nat} (hO : Ord bs L)
include hO
/-- What is come to is come to through earlier ones alone. -/
theorem ord_early : ∀ (k i x d : Nat), i ≤ k → L[i]? = some x → (∀ j, L[j]? = some d → i < j) → d ∈ L → Rch bs (d : Int) x := by
  intro k
  induction k with
  | zero =>
    intro i x d hi hx hd hm
    obtain rfl : i = 0 := by omega
    rw [hO.zero] at hx
    injection hx with hx
    subst hx
    exact .zero (fun e => by
      obtain ⟨j, hj⟩ := List.mem_iff_getElem?.1 hm
      have := hd j hj
      have e : d = 0 := by omega
      subst e
      have := hd 0 hO.zero
      omega)
  | succ k ih =>
    intro i x d hi hx hd hm
    rcases Nat.eq_zero_or_pos i with rfl | h0
    · exact ih 0 x d (by omega) hx hd hm
    · obtain ⟨q, b, x', hq, hb, hx', ht⟩ := hO.pred i h0 (List.getElem?_eq_some_iff.1 hx).1
      rw [hx] at hx'
      injection hx' with e
      subst e
      refine .step (ih q b d (by omega) hb (fun j hj => by have := hd j hj; omega) hm) ht (fun e => ?_)
      have e : x = d := by omega
      subst e
      have := hd i hx
      omega
theorem over_early {d b i j : Nat} (h : overB bs d b = true) (hne : d ≠ b) (hi : L[i]? = some d) (hj : L[j]? = some b) : i < j := by
  unfold overB at h
  simp only [Bool.and_eq_true, Bool.not_eq_true'] at h
  apply Classical.byContradiction
  intro hc
  have hij : i ≠ j := fun e => by subst e; rw [hi] at hj; injection hj with hj; exact hne hj
  have : rch bs (d : Int) b = true := rch_iff.2 (ord_early hO j j b d (Nat.le_refl _) hj (fun k hk => by
    have : k = i := by
      have h1 := (List.getElem?_eq_some_iff.1 hk).1
      exact (List.getElem?_inj h1 hO.nodup).1 (hk.trans hi.symm)
    omega) (List.mem_of_getElem? hi))
  rw [this] at h
  exact absurd h.2.2 (by simp)
end
theorem best_some (over : Nat → Nat → Bool) (b k : Nat) : bestTo over b k = -1 ∨ ∃ q : Nat, bestTo over b k = (q : Int) ∧ q < k ∧ q ≠ b ∧ over q b = true := by
  induction k with
  | zero => exact .inl rfl
  | succ k ih =>
    rw [bestTo_succ, bestStep]
    split
    · next h => exact .inr ⟨k, rfl, by omega, fun e => h.1 e, h.2.1⟩
    · rcases ih with h | ⟨q, h1, h2, h3⟩
      · exact .inl h
      · exact .inr ⟨q, h1, by omega, h3⟩
theorem best_pos (over : Nat → Nat → Bool) (b : Nat) {d k : Nat} (hd : d < k) (hne : d ≠ b) (h : over d b = true) : bestTo over b k ≠ -1 := by
  induction k with
  | zero => omega
  | succ k ih =>
    rw [bestTo_succ]
    by_cases hk : d < k
    · have h1 := ih hk
      rw [bestStep]
      split
      · omega
      · exact h1
    · obtain rfl : d = k := by omega
      rw [bestStep]
      rcases best_some over b d with h1 | ⟨q, h1, _⟩
      · rw [if_pos ⟨hne, h, .inl (by omega)⟩]; omega
      · split <;> omega
theorem aboveR_get (over : Nat → Nat → Bool) {n b : Nat} (h : b < n) : (aboveR over n)[b]? = some (bestTo over b n) := by simp [aboveR, h]

theorem len_of_mem {l l' : List Nat} (h : l.Nodup) (h' : l'.Nodup) (hm : ∀ x, x ∈ l ↔ x ∈ l') : l.length = l'.length :=
  List.Perm.length_eq (List.perm_iff_count.2 fun a => by rw [h.count, h'.count]; simp [hm a])

/-- What the statement asks of the orders. -/
structure Beh (bs : List Blk) (L : List Nat) : Prop where
  nodup : L.Nodup
  lt : ∀ x ∈ L, x < bs.length
  mem : ∀ x, x < bs.length → rch bs (-1) x = decide (x ∈ L)
  cnt : ((List.range bs.length).filter fun x => rch bs (-1) x).length = L.length
  none : ∀ i, i < bs.length → (i = 0 ∨ i ∉ L) → bestTo (overB bs) i bs.length = -1
  some : ∀ i, i < bs.length → i ≠ 0 → i ∈ L → ∃ q a b : Nat, bestTo (overB bs) i bs.length = (q : Int) ∧ q < bs.length ∧ num L q = Option.some a ∧ num L i = Option.some b ∧ a < b
  zero : L ≠ [] → L[0]? = Option.some 0
theorem beh_of {bs : List Blk} {L : List Nat} (h : OrdF bs L) : Beh bs L := by
  rcases h with ⟨h0, rfl⟩ | ⟨h0, m, out, hd, rfl⟩
  · have hb : bs = [] := List.length_eq_zero_iff.1 h0
    subst hb
    exact ⟨List.nodup_nil, by simp, by simp, by simp, by simp, by simp, by simp⟩
  · have hO := ord_of hd h0
    have hm : ∀ x, rch bs (-1) x = decide (x ∈ out.reverse) := fun x => by
      rw [Bool.eq_iff_iff, rch_iff, decide_eq_true_iff]
      exact rch_mem hO
    refine ⟨hO.nodup, hO.lt, fun x _ => hm x, ?_, fun i hi hc => ?_, fun i hi hne hmi => ?_, fun _ => hO.zero⟩
    · refine len_of_mem (List.nodup_range.filter _) hO.nodup (fun x => ?_)
      rw [List.mem_filter, List.mem_range, hm x, decide_eq_true_iff]
      exact ⟨fun h => h.2, fun h => ⟨hO.lt x h, h⟩⟩
    · rcases best_some (overB bs) i bs.length with h1 | ⟨q, h1, h2, h3, h4⟩
      · exact h1
      · exfalso
        have hqb := h4
        unfold overB at h4
        simp only [Bool.and_eq_true, Bool.not_eq_true'] at h4
        rw [hm, hm, decide_eq_true_iff, decide_eq_true_iff] at h4
        rcases hc with rfl | hc
        · obtain ⟨j, hj⟩ := List.mem_iff_getElem?.1 h4.1
          have := over_early hO hqb h3 hj hO.zero
          omega
        · exact hc h4.2.1
    · have h0m : 0 ∈ out.reverse := List.mem_of_getElem? hO.zero
      have h0o : overB bs 0 i = true := by
        unfold overB
        rw [hm, hm, decide_eq_true h0m, decide_eq_true hmi]
        have : rch bs ((0 : Nat) : Int) i = false := by
          cases hr : rch bs ((0 : Nat) : Int) i with
          | false => rfl
          | true => exact absurd (rch_iff.1 hr) rch_zero
        rw [this]
        rfl
      rcases best_some (overB bs) i bs.length with h1 | ⟨q, h1, h2, h3, h4⟩
      · exact absurd h1 (best_pos _ _ h0 (Ne.symm hne) h0o)
      · have hqb := h4
        unfold overB at h4
        simp only [Bool.and_eq_true, Bool.not_eq_true'] at h4
        rw [hm, hm, decide_eq_true_iff, decide_eq_true_iff] at h4
        obtain ⟨a, ha⟩ := num_mem h4.1
        obtain ⟨b, hb⟩ := num_mem hmi
        exact ⟨q, a, b, h1, h2, ha, hb, over_early hO hqb h3 (num_some ha) (num_some hb)⟩
end Go.Proofs.Ytggbeehnmconmaa
