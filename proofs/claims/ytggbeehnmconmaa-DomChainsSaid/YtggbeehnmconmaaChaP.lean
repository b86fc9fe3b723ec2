/- Plain: a chain of loops: its order, what stands above, the edges. -/
import Derived.Test.YtggbeehnmconmaaDiaP
namespace Go.Proofs.Ytggbeehnmconmaa

def chB (k : Nat) : List Blk := (List.range k).map (fun i : Nat => (⟨[], [], 1, 0, (i : Int) + 1, (i : Int)⟩ : Blk)) ++ [⟨[], [], 2, 0, 0, 0⟩]
theorem chB_len (k : Nat) : (chB k).length = k + 1 := by simp [chB]
theorem chB_get {k i : Nat} (h : i < k) : (chB k)[i]! = ⟨[], [], 1, 0, (i : Int) + 1, (i : Int)⟩ := by
  have : (chB k)[i]? = some ⟨[], [], 1, 0, (i : Int) + 1, (i : Int)⟩ := by
    unfold chB
    rw [List.getElem?_append_left (by simpa using h)]
    simp [h]
  rw [List.getElem!_eq_getElem?_getD, this]
  rfl
theorem chB_last (k : Nat) : (chB k)[k]! = ⟨[], [], 2, 0, 0, 0⟩ := by
  have : (chB k)[k]? = some ⟨[], [], 2, 0, 0, 0⟩ := by
    unfold chB
    rw [List.getElem?_append_right (by simp)]
    simp
  rw [List.getElem!_eq_getElem?_getD, this]
  rfl
theorem ch_tgt {k i : Nat} (h : i < k) : tgt (chB k) (i : Int) = [(i : Int) + 1, (i : Int)] := by
  unfold tgt
  rw [if_neg (by rw [chB_len]; omega), Int.toNat_natCast, chB_get h, chB_len]
  unfold tgtL
  rw [if_neg (by simp), if_pos rfl, if_neg (by simp only; omega)]
  rw [List.filter_cons_of_pos (by simp; omega), List.filter_cons_of_pos (by simp; omega), List.filter_nil]
theorem ch_tgt_last (k : Nat) : tgt (chB k) (k : Int) = [] := by
  unfold tgt
  rw [if_neg (by rw [chB_len]; omega), Int.toNat_natCast, chB_last]
  rfl
theorem ch_tg {k i : Nat} (h : i < k) : tg (chB k) i = [i + 1, i] := by
  unfold tg
  rw [ch_tgt h]
  simp
theorem ch_tg_last (k : Nat) : tg (chB k) k = [] := by
  unfold tg
  rw [ch_tgt_last]
  rfl
theorem ch_tg_out {k i : Nat} (h : k < i) : tg (chB k) i = [] := by
  unfold tg tgt
  rw [if_pos (by rw [chB_len]; omega)]
  rfl
theorem ch_mem {k i t : Nat} : t ∈ tg (chB k) i ↔ i < k ∧ (t = i + 1 ∨ t = i) := by
  rcases Nat.lt_trichotomy i k with h | h | h
  · rw [ch_tg h]; simp [h]
  · subst h; rw [ch_tg_last]; simp
  · rw [ch_tg_out h]; simp; omega

theorem ch_ol (k : Nat) : ∀ (d b : Nat) (out : List Nat), b + d = k → OL (tg (chB k)) b 0 (fun j => decide (j ≤ b)) out (fun j => decide (j ≤ k)) (out ++ (List.range' (b + 1) d).reverse)
  | 0, b, out, h => by
    obtain rfl : b = k := by omega
    simp only [List.range'_zero, List.reverse_nil, List.append_nil]
    exact .done' (by rw [ch_tg_last]; rfl)
  | d + 1, b, out, h => by
    have ih := ch_ol k d (b + 1) out (by omega)
    have em : mset (fun j => decide (j ≤ b)) (b + 1) = fun j => decide (j ≤ b + 1) := by
      funext j
      unfold mset
      by_cases e : j = b + 1
      · simp [e]
      · simp [e]; omega
    rw [← em] at ih
    have e2 : out ++ (List.range' (b + 1) (d + 1)).reverse = (out ++ (List.range' (b + 1 + 1) d).reverse) ++ [b + 1] := by
      rw [List.range'_succ, List.reverse_cons, List.append_assoc]
    rw [e2]
    refine .into' (t := b + 1) (by rw [ch_tg (by omega)]; rfl) (by simp) ih ?_
    exact .skip' (t := b) (by rw [ch_tg (by omega)]; rfl) (by simp; omega) (.done' (by rw [ch_tg (by omega)]; rfl))
theorem ch_reach (k : Nat) : ∃ m, DReach (tg (chB k)) m ((List.range (k + 1)).reverse) [] := by
  have h := ch_ol k k 0 [] (by omega)
  have e0 : (fun j : Nat => decide (j ≤ 0)) = fun j => decide (j = 0) := by funext j; simp
  rw [e0] at h
  have h2 := DReach.pop (h.reach [] .init) rfl
  refine ⟨fun j => decide (j ≤ k), ?_⟩
  have e : (List.range (k + 1)).reverse = ([] ++ (List.range' (0 + 1) k).reverse) ++ [0] := by
    rw [List.range_eq_range', List.range'_succ, List.reverse_cons, List.nil_append]
  rw [e]
  exact h2
theorem ch_ord {k : Nat} {L : List Nat} (h : OrdF (chB k) L) : L = List.range (k + 1) := by
  obtain ⟨m, hd⟩ := ch_reach k
  exact h.one (.inr ⟨by rw [chB_len]; omega, m, _, hd, by rw [List.reverse_reverse]⟩)

theorem ch_rch_all {k x : Nat} : Rch (chB k) (-1) x ↔ x ≤ k := by
  constructor
  · intro h
    have := h.lt (by rw [chB_len]; omega)
    rw [chB_len] at this
    omega
  · intro h
    induction x with
    | zero => exact .zero (by decide)
    | succ x ih => exact .step (ih (by omega)) (ch_mem.2 ⟨by omega, .inl rfl⟩) (by omega)
theorem ch_rch_bar {k d x : Nat} (hd : d ≤ k) : Rch (chB k) (d : Int) x ↔ x < d := by
  constructor
  · intro h
    induction h with
    | zero h => omega
    | @step b t _ ht hb ih =>
      obtain ⟨h1, h2⟩ := ch_mem.1 ht
      omega
  · intro h
    induction x with
    | zero => exact .zero (by omega)
    | succ x ih => exact .step (ih (by omega)) (ch_mem.2 ⟨by omega, .inl rfl⟩) (by omega)
theorem ch_over (k d b : Nat) : overB (chB k) d b = decide (d ≤ b ∧ b ≤ k) := by
  rw [Bool.eq_iff_iff, decide_eq_true_iff]
  unfold overB
  simp only [Bool.and_eq_true, Bool.not_eq_true']
  constructor
  · rintro ⟨h1, h2, h3⟩
    have h1 := ch_rch_all.1 (rch_iff.1 h1)
    have h2 := ch_rch_all.1 (rch_iff.1 h2)
    refine ⟨Classical.byContradiction fun hc => ?_, h2⟩
    have := rch_iff.2 ((ch_rch_bar h1).2 (show b < d by omega))
    rw [this] at h3
    exact absurd h3 (by simp)
  · rintro ⟨h1, h2⟩
    refine ⟨rch_iff.2 (ch_rch_all.2 (by omega)), rch_iff.2 (ch_rch_all.2 h2), ?_⟩
    cases hr : rch (chB k) (d : Int) b with
    | false => rfl
    | true =>
      have := (ch_rch_bar (by omega)).1 (rch_iff.1 hr)
      omega
theorem ch_best (k b : Nat) (hb : b ≤ k) (n : Nat) : bestTo (overB (chB k)) b n = if n ≤ b then (n : Int) - 1 else (b : Int) - 1 := by
  induction n with
  | zero => rfl
  | succ n ih =>
    rw [bestTo_succ, ih, bestStep, ch_over, ch_over]
    by_cases h1 : n + 1 ≤ b
    · rw [if_pos (show n ≤ b by omega), if_pos h1]
      rw [if_pos]
      · omega
      · refine ⟨by omega, by simp; omega, ?_⟩
        rcases Nat.eq_zero_or_pos n with h0 | h0
        · left; omega
        · right
          rw [decide_eq_true_iff]
          omega
    · rw [if_neg h1]
      rw [if_neg]
      · split <;> omega
      · rintro ⟨h2, h3, _⟩
        rw [decide_eq_true_iff] at h3
        omega
theorem ch_above (k : Nat) : aboveR (overB (chB k)) (k + 1) = (List.range (k + 1)).map fun i : Nat => (i : Int) - 1 := by
  unfold aboveR
  refine List.map_congr_left fun b hb => ?_
  rw [List.mem_range] at hb
  rw [ch_best k b (by omega), if_neg (by omega)]
theorem ch_edgeC (k b y : Nat) (hb : b ≤ k) (hy : y ≤ k) : edgeC (overB (chB k)) (chB k) b y = decide (y = b ∧ b < k) := by
  rw [Bool.eq_iff_iff, decide_eq_true_iff]
  unfold edgeC
  simp only [Bool.and_eq_true, Bool.or_eq_true, List.any_eq_true, decide_eq_true_iff, Bool.not_eq_true', ch_over, decide_eq_false_iff_not]
  constructor
  · rintro ⟨⟨s, hs, h1⟩, h2⟩
    obtain ⟨j, rfl, hj, ht⟩ := mem_src.1 hs
    rw [Int.toNat_natCast] at h1
    obtain ⟨h3, h4⟩ := ch_mem.1 ht
    omega
  · rintro ⟨rfl, h⟩
    refine ⟨⟨(y : Int), mem_src.2 ⟨y, rfl, by rw [chB_len]; omega, ch_mem.2 ⟨h, .inr rfl⟩⟩, ?_⟩, .inl rfl⟩
    rw [Int.toNat_natCast]
    omega
theorem filter_one (n b : Nat) (p : Nat → Bool) (h : ∀ y, y < n → p y = decide (y = b ∧ b < n)) : (List.range n).filter p = if b < n then [b] else [] := by
  induction n with
  | zero => simp
  | succ n ih =>
    rw [List.range_succ, List.filter_append]
    by_cases hb : b < n
    · rw [ih (fun y hy => by rw [h y (by omega)]; exact decide_eq_decide.2 (by omega)), if_pos hb, if_pos (by omega), List.filter_cons_of_neg (by rw [h n (by omega)]; simp; omega)]
      rfl
    · rw [ih (fun y hy => by rw [h y (by omega)]; exact decide_eq_decide.2 (by omega)), if_neg hb]
      by_cases e : b = n
      · subst e
        rw [List.filter_cons_of_pos (by rw [h b (by omega)]; simp), if_pos (by omega)]
        rfl
      · rw [List.filter_cons_of_neg (by rw [h n (by omega)]; simp; omega), if_neg (by omega)]
        rfl
theorem ch_edge (k : Nat) : edgeR (overB (chB k)) (chB k) (k + 1) = (List.range (k + 1)).map fun b : Nat => if b < k then [(b : Int)] else [] := by
  unfold edgeR
  refine List.map_congr_left fun b hb => ?_
  rw [List.mem_range] at hb
  by_cases h : b < k
  · rw [if_pos h, filter_one (k + 1) b _ (fun y hy => by rw [ch_edgeC k b y (by omega) (by omega)]; exact decide_eq_decide.2 (by omega)), if_pos (by omega)]
    rfl
  · rw [if_neg h, filter_one (k + 1) (k + 1) _ (fun y hy => by rw [ch_edgeC k b y (by omega) (by omega)]; exact decide_eq_decide.2 (by omega)), if_neg (by omega)]
    rfl
end Go.Proofs.Ytggbeehnmconmaa
