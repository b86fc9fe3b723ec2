/- The program's dom: the sets of bits. -/
import Derived.Test.YtggbeehnmconmaaDom3
import Derived.Laws.BitsLemmas
import Derived.Laws.Bits64
namespace Go.Proofs.Ytggbeehnmconmaa
open Go.RowKit

theorem wraps_u64 (n : Int) (h₀ : 0 ≤ n) (h₁ : n < 2 ^ 64) : IntKind.u64.wrap n = n := by rw [IntKind.wrap_u64]; omega
theorem has_bit (x m : Nat) (hx : x < 18446744073709551616) : (bits BinOp.and IntKind.u64 ((x : Int) / 2 ^ m) 1 == 1) = x.testBit m := by
  have h := (bits_nat .u64 64 (by decide) wraps_u64 (x / 2 ^ m) 1 (Nat.lt_of_le_of_lt (Nat.div_le_self _ _) (by simpa using hx)) (by decide)).1
  have e : (((x / 2 ^ m : Nat) : Int)) = (x : Int) / 2 ^ m := by simp
  rw [e] at h
  rw [show ((1 : Nat) : Int) = 1 from rfl] at h
  rw [h, Nat.testBit_eq_decide_div_mod_eq, Nat.and_one_is_mod]
  rw [Bool.eq_iff_iff]
  simp
  omega
theorem put_bit (x m : Nat) (hx : x < 18446744073709551616) (hm : m < 64) : bits BinOp.or IntKind.u64 (x : Int) (IntKind.u64.wrap (2 ^ m)) = ((x ||| 2 ^ m : Nat) : Int) := by
  have hp : 2 ^ m < 2 ^ 64 := Nat.pow_lt_pow_right (by decide) hm
  have e : IntKind.u64.wrap (2 ^ m) = ((2 ^ m : Nat) : Int) := by
    rw [show ((2 : Int) ^ m) = ((2 ^ m : Nat) : Int) by simp]
    exact wraps_u64 _ (Int.natCast_nonneg _) (by exact_mod_cast hp)
  rw [e]
  exact (bits_nat .u64 64 (by decide) wraps_u64 x (2 ^ m) (by simpa using hx) hp).2

/-- A set of numbers below n, in bits. -/
def OBits (w : World) (S : Nat → Prop) (v : Value) (n : Nat) (m : Nat → Bool) : Prop :=
  ∃ xs : List Nat, xs.length = (n + 63) / 64 ∧ (∀ x ∈ xs, x < 18446744073709551616) ∧ (∀ i, i < n → (xs.getD (i / 64) 0).testBit (i % 64) = m i) ∧ Ow w S 113 1 v xs.length (xs.map fun x : Nat => .int .u64 (x : Int))
theorem OBits.keep {w w1 : World} {S T : Nat → Prop} {v : Value} {n : Nat} {m : Nat → Bool} (h : OBits w S v n m) (hk : Keeps w w1 T) (hd : ∀ g, S g → g < w.heap.size → ¬ T g) : OBits w1 S v n m := by
  obtain ⟨xs, h1, h2, h3, h4⟩ := h
  exact ⟨xs, h1, h2, h3, h4.keep hk hd⟩
theorem OBits.mono {w : World} {S T : Nat → Prop} {v : Value} {n : Nat} {m : Nat → Bool} (h : OBits w S v n m) (hS : ∀ g, S g → T g) : OBits w T v n m := by
  obtain ⟨xs, h1, h2, h3, h4⟩ := h
  exact ⟨xs, h1, h2, h3, h4.mono hS⟩

set_option maxHeartbeats 1000000 in
set_option maxRecDepth 100000 in
theorem has_calls {w : World} {S : Nat → Prop} {v : Value} {n : Nat} {m : Nat → Bool} (h : OBits w S v n m) (i : Nat) (hi : i < n) (hn : n ≤ 1000000) :
    Calls Try.prog 59 #[v, .int .i64 i] w fun e w' => e = .returned (.bool (m i)) ∧ w' = w := by
  obtain ⟨xs, h1, h2, h3, h4⟩ := h
  have hl : i / 64 < xs.length := by omega
  obtain ⟨g, c, cur, rfl, _, _⟩ := h4.addr (by omega)
  have hx : xs[i / 64] < 18446744073709551616 := h2 _ (List.getElem_mem hl)
  have hc := h4.cell (i / 64) (.int .u64 xs[i / 64]) (by rw [List.getElem?_map, List.getElem?_eq_getElem hl]; rfl)
  have h5 := h3 i hi
  rw [List.getD_eq_getElem?_getD, List.getElem?_eq_getElem hl] at h5
  have H := Hd.mk (has_bit xs[i / 64] (i % 64) hx)
  have H5 := Hd.mk h5
  generalize xs[i / 64] = x at *
  clear h5 h4 h3 h2 h1
  go_enter Try.func59, Try.ntmps59
  go_wp2
  go_ret
  exact ⟨by rw [← H5.out]; exact congrArg (fun b => Ending.returned (.bool b)) H.out, rfl⟩

set_option maxHeartbeats 1000000 in
set_option maxRecDepth 100000 in
theorem put_calls {w : World} {S : Nat → Prop} {v : Value} {n : Nat} {m : Nat → Bool} (h : OBits w S v n m) (i : Nat) (hi : i < n) (hn : n ≤ 1000000) :
    Calls Try.prog 58 #[v, .int .i64 i] w fun e w' => e = .returned (.tuple #[]) ∧ OBits w' S v n (fun j => if j = i then true else m j) ∧ Keeps w w' S := by
  obtain ⟨xs, h1, h2, h3, h4⟩ := h
  have hl : i / 64 < xs.length := by omega
  obtain ⟨g, c, cur, rfl, _, hS, _⟩ := h4.addr (by omega)
  have hx : xs[i / 64] < 18446744073709551616 := h2 _ (List.getElem_mem hl)
  have hc := h4.cell (i / 64) (.int .u64 xs[i / 64]) (by rw [List.getElem?_map, List.getElem?_eq_getElem hl]; rfl)
  have hf := h4.frozen (i / 64)
  have HB := Hd.mk (put_bit xs[i / 64] (i % 64) hx (by omega))
  have H2 := Hd.mk h2
  have H3 := Hd.mk h3
  have H4 := Hd.mk h4
  obtain ⟨x, hxe⟩ : ∃ x, xs[i / 64] = x := ⟨_, rfl⟩
  rw [hxe] at hc HB hx
  have HX := Hd.mk hxe
  have H1 := Hd.mk h1
  clear h1 h2 h3 h4 hxe
  go_enter Try.func58, Try.ntmps58
  go_region
  all_goals go_end0
  all_goals rw [HB.out]
  all_goals refine ⟨rfl, ⟨xs.set (i / 64) (x ||| 2 ^ (i % 64)), by rw [List.length_set]; exact H1.out, fun y hy => ?_, fun j hj => ?_, ?_⟩, ((Keeps.refl _ _).setCell (fun _ => hS) _).drew⟩
  · rcases List.mem_or_eq_of_mem_set hy with hy | rfl
    · exact H2.out y hy
    · exact Nat.or_lt_two_pow (n := 64) (by simpa using hx) (Nat.pow_lt_pow_right (by decide) (by omega))
  · have h5 := H3.out j hj
    rw [List.getD_eq_getElem?_getD] at h5 ⊢
    by_cases hji : j / 64 = i / 64
    · rw [hji, List.getElem?_set_self hl]
      rw [hji, List.getElem?_eq_getElem hl, HX.out] at h5
      simp only [Option.getD_some] at h5 ⊢
      rw [Nat.testBit_or, h5, Nat.testBit_two_pow]
      by_cases hm : j = i
      · subst hm; simp
      · rw [if_neg hm]
        have : ¬ (i % 64 = j % 64) := by omega
        simp [this]
    · have hne : j ≠ i := fun e => hji (by rw [e])
      show _ = if j = i then true else m j
      rw [List.getElem?_set_ne (by omega), h5, if_neg hne]
  · rw [List.length_set, List.map_set]
    exact (H4.out.set (i / 64) _).keep ((Keeps.refl _ (fun _ => False)).drew) (fun _ _ _ hf => hf)

set_option maxHeartbeats 1000000 in
set_option maxRecDepth 100000 in
theorem newBits_calls (w : World) (n : Nat) (hn : n ≤ 1000000) :
    Calls Try.prog 57 #[.int .i64 n] w fun e w' => ∃ v, e = .returned v ∧ OBits w' (fun g => w.heap.size ≤ g) v n (fun _ => false) ∧ Below w.heap.size w w' := by
  have hmk := run_make_row' (P := Try.prog) 52 113 (.int .u64 0) 8 Try.underlying52 info_u64 rfl .i64 .i64 ((n + 63) / 64) (by omega) (by omega)
  rw [show (((n + 63) / 64 : Nat) : Int) = ((n : Int) + 64 - 1) / 64 by omega] at hmk
  have h0 : 0 ≤ ((n : Int) + 64 - 1) := by omega
  go_enter Try.func57, Try.ntmps57
  go_wp2
  go_ret
  refine ⟨_, rfl, ⟨List.replicate ((n + 63) / 64) 0, by simp, fun x hx => ?_, fun i hi => ?_, ?_⟩, ((Keeps.refl _ _).alloc _).below0⟩
  · rw [(List.mem_replicate.1 hx).2]; decide
  · rw [List.getD_eq_getElem?_getD, List.getElem?_replicate]
    split <;> simp
  · rw [List.length_replicate, List.map_replicate]
    exact Ow.made w _ _ _ (Nat.le_refl _) (by omega)
end Go.Proofs.Ytggbeehnmconmaa
