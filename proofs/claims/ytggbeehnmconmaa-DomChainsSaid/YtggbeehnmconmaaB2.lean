/- append onto a slice that is owned; make. -/
import Derived.Test.YtggbeehnmconmaaB1
import Derived.Maps.AppendAt
import Derived.Deep.OwnRows
import Derived.Deep.RegionLaw
namespace Go.Proofs.Ytggbeehnmconmaa
open Go.RowKit

section
variable {P : Program} {ops : Array Oper} {rest : List Oper} {o : Oper} {a : Act} {Q : Exit → Act → World → Prop}

theorem info_of {e : TypeId} {z : Value} {size bytes : Nat} (hinfo : (P.info? e).map (fun i => (i.zero, i.size, i.bytes)) = some (some z, size, bytes)) : ∃ i, P.info? e = some i ∧ i.zero = some z ∧ i.size = size ∧ i.bytes = bytes := by
  cases h : P.info? e with
  | none => simp [h] at hinfo
  | some i =>
    simp [h] at hinfo
    exact ⟨i, rfl, hinfo.1, hinfo.2.1, hinfo.2.2⟩

theorem ow_append {w w' : World} {S : Nat → Prop} {e size : Nat} {v v' : Value} {n m : Nat} {cs : List Value} (hS : ∀ g, v.ownBlock = some g → S g)
    (h2 : w'.ownsRow 0 e size v' m cs) (h5 : v'.ownBlock = v.ownBlock ∨ v'.ownBlock = some w.heap.size) (hn : n ≤ w.heap.size) : Ow w' (fun k => S k ∨ n ≤ k) e size v' m cs := by
  refine ⟨h2, fun g hg => ?_⟩
  rcases h5 with h5 | h5
  · exact .inl (hS g (h5 ▸ hg))
  · rw [h5] at hg
    injection hg with hg
    exact .inr (hg ▸ hn)

/-- 'append(v, x)', x of the cells news: the variadic's box lies in the goal's world. -/
theorem append1 {w : World} {S : Nat → Prop} (hgd : o.guard = none) (s x : Operand) (t e : TypeId) (z : Value) (size bytes : Nat)
    (ho : o.op = .call { callee := .builtin .append, args := #[s, x], argTypes := #[t, t] }) (ht : P.underlying t = some (.slice e))
    (hinfo : (P.info? e).map (fun i => (i.zero, i.size, i.bytes)) = some (some z, size, bytes)) (hzs : z.cells.size = size) (hsz : 0 < size)
    (v : Value) (n : Nat) (cs news : List Value) (hs : a.eval s = v) (hown : Ow w S e size v n cs)
    (g c : Nat) (hx : a.eval x = .slice (some ⟨g, 0, none⟩) 1 c) (hg : g = w.heap.size) (hl : news.length = size) (h1 : ∀ u ∈ news, u.oneCell' = true) (hb : (n + 1) * bytes ≤ 140737488355328) (h63 : n + 1 ≤ 9223372036854775807) (arr : Array Value) (harr : arr = news.toArray)
    (h : ∀ v' w', Ow w' (fun k => S k ∨ w.heap.size ≤ k) e size v' (n + 1) (cs ++ news) → Keeps w w' S → wpList P ops Q rest (a.put o.dst v') w') :
    wpList P ops Q (o :: rest) a (w.alloc (.cells arr e)) := by
  subst hg harr
  obtain ⟨i, hi, hz, hsize, hby⟩ := info_of hinfo
  refine wpList_append_own_at _ hgd s x t ho 0 e i z size bytes ht hi hz hsize hby hzs hsz v n cs hs (hown.1.alloc _) ⟨w.heap.size, 0, none⟩ 1 c news hx (by omega) ?_ h1 (by simp only [maxLen]; omega) hb (Nat.zero_le _) ?_
  · intro j u hj
    rw [show (⟨w.heap.size, 0, none⟩ : Addr).add j = ⟨w.heap.size, j, none⟩ from by unfold Addr.add; split <;> simp_all, World.cell?_alloc_new]
    simpa using hj
  · intro v' w' h2 h3 _ h5
    refine h v' w' (ow_append (w := w.alloc (.cells news.toArray e)) hown.2 h2 h5 (by simp)) ?_
    exact (((Keeps.refl w S).alloc _).grown h3 (fun k hk hlt => hown.2 k hk))
end

theorem info_int : (Try.prog.info? 3).map (fun i => (i.zero, i.size, i.bytes)) = some (some (.int .i64 0), 1, 8) := by kernel_rfl
theorem info_bool : (Try.prog.info? 4).map (fun i => (i.zero, i.size, i.bytes)) = some (some (.bool false), 1, 1) := by kernel_rfl
theorem info_ints : (Try.prog.info? 27).map (fun i => (i.zero, i.size, i.bytes)) = some (some (.slice none 0 0), 1, 24) := by kernel_rfl
theorem info_bools : (Try.prog.info? 33).map (fun i => (i.zero, i.size, i.bytes)) = some (some (.slice none 0 0), 1, 24) := by kernel_rfl
theorem info_u64 : (Try.prog.info? 113).map (fun i => (i.zero, i.size, i.bytes)) = some (some (.int .u64 0), 1, 8) := by kernel_rfl

/-- 'xs[m:]' of a list of numbers that is read: A' is a letter. -/
theorem cut_ints (A : Option Addr) (n c m : Nat) (hm : m ≤ n) : ∃ A' : Option Addr, (∀ W : World, (Instr.slice 27 (.slice A n c) (some (.int .i64 (m : Int))) none none).run Try.prog W = .ok (.slice A' (n - m) (c - m)) W) ∧
    ∀ (w : World) (xs : List Int), xs.length = n → RInts w (.slice A n c) xs → RInts w (.slice A' (n - m) (c - m)) (xs.drop m) := by
  obtain ⟨i, hi, hz, hsz, _⟩ := info_of info_int
  refine ⟨if c = m then A else A.map (·.add m), fun W => ?_, fun w xs hl h => ?_⟩
  · have hel : Try.prog.elem 27 = 3 := by simp [Program.elem, Try.underlying27]
    have hu : Try.prog.underlying 27 = some (.slice (Try.prog.elem 27)) := by rw [hel]; exact Try.underlying27
    rw [run_slice_l W 27 A n c hu .i64 (m : Int) (Int.natCast_nonneg _) (by omega), hel]
    simp [sizeOf, typeInfo, hi, hsz, sliced, Result.andThen]
  · subst hl
    obtain ⟨A1, c1, e, h1, h2, h3⟩ := h
    injection e with e1 _ e2
    subst e1 e2
    refine ⟨_, c - m, by rw [List.length_drop], by rw [List.length_drop]; omega, by rw [List.length_drop]; omega, ?_⟩
    by_cases h0 : xs.length = m
    · left
      rw [List.drop_eq_nil_iff]
      omega
    · right
      rcases h3 with rfl | ⟨b, o, rfl, h4⟩
      · simp at hm h0; omega
      · refine ⟨b, o + m, ?_, fun j hj => ?_⟩
        · rw [if_neg (by omega)]
          simp only [Option.map_some, Addr.add]
          split <;> simp_all
        · rw [List.length_drop] at hj
          obtain ⟨cs, k1, k2, k3⟩ := h4 (m + j) (by omega)
          refine ⟨cs, k1, ?_, fun q u hq => ?_⟩
          · rw [List.getElem_drop]; exact k2
          · have := k3 q u hq
            rwa [show o + (m + j) * 1 + q = o + m + j * 1 + q by omega] at this
/-- min of two numbers. -/
theorem run_min {P : Program} (ats : Array TypeId) (ty : TypeId) (k : IntKind) (x y z : Int) (h : z = if y < x then y else x) (w : World) : (Builtin.min_ ats ty #[.int k x, .int k y]).run P w = .ok (.int k z) w := by
  subst h
  simp [Builtin.min_, Builtin.min2]

/-- 'append(l, x)' of a number. -/
theorem append_int {ops : Array Oper} {rest : List Oper} {o : Oper} {a : Act} {Q : Exit → Act → World → Prop} {w : World} {S : Nat → Prop} (hgd : o.guard = none) (s x : Operand)
    (ho : o.op = .call { callee := .builtin .append, args := #[s, x], argTypes := #[27, 27] }) (v : Value) (xs : List Int) (y : Int) (hs : a.eval s = v) (hown : OI w S v xs)
    (g c : Nat) (hx : a.eval x = .slice (some ⟨g, 0, none⟩) 1 c) (hg : g = w.heap.size) (hb : xs.length ≤ 1000000)
    (h : ∀ A' c' w', xs.length + 1 ≤ c' → OI w' (fun k => S k ∨ w.heap.size ≤ k) (.slice A' (xs.length + 1) c') (xs ++ [y]) → Keeps w w' S → wpList Try.prog ops Q rest (a.put o.dst (.slice A' (xs.length + 1) c')) w') :
    wpList Try.prog ops Q (o :: rest) a (w.alloc (.cells #[.int .i64 y] 3)) :=
  append1 hgd s x 27 3 (.int .i64 0) 1 8 ho Try.underlying27 info_int rfl (by omega) v xs.length (nI xs) [.int .i64 y] hs hown g c hx hg rfl (by simp [Value.oneCell']) (by omega) (by omega) _ rfl
    (fun v' w' h1 h2 => by
      have h3 : OI w' (fun k => S k ∨ w.heap.size ≤ k) v' (xs ++ [y]) := by unfold OI; simpa [nI] using h1
      obtain ⟨A', c', rfl, h4, _⟩ := Ow.form h3
      rw [List.length_append] at h3 h4 ⊢
      exact h A' c' w' h4 h3 h2)
end Go.Proofs.Ytggbeehnmconmaa
