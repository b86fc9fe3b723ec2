/- Go's library on lists of numbers, in the words of B0: Reverse, Contains, Index, Clone, DeleteFunc, ContainsFunc. -/
import Derived.Test.YtggbeehnmconmaaB0
import Derived.Test.YtggbeehnmconmaaShelf
namespace Go.Proofs.Ytggbeehnmconmaa
open Go.RowKit Go.Lib Go.Sort

theorem putRow_keeps {α : Type} [Inhabited α] (enc : α → Value) (w : World) (n g o : Nat) (d : Array α) (S : Nat → Prop) (hg : S g) : Keeps w (putRow enc (Sort.ahead w n) g o d) S :=
  ⟨rfl, rfl, rfl, by simp [putRow, mapBlock, Sort.ahead], fun k _ hk => by
    have : g ≠ k := fun e => hk (e ▸ hg)
    simp [putRow, mapBlock, Sort.ahead, Array.getElem?_modify, this]⟩
theorem Ow.putRow {α : Type} [Inhabited α] (enc : α → Value) {w : World} {S : Nat → Prop} {e g c n m : Nat} {cs : List Value} (h : Ow w S e 1 (.slice (some ⟨g, 0, none⟩) n c) n cs) (q : Nat) (d : Array α) (hd : d.size = n) (hm : m ≤ n) :
    Ow (putRow enc (Sort.ahead w q) g 0 d) S e 1 (.slice (some ⟨g, 0, none⟩) m c) m ((d.toList.take m).map enc) := by
  refine ⟨⟨by simp; omega, ?_⟩, h.2⟩
  rcases h.1.2 with ⟨h0, _⟩ | ⟨g', cap, cur, h0, h9, h1, h2, h3, h4, h5⟩
  · simp at h0
  · injection h0 with h0 _ hc
    injection h0 with h0
    injection h0 with h0
    subst h0 hc
    refine .inr ⟨g, c, putCells enc 0 d cur, rfl, h9, ?_, by omega, h3, by simpa [putCells] using h4, ?_⟩
    · simp [Sort.putRow, mapBlock, Sort.ahead, Array.getElem?_modify, h1, onCells]
    · apply List.ext_getElem?
      intro i
      by_cases hi : i < m
      · have hi2 : i < cur.size := by omega
        simp [putCells, hi, show i < d.size by omega]
        exact ⟨_, Array.getElem?_eq_getElem hi2⟩
      · simp [List.getElem?_take, hi]
theorem Ow.holds {α : Type} [Inhabited α] (enc : α → Value) {w : World} {S : Nat → Prop} {e g c n m : Nat} (xs : List α) (h : Ow w S e 1 (.slice (some ⟨g, 0, none⟩) n c) m (xs.map enc)) : Holds enc w g 0 xs.toArray := by
  intro j hj
  have hj' : j < xs.length := by simpa using hj
  rw [Nat.zero_add]
  exact ⟨h.cell _ _ (by rw [List.getElem?_map, List.getElem?_eq_getElem hj', getElem!_pos _ j hj]; simp), h.frozen _⟩

theorem Reverse_calls {w : World} {S : Nat → Prop} {v : Value} {xs : List Int} (h : OI w S v xs) :
    Calls Try.prog 60 #[v] w fun e w' => e = .returned (.tuple #[]) ∧ OI w' S v xs.reverse ∧ Keeps w w' S := by
  by_cases hn : xs.length = 0
  · obtain rfl : xs = [] := List.length_eq_zero_iff.1 hn
    obtain ⟨A, c, rfl, _, _⟩ := Ow.form h
    exact (Try.slices_Reverse_int_empty A c w).mono fun e w' ⟨h1, h2⟩ => ⟨h1, by subst h2; exact h, by subst h2; exact Keeps.refl _ _⟩
  · obtain ⟨g, c, cur, rfl, _, hS, _⟩ := Ow.addr h (by omega)
    obtain ⟨_, _, _, _, hl⟩ := Ow.form h
    refine (Try.slices_Reverse_int g 0 c xs w (Ow.holds _ _ h) hl).mono fun e w' ⟨h1, q, h2⟩ => ⟨h1, ?_, ?_⟩
    · subst h2
      have := Ow.putRow (Value.int .i64) h q xs.reverse.toArray (by simp) (m := xs.length) (Nat.le_refl _)
      unfold OI
      rw [List.length_reverse]
      simpa [nI, List.take_of_length_le] using this
    · subst h2
      exact putRow_keeps _ _ _ _ _ _ _ hS

theorem ints_cells {w : World} {b o n c : Nat} {xs : List Int} (h : RInts w (.slice (some ⟨b, o, none⟩) n c) xs) : ∀ j, j < xs.length → w.cell? ⟨b, o + j, none⟩ = some (.int .i64 (xs.getD j 0)) := fun j hj => by
  rw [List.getD_eq_getElem?_getD, List.getElem?_eq_getElem hj]
  exact h.at j hj

theorem Contains_calls {w : World} {v : Value} {xs : List Int} (x : Int) (h : RInts w v xs) :
    Calls Try.prog 81 #[v, .int .i64 x] w fun e w' => e = .returned (.bool (xs.contains x)) ∧ w' = w := by
  by_cases hn : xs.length = 0
  · obtain rfl : xs = [] := List.length_eq_zero_iff.1 hn
    obtain ⟨A, c, rfl, _, _⟩ := RL.form h
    exact Try.slices_Contains_int_empty A c x w
  · obtain ⟨b, o, c, rfl, _⟩ := RL.addr h (by omega)
    obtain ⟨_, _, _, _, hl⟩ := RL.form h
    have := Try.slices_Contains_int b o xs.length c xs x w (Nat.le_refl _) hl (ints_cells h)
    rwa [List.take_length] at this

theorem Clone_calls {w : World} {v : Value} {xs : List Int} (h : RInts w v xs) (hb : xs.length ≤ 1000000) :
    Calls Try.prog 114 #[v] w fun e w' => ∃ v', e = .returned v' ∧ OI w' (fun g => w.heap.size ≤ g) v' xs ∧ Below w.heap.size w w' := by
  have key : ∀ {w' : World} {v' : Value}, w'.ownsRow w.heap.size 3 1 v' xs.length (nI xs) → OI w' (fun g => w.heap.size ≤ g) v' xs := fun {w' v'} ho => by
    refine ⟨⟨ho.1, ?_⟩, fun g hg => (ho.lt g hg).1⟩
    rcases ho.2 with h1 | ⟨g, cap, cur, e1, _, r⟩
    · exact .inl h1
    · exact .inr ⟨g, cap, cur, e1, Nat.zero_le _, r⟩
  by_cases hn : xs.length = 0
  · obtain rfl : xs = [] := List.length_eq_zero_iff.1 hn
    obtain ⟨A, c, rfl, _, _⟩ := RL.form h
    cases A with
    | none => exact (Try.slices_Clone_int_nil 0 c w).mono fun e w' ⟨h1, h2⟩ => ⟨_, h1, Ow.nil _ _ _ _, by subst h2; exact Below.refl _ _⟩
    | some a => exact (Try.slices_Clone_int_zero a c w).mono fun e w' ⟨v', h1, h2, _, h3⟩ => ⟨v', h1, key h2, h3⟩
  · obtain ⟨b, o, c, rfl, _⟩ := RL.addr h (by omega)
    refine (Try.slices_Clone_int b o xs.length c xs w (Nat.le_refl _) (by omega) (ints_cells h)).mono fun e w' ⟨v', h1, h2, _, h3⟩ => ⟨v', h1, ?_, h3⟩
    rw [List.take_length] at h2
    exact key h2

/-- DeleteFunc at a predicate that reads no more than what is not in S. -/
theorem DeleteFunc_int_calls {w : World} {S : Nat → Prop} {v : Value} {xs : List Int} (h : OI w S v xs) (p : Int → Bool) (g : Nat) (lb : Array Value) (eg : ∀ args w, (callFunc g args).run Try.prog w = .ok (.enter g args) w)
    (hp : ∀ W x, Keeps w W S → Calls Try.prog g (#[.int .i64 x] ++ lb) W fun e w' => e = .returned (.bool (p x)) ∧ ∃ q, w' = W.drewN q) :
    Calls Try.prog 79 #[v, .func (.func g) #[] lb] w fun e w' => ∃ v', e = .returned v' ∧ OI w' S v' (xs.filter fun x => !p x) ∧ Keeps w w' S := by
  by_cases hn : xs.length = 0
  · obtain rfl : xs = [] := List.length_eq_zero_iff.1 hn
    obtain ⟨A, c, rfl, _, _⟩ := Ow.form h
    have hI := Try.slices_IndexFunc_empty (α := Int) A c (.func (.func g) #[] lb) w
    have H : Hd (OI w S (.slice A 0 c) []) := ⟨h⟩
    clear h hp
    go_enter Try.func79, Try.ntmps79
    go_wp2_with (go_at_call 127; refine hI.mono ?_; rintro e w' ⟨rfl, rfl⟩)
    go_ret
    exact ⟨_, rfl, H.out, Keeps.refl _ _⟩
  · obtain ⟨b, c, cur, rfl, hc, hS, _⟩ := Ow.addr h (by omega)
    obtain ⟨_, _, _, _, hl⟩ := Ow.form h
    have hH := Ow.holds (Value.int .i64) xs h
    have hk : ∀ (n : Nat) (os : Array Obj) (dk : Array Int), Keeps w (sortWorld (Value.int .i64) w b 0 n dk os) S := fun n os dk =>
      (putRow_keeps (Value.int .i64) w n b 0 dk S hS).trans (T := fun _ => False) ⟨rfl, rfl, rfl, by simp [sortWorld, grow], fun k hk _ => by
        simp only [sortWorld, grow]
        rw [Array.getElem?_append_left hk]⟩ (fun _ _ hf => hf.elim)
    have := Try.slices_DeleteFunc (Value.int .i64) (fun _ => rfl) p g lb eg 0 Try.zeroValue3 b 0 c xs.toArray w
      (fun W x hB => hp W x (Keeps.of_below hB S)) (fun n os dk x _ => hp _ x (hk n os dk)) hH (by simpa using hl) (by simpa using hc)
    simp only [List.size_toArray] at this
    refine this.mono fun e w' ⟨h1, q, h2⟩ => ⟨_, h1, ?_, ?_⟩
    · subst h2
      have hle := List.length_filter_le (fun x => !p x) xs
      have := Ow.putRow (Value.int .i64) h q ((xs.filter fun x => !p x) ++ List.replicate (xs.length - (xs.filter fun x => !p x).length) 0).toArray (by simp; omega) (m := (xs.filter fun x => !p x).length) hle
      simpa [OI, nI] using this
    · subst h2
      exact putRow_keeps _ _ _ _ _ _ _ hS
end Go.Proofs.Ytggbeehnmconmaa
