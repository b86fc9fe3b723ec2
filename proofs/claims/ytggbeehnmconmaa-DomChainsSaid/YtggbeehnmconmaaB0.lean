/- What is read and what is owned in memory: the predicates of all walks, and how they are carried from world to world. -/
import Derived.Test.YtggbeehnmconmaaProg
import Derived.Test.YtggbeehnmconmaaD0
import Derived.WalkKit
import Derived.KernelRfl
import Derived.Below
import Derived.BigQuiet
import Derived.Deep.QuietTactic
import Derived.Deep.Draws
import Derived.Deep.LoopGhost
import Derived.RegionTactic
import Derived.BigRegion
import Derived.ChangeAlike
import Derived.Laws.OwnMore
import Derived.OwnWalk
namespace Go.Proofs.Ytggbeehnmconmaa
open Go.RowKit

/-- A fact that the walk does not look into. -/
structure Hd (p : Prop) : Prop where mk :: (out : p)

/-- w' is a later world: of what there was only blocks of S have turned. -/
structure Keeps (w w' : World) (S : Nat → Prop) : Prop where
  os : w'.os = w.os
  tape : w'.tape = w.tape
  output : w'.output = w.output
  size : w.heap.size ≤ w'.heap.size
  block : ∀ k, k < w.heap.size → ¬ S k → w'.heap[k]? = w.heap[k]?

section
variable {w w1 w2 : World} {S T : Nat → Prop}
theorem Keeps.refl (w : World) (S : Nat → Prop) : Keeps w w S := ⟨rfl, rfl, rfl, Nat.le_refl _, fun _ _ _ => rfl⟩
theorem Keeps.trans (h : Keeps w w1 S) (k : Keeps w1 w2 T) (hT : ∀ i, i < w.heap.size → T i → S i) : Keeps w w2 S :=
  ⟨k.os.trans h.os, k.tape.trans h.tape, k.output.trans h.output, Nat.le_trans h.size k.size,
    fun i hi hs => (k.block i (Nat.lt_of_lt_of_le hi h.size) (fun ht => hs (hT i hi ht))).trans (h.block i hi hs)⟩
theorem Keeps.mono (h : Keeps w w1 S) (hS : ∀ i, i < w.heap.size → S i → T i) : Keeps w w1 T :=
  ⟨h.os, h.tape, h.output, h.size, fun i hi hs => h.block i hi (fun hh => hs (hS i hi hh))⟩
theorem Keeps.drew (h : Keeps w w1 S) : Keeps w w1.drew S := ⟨h.os, h.tape, h.output, h.size, h.block⟩
theorem Keeps.drewN (h : Keeps w w1 S) (n : Nat) : Keeps w (w1.drewN n) S := ⟨h.os, h.tape, h.output, h.size, h.block⟩
theorem Keeps.alloc (h : Keeps w w1 S) (o : Obj) : Keeps w (w1.alloc o) S :=
  h.trans (T := fun _ => False) ⟨rfl, rfl, rfl, by simp, fun k hk _ => Below.heap_alloc w1 o k hk⟩ (fun _ _ hf => hf.elim)
theorem Keeps.setCell (h : Keeps w w1 S) {p : Addr} (hp : p.block < w.heap.size → S p.block) (u : Value) : Keeps w (w1.setCell p u) S :=
  h.trans (T := fun k => k = p.block) ⟨rfl, rfl, rfl, by simp [World.setCell], fun k _ hk => Below.heap_setCell w1 p u k hk⟩ (fun i hi e => by subst e; exact hp hi)
theorem Keeps.grown (h : Keeps w w1 S) {row : Option Nat} (hg : w1.grownBy w2 row) (hr : ∀ k, row = some k → k < w.heap.size → S k) : Keeps w w2 S :=
  h.trans (T := fun k => some k = row) ⟨hg.os, hg.tape, hg.output, hg.size, fun k hk hn => hg.block k hk hn⟩ (fun i hi e => hr i e.symm hi)
theorem Keeps.of_below (h : Below w.heap.size w w1) (S : Nat → Prop) : Keeps w w1 S := ⟨h.os, h.tape, h.output, h.size, fun k hk _ => h.block k hk⟩
theorem Keeps.below (h : Keeps w w1 S) {B : Nat} (hS : ∀ k, k < B → k < w.heap.size → ¬ S k) (hB : B ≤ w.heap.size) : Below B w w1 := ⟨h.os, h.tape, h.output, h.size, fun k hk => h.block k (Nat.lt_of_lt_of_le hk hB) (hS k hk (Nat.lt_of_lt_of_le hk hB))⟩
theorem Keeps.below0 (h : Keeps w w1 (fun _ => False)) : Below w.heap.size w w1 := h.below (fun _ _ _ hf => hf) (Nat.le_refl _)
theorem Keeps.cell (h : Keeps w w1 S) {a : Addr} {v : Value} (hc : w.cell? a = some v) (hn : ¬ S a.block) : w1.cell? a = some v :=
  (World.cell?_of_block (h.block a.block (World.block_lt_of_cell? w a hc) hn)).trans hc
theorem Keeps.obj (h : Keeps w w1 S) {g : Nat} {o : Obj} (hc : w.heap[g]? = some o) (hn : ¬ S g) : w1.heap[g]? = some o :=
  (h.block g (Array.getElem?_eq_some_iff.1 hc).1 hn).trans hc
end

theorem Keeps.set1 (w : World) (p : Addr) (u : Value) : Keeps w (w.setCell p u) (fun g => g = p.block) := (Keeps.refl w (fun g => g = p.block)).setCell (fun _ => rfl) u
theorem obj_lt {w : World} {g : Nat} {o : Obj} (h : w.heap[g]? = some o) : g < w.heap.size := (Array.getElem?_eq_some_iff.1 h).1
theorem obj_new {W : World} {o : Obj} {g : Nat} (hg : g = W.heap.size) : (W.alloc o).heap[g]? = some o := by rw [hg]; exact heap_alloc_new W o
theorem obj_set {w : World} {g : Nat} {t : TypeId} {cs : Array Value} (h : w.heap[g]? = some (.cells cs t (0, 0))) (i : Nat) (u : Value) : (w.setCell ⟨g, i, none⟩ u).heap[g]? = some (.cells (cs.setIfInBounds i u) t (0, 0)) := by
  simp [World.setCell, Array.getElem?_modify, h]
theorem obj_cell {w : World} {g : Nat} {t : TypeId} {cs : Array Value} (h : w.heap[g]? = some (.cells cs t (0, 0))) (i : Nat) : w.cell? ⟨g, i, none⟩ = cs[i]? := cell_of_row w g i cs t (0, 0) h
theorem obj_frozen {w : World} {g : Nat} {t : TypeId} {cs : Array Value} (h : w.heap[g]? = some (.cells cs t (0, 0))) (i : Nat) : w.frozen? ⟨g, i, none⟩ = false := by simp [World.frozen?, h]

/-! ### what is read -/
/-- A slice that reads as xs: each element by its sz cells. -/
def RL {α : Type} (R : α → List Value → Prop) (sz : Nat) (w : World) (v : Value) (xs : List α) : Prop :=
  ∃ A c, v = .slice A xs.length c ∧ xs.length ≤ c ∧ xs.length ≤ 9223372036854775807 ∧
    (xs = [] ∨ ∃ b o, A = some ⟨b, o, none⟩ ∧ ∀ i (h : i < xs.length), ∃ cs, cs.length = sz ∧ R xs[i] cs ∧ ∀ j u, cs[j]? = some u → w.cell? ⟨b, o + i * sz + j, none⟩ = some u)

theorem RL.mono {α : Type} {R R' : α → List Value → Prop} {sz : Nat} {w w1 : World} {v : Value} {xs : List α} (h : RL R sz w v xs) (hc : ∀ a u, w.cell? a = some u → w1.cell? a = some u) (hR : ∀ x cs, x ∈ xs → R x cs → R' x cs) : RL R' sz w1 v xs := by
  obtain ⟨A, c, e, h1, h2, h3⟩ := h
  refine ⟨A, c, e, h1, h2, ?_⟩
  rcases h3 with h3 | ⟨b, o, e2, h4⟩
  · exact .inl h3
  · refine .inr ⟨b, o, e2, fun i hi => ?_⟩
    obtain ⟨cs, hl, hr, hcc⟩ := h4 i hi
    exact ⟨cs, hl, hR _ _ (List.getElem_mem hi) hr, fun j u hj => hc _ _ (hcc j u hj)⟩

theorem below_cells {w w1 : World} (h : Below w.heap.size w w1) : ∀ a u, w.cell? a = some u → w1.cell? a = some u :=
  fun a _ hc => (h.cell (World.block_lt_of_cell? w a hc)).trans hc

def eI (x : Int) (cs : List Value) : Prop := cs = [.int .i64 x]
def eB (x : Bool) (cs : List Value) : Prop := cs = [.bool x]
def RInts (w : World) (v : Value) (xs : List Int) : Prop := RL eI 1 w v xs
def RBools (w : World) (v : Value) (xs : List Bool) : Prop := RL eB 1 w v xs
def eSl {α : Type} (R : World → Value → α → Prop) (w : World) (x : α) (cs : List Value) : Prop := ∃ v, cs = [v] ∧ R w v x
def RIntss (w : World) (v : Value) (xs : List (List Int)) : Prop := RL (eSl RInts w) 1 w v xs
def RBoolss (w : World) (v : Value) (xs : List (List Bool)) : Prop := RL (eSl RBools w) 1 w v xs
def ePhi (w : World) (p : Phi) (cs : List Value) : Prop := ∃ va, cs = [.int .i64 p.dst, va] ∧ RInts w va p.args
def RPhis (w : World) (v : Value) (xs : List Phi) : Prop := RL (ePhi w) 2 w v xs
def eInst (w : World) (p : Inst) (cs : List Value) : Prop := ∃ va, cs = [.int .i64 p.op, .int .i64 p.dst, .int .i64 p.n, .string p.name, va] ∧ RInts w va p.args
def RInsts (w : World) (v : Value) (xs : List Inst) : Prop := RL (eInst w) 5 w v xs
def eBlk (w : World) (x : Blk) (cs : List Value) : Prop := ∃ vp vi, cs = [vp, vi, .int .i64 x.fin, .int .i64 x.v, .int .i64 x.a, .int .i64 x.b] ∧ RPhis w vp x.phis ∧ RInsts w vi x.insts
def RBlks (w : World) (v : Value) (xs : List Blk) : Prop := RL (eBlk w) 6 w v xs
/-- A function's value. -/
def fnV (F : Fn) (v : Value) : Value := .agg #[.string F.name, .bool F.weak, .int .i64 F.params, .int .i64 F.values, v]
def RFn (w : World) (v : Value) (F : Fn) : Prop := ∃ vb, v = fnV F vb ∧ RBlks w vb F.blocks

section
variable {w w1 : World} (h : Below w.heap.size w w1) {v : Value}
include h
theorem RInts.below {xs : List Int} (k : RInts w v xs) : RInts w1 v xs := RL.mono k (below_cells h) (fun _ _ _ h => h)
theorem RBools.below {xs : List Bool} (k : RBools w v xs) : RBools w1 v xs := RL.mono k (below_cells h) (fun _ _ _ h => h)
theorem RIntss.below {xs : List (List Int)} (k : RIntss w v xs) : RIntss w1 v xs :=
  RL.mono k (below_cells h) (fun _ _ _ ⟨u, e, r⟩ => ⟨u, e, RInts.below h r⟩)
theorem RBoolss.below {xs : List (List Bool)} (k : RBoolss w v xs) : RBoolss w1 v xs :=
  RL.mono k (below_cells h) (fun _ _ _ ⟨u, e, r⟩ => ⟨u, e, RBools.below h r⟩)
theorem RPhis.below {xs : List Phi} (k : RPhis w v xs) : RPhis w1 v xs :=
  RL.mono k (below_cells h) (fun _ _ _ ⟨u, e, r⟩ => ⟨u, e, RInts.below h r⟩)
theorem RInsts.below {xs : List Inst} (k : RInsts w v xs) : RInsts w1 v xs :=
  RL.mono k (below_cells h) (fun _ _ _ ⟨u, e, r⟩ => ⟨u, e, RInts.below h r⟩)
theorem RBlks.below {xs : List Blk} (k : RBlks w v xs) : RBlks w1 v xs :=
  RL.mono k (below_cells h) (fun _ _ _ ⟨u, u', e, r, r'⟩ => ⟨u, u', e, RPhis.below h r, RInsts.below h r'⟩)
theorem RFn.below {F : Fn} (k : RFn w v F) : RFn w1 v F := by
  obtain ⟨vb, e, r⟩ := k
  exact ⟨vb, e, RBlks.below h r⟩
end

/-- What is read of a slice: its form, and the cells of an element. -/
theorem RL.form {α : Type} {R : α → List Value → Prop} {sz : Nat} {w : World} {v : Value} {xs : List α} (h : RL R sz w v xs) : ∃ A c, v = .slice A xs.length c ∧ xs.length ≤ c ∧ xs.length ≤ 9223372036854775807 := by
  obtain ⟨A, c, e, h1, h2, _⟩ := h
  exact ⟨A, c, e, h1, h2⟩
/-- A slice that is not empty, by its address. -/
theorem RL.addr {α : Type} {R : α → List Value → Prop} {sz : Nat} {w : World} {v : Value} {xs : List α} (h : RL R sz w v xs) (hn : 0 < xs.length) : ∃ b o c, v = .slice (some ⟨b, o, none⟩) xs.length c ∧ xs.length ≤ c ∧ ∀ i (h : i < xs.length), ∃ cs, cs.length = sz ∧ R xs[i] cs ∧ ∀ j u, cs[j]? = some u → w.cell? ⟨b, o + i * sz + j, none⟩ = some u := by
  obtain ⟨A, c, e, h1, h2, h3⟩ := h
  rcases h3 with rfl | ⟨b, o, rfl, h4⟩
  · simp at hn
  · exact ⟨b, o, c, e, h1, h4⟩
theorem RL.ptr {α : Type} {R : α → List Value → Prop} {sz : Nat} {w : World} {A : Option Addr} {n c : Nat} {xs : List α} (h : RL R sz w (.slice A n c) xs) (hn : 0 < xs.length) : ∃ b o, A = some ⟨b, o, none⟩ := by
  obtain ⟨b, o, c', e, _⟩ := h.addr hn
  injection e with e
  exact ⟨b, o, e⟩
theorem RInts.at {w : World} {b o n c : Nat} {xs : List Int} (h : RInts w (.slice (some ⟨b, o, none⟩) n c) xs) (i : Nat) (hi : i < xs.length) : w.cell? ⟨b, o + i, none⟩ = some (.int .i64 xs[i]) := by
  obtain ⟨b', o', c', e, _, h4⟩ := RL.addr h (by omega)
  injection e with e1 e2 e3
  injection e1 with e1
  injection e1 with e1 e4
  subst e1 e4
  obtain ⟨cs, _, rfl, hc⟩ := h4 i hi
  simpa using hc 0 _ rfl
theorem RBools.at {w : World} {b o n c : Nat} {xs : List Bool} (h : RBools w (.slice (some ⟨b, o, none⟩) n c) xs) (i : Nat) (hi : i < xs.length) : w.cell? ⟨b, o + i, none⟩ = some (.bool xs[i]) := by
  obtain ⟨b', o', c', e, _, h4⟩ := RL.addr h (by omega)
  injection e with e1 e2 e3
  injection e1 with e1
  injection e1 with e1 e4
  subst e1 e4
  obtain ⟨cs, _, rfl, hc⟩ := h4 i hi
  simpa using hc 0 _ rfl
theorem RBlks.at {w : World} {b o n c : Nat} {xs : List Blk} (h : RBlks w (.slice (some ⟨b, o, none⟩) n c) xs) (i : Nat) (hi : i < xs.length) : ∃ vp vi,
    w.cell? ⟨b, o + i * 6, none⟩ = some vp ∧ w.cell? ⟨b, o + i * 6 + 1, none⟩ = some vi ∧ w.cell? ⟨b, o + i * 6 + 2, none⟩ = some (.int .i64 xs[i].fin) ∧ w.cell? ⟨b, o + i * 6 + 3, none⟩ = some (.int .i64 xs[i].v) ∧
    w.cell? ⟨b, o + i * 6 + 4, none⟩ = some (.int .i64 xs[i].a) ∧ w.cell? ⟨b, o + i * 6 + 5, none⟩ = some (.int .i64 xs[i].b) ∧ RPhis w vp xs[i].phis ∧ RInsts w vi xs[i].insts := by
  obtain ⟨b', o', c', e, _, h4⟩ := RL.addr h (by omega)
  injection e with e1 e2 e3
  injection e1 with e1
  injection e1 with e1 e4
  subst e1 e4
  obtain ⟨cs, _, ⟨vp, vi, rfl, h5, h6⟩, hc⟩ := h4 i hi
  exact ⟨vp, vi, hc 0 _ rfl, hc 1 _ rfl, hc 2 _ rfl, hc 3 _ rfl, hc 4 _ rfl, hc 5 _ rfl, h5, h6⟩

/-! ### what is owned -/
/-- A slice of a block of S: its elements' cells are cs. -/
def Ow (w : World) (S : Nat → Prop) (e sz : Nat) (v : Value) (n : Nat) (cs : List Value) : Prop :=
  w.ownsRow 0 e sz v n cs ∧ ∀ g, v.ownBlock = some g → S g
section
variable {w w1 : World} {S T : Nat → Prop} {e sz : Nat} {v : Value} {n : Nat} {cs : List Value}
theorem Ow.nil (w : World) (S : Nat → Prop) (e sz : Nat) : Ow w S e sz (.slice none 0 0) 0 [] := ⟨w.ownsRow_nil 0 e sz, fun g h => by simp [Value.ownBlock] at h⟩
theorem Ow.mono (h : Ow w S e sz v n cs) (hS : ∀ g, S g → T g) : Ow w T e sz v n cs := ⟨h.1, fun g hg => hS g (h.2 g hg)⟩
theorem Ow.lt (h : Ow w S e sz v n cs) : ∀ g, v.ownBlock = some g → g < w.heap.size := fun g hg => (h.1.lt g hg).2
theorem Ow.keep (h : Ow w S e sz v n cs) (hk : Keeps w w1 T) (hd : ∀ g, S g → g < w.heap.size → ¬ T g) : Ow w1 S e sz v n cs := by
  refine ⟨⟨h.1.1, ?_⟩, h.2⟩
  rcases h.1.2 with h2 | ⟨g, cap, cur, rfl, hg, hh, r⟩
  · exact .inl h2
  · exact .inr ⟨g, cap, cur, rfl, hg, hk.obj hh (hd g (h.2 g (by simp [Value.ownBlock])) (obj_lt hh)), r⟩
theorem Ow.form (h : Ow w S e sz v n cs) : ∃ A c, v = .slice A n c ∧ n ≤ c ∧ n ≤ 9223372036854775807 := by
  rcases h.1.2 with ⟨rfl, rfl⟩ | ⟨g, cap, cur, rfl, _, _, h1, h2, _⟩
  · exact ⟨none, 0, rfl, Nat.le_refl _, by omega⟩
  · exact ⟨_, _, rfl, h1, by simp only [maxLen] at h2; omega⟩
/-- One that is not empty, by its block. -/
theorem Ow.addr (h : Ow w S e sz v n cs) (hn : 0 < n) : ∃ g c cur, v = .slice (some ⟨g, 0, none⟩) n c ∧ n ≤ c ∧ S g ∧ w.heap[g]? = some (.cells cur e (0, 0)) ∧ cur.size = c * sz ∧ cur.toList.take (n * sz) = cs := by
  rcases h.1.2 with ⟨rfl, rfl⟩ | ⟨g, cap, cur, rfl, _, h0, h1, h2, h3, h4⟩
  · omega
  · exact ⟨g, cap, cur, rfl, h1, h.2 g (by simp [Value.ownBlock]), h0, h3, h4⟩
theorem Ow.ptr {A : Option Addr} {m c : Nat} (h : Ow w S e sz (.slice A m c) n cs) (hn : 0 < n) : ∃ g, A = some ⟨g, 0, none⟩ ∧ S g ∧ g < w.heap.size := by
  obtain ⟨g, c', cur, e, _, h1, h2, _⟩ := h.addr hn
  injection e with e
  exact ⟨g, e, h1, obj_lt h2⟩
theorem Ow.cell {g m c : Nat} (h : Ow w S e sz (.slice (some ⟨g, 0, none⟩) m c) n cs) (i : Nat) (u : Value) (hi : cs[i]? = some u) : w.cell? ⟨g, i, none⟩ = some u := by
  have := h.1.cells (g := g) (by simp [Value.ownBlock]) i u hi
  rwa [show (⟨g, 0, none⟩ : Addr).add i = ⟨g, i, none⟩ from by unfold Addr.add; split <;> simp_all] at this
theorem Ow.frozen {g m c : Nat} (h : Ow w S e sz (.slice (some ⟨g, 0, none⟩) m c) n cs) (i : Nat) : w.frozen? ⟨g, i, none⟩ = false := by
  rcases h.1.2 with ⟨h0, _⟩ | ⟨g', cap, cur, h0, _, h1, _⟩
  · simp at h0
  · injection h0 with h0
    injection h0 with h0
    injection h0 with h0
    subst h0
    exact obj_frozen h1 i
/-- A whole block. -/
theorem Ow.of_obj {g cap : Nat} {cur : Array Value} (h : w.heap[g]? = some (.cells cur e (0, 0))) (hS : S g) (h1 : n ≤ cap) (h2 : cap ≤ 9223372036854775807) (h3 : cur.size = cap * sz) (h4 : cur.toList.take (n * sz) = cs) : Ow w S e sz (.slice (some ⟨g, 0, none⟩) n cap) n cs := by
  refine ⟨⟨?_, .inr ⟨g, cap, cur, rfl, Nat.zero_le _, h, h1, by simp only [maxLen]; omega, h3, h4⟩⟩, fun k hk => ?_⟩
  · have := Nat.mul_le_mul_right sz h1
    rw [← h4, List.length_take, Array.length_toList]
    omega
  · simp [Value.ownBlock] at hk
    exact hk ▸ hS
/-- A store into it. -/
theorem Ow.set {g m c : Nat} (h : Ow w S e sz (.slice (some ⟨g, 0, none⟩) m c) n cs) (i : Nat) (u : Value) : Ow (w.setCell ⟨g, i, none⟩ u) S e sz (.slice (some ⟨g, 0, none⟩) m c) n (cs.set i u) := by
  refine ⟨⟨by rw [List.length_set]; exact h.1.1, ?_⟩, h.2⟩
  rcases h.1.2 with ⟨h0, _⟩ | ⟨g', cap, cur, h0, h9, h1, h2, h3, h4, h5⟩
  · simp at h0
  · injection h0 with h0 hm hc
    injection h0 with h0
    injection h0 with h0
    subst h0 hm hc
    refine .inr ⟨g, c, cur.setIfInBounds i u, rfl, h9, obj_set h1 i u, h2, h3, by simpa using h4, ?_⟩
    rw [← h5]
    simp [List.take_set]
end
def nI (xs : List Int) : List Value := xs.map (Value.int .i64)
def nB (xs : List Bool) : List Value := xs.map Value.bool
def nU (xs : List Int) : List Value := xs.map (Value.int .u64)
/-- A list of numbers of a block of S. -/
def OI (w : World) (S : Nat → Prop) (v : Value) (xs : List Int) : Prop := Ow w S 3 1 v xs.length (nI xs)
def OB (w : World) (S : Nat → Prop) (v : Value) (xs : List Bool) : Prop := Ow w S 4 1 v xs.length (nB xs)
def OU (w : World) (S : Nat → Prop) (v : Value) (xs : List Int) : Prop := Ow w S 113 1 v xs.length (nU xs)
theorem Ow.reads1 {α : Type} {R : α → List Value → Prop} {enc : α → Value} {w : World} {S : Nat → Prop} {e : Nat} {v : Value} {xs : List α} (h : Ow w S e 1 v xs.length (xs.map enc)) (hR : ∀ x, R x [enc x]) : RL R 1 w v xs := by
  obtain ⟨A, c, rfl, h1, h2⟩ := h.form
  refine ⟨A, c, rfl, h1, h2, ?_⟩
  cases xs with
  | nil => exact .inl rfl
  | cons x xs =>
    obtain ⟨g, c', cur, e1, _⟩ := h.addr (by simp)
    injection e1 with e1
    subst e1
    refine .inr ⟨g, 0, rfl, fun i hi => ⟨[enc (x :: xs)[i]], rfl, hR _, fun j u hj => ?_⟩⟩
    cases j with
    | zero =>
      simp only [List.getElem?_cons_zero, Option.some.injEq] at hj
      subst hj
      exact h.cell _ _ (by rw [Nat.zero_add, Nat.mul_one, Nat.add_zero, List.getElem?_map, List.getElem?_eq_getElem hi]; rfl)
    | succ j => simp at hj
theorem OI.reads {w : World} {S : Nat → Prop} {v : Value} {xs : List Int} (h : OI w S v xs) : RInts w v xs := Ow.reads1 h (fun _ => rfl)
theorem OI.keep {w w1 : World} {S T : Nat → Prop} {v : Value} {xs : List Int} (h : OI w S v xs) (hk : Keeps w w1 T) (hd : ∀ g, S g → g < w.heap.size → ¬ T g) : OI w1 S v xs := Ow.keep h hk hd
theorem OB.reads {w : World} {S : Nat → Prop} {v : Value} {xs : List Bool} (h : OB w S v xs) : RBools w v xs := Ow.reads1 h (fun _ => rfl)
end Go.Proofs.Ytggbeehnmconmaa
