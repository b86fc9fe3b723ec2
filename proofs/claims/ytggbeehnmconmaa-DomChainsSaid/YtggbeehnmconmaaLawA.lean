/- Whole contracts of the orders, what stands above, the edges: whatever the number of blocks. -/
import Derived.Test.YtggbeehnmconmaaDom9
import Derived.Test.YtggbeehnmconmaaRef9
import Derived.Test.YtggbeehnmconmaaLaw1
namespace Go.Proofs.Ytggbeehnmconmaa
open Go.RowKit

/-- What both orders come to. -/
def OrdF (bs : List Blk) (L : List Nat) : Prop := (bs.length = 0 ∧ L = []) ∨ (0 < bs.length ∧ ∃ m out, DReach (tg bs) m out [] ∧ L = out.reverse)
theorem OrdF.one {bs : List Blk} {L L' : List Nat} (h : OrdF bs L) (k : OrdF bs L') : L = L' := by
  rcases h with ⟨h1, rfl⟩ | ⟨h1, m, out, h2, rfl⟩ <;> rcases k with ⟨k1, rfl⟩ | ⟨k1, m', out', k2, rfl⟩
  · rfl
  · omega
  · omega
  · rw [h2.one k2]

set_option maxHeartbeats 1000000 in
set_option maxRecDepth 100000 in
theorem rOrder0_calls (F : Fn) (v : Value) (w : World) (h : RFn w v F) (h0 : F.blocks.length = 0) :
    Calls Try.prog 23 #[v] w fun e w' => e = .returned (.slice none 0 0) ∧ Keeps w w' (fun _ => False) := by
  obtain ⟨vb, rfl, hb⟩ := h
  unfold fnV
  obtain ⟨A, c, rfl, hc, hl⟩ := RL.form hb
  have hne : ((F.blocks.length : Int) == 0) = true := by simp [h0]
  have H0 := Hd.mk h0
  clear h0 hb
  go_enter Try.func23, Try.ntmps23
  go_wp2
  go_ret
  exact ⟨rfl, (Keeps.refl w _).alloc _⟩

theorem dOrder (F : Fn) (v : Value) (w : World) (h : RFn w v F) (hn : F.blocks.length ≤ 1000000) :
    Calls Try.prog 22 #[v] w fun e w' => ∃ v' L, e = .returned v' ∧ OrdF F.blocks L ∧ OI w' (fun g => w.heap.size ≤ g) v' (ints L) ∧ Below w.heap.size w w' := by
  by_cases h0 : F.blocks.length = 0
  · exact (Order0_calls F v w h h0).mono fun e w' ⟨h1, h2⟩ => ⟨_, [], h1, .inl ⟨h0, rfl⟩, Ow.nil _ _ _ _, h2.below0⟩
  · exact (Order_calls F v w h hn (by omega)).mono fun e w' ⟨v', m, out, h1, h2, h3, h4⟩ => ⟨v', _, h1, .inr ⟨by omega, m, out, h2, rfl⟩, h3, h4⟩
theorem rOrder (F : Fn) (v : Value) (w : World) (h : RFn w v F) (hn : F.blocks.length ≤ 1000000) :
    Calls Try.prog 23 #[v] w fun e w' => ∃ v' L, e = .returned v' ∧ OrdF F.blocks L ∧ OI w' (fun g => w.heap.size ≤ g) v' (ints L) ∧ Below w.heap.size w w' := by
  by_cases h0 : F.blocks.length = 0
  · exact (rOrder0_calls F v w h h0).mono fun e w' ⟨h1, h2⟩ => ⟨_, [], h1, .inl ⟨h0, rfl⟩, Ow.nil _ _ _ _, h2.below0⟩
  · exact (rOrder_calls F v w h hn (by omega)).mono fun e w' ⟨v', m, out, h1, h2, h3, h4⟩ => ⟨v', _, h1, .inr ⟨by omega, m, out, h2, rfl⟩, h3, h4⟩
theorem RInts.none (w : World) (A : Option Addr) : RInts w (.slice A 0 0) [] := ⟨A, 0, rfl, Nat.le_refl _, by simp, .inl rfl⟩
theorem RIntss.none (w : World) (A : Option Addr) : RIntss w (.slice A 0 0) [] := ⟨A, 0, rfl, Nat.le_refl _, by simp, .inl rfl⟩
theorem dAbove (F : Fn) (v : Value) (w : World) (h : RFn w v F) (hn : F.blocks.length ≤ 1000000) :
    Calls Try.prog 24 #[v] w fun e w' => ∃ v', e = .returned v' ∧ RInts w' v' (aboveR (overB F.blocks) F.blocks.length) ∧ Below w.heap.size w w' := by
  by_cases h0 : F.blocks.length = 0
  · exact (Above0_calls F v w h h0).mono fun e w' ⟨A1, h1, h2⟩ => ⟨_, h1, by rw [h0]; exact RInts.none _ _, h2.below0⟩
  · exact (Above_calls F v w h hn (by omega)).mono fun e w' ⟨v', L, par, h1, h2, h3, h4⟩ => ⟨v', h1, by rw [← above_eq h2]; exact h3.reads, h4⟩
theorem edgeRows_eq (over : Nat → Nat → Bool) (bs : List Blk) : edgeRows over bs bs.length = edgeR over bs bs.length := rfl
theorem dEdge (F : Fn) (v : Value) (w : World) (h : RFn w v F) (hn : F.blocks.length ≤ 1000000) :
    Calls Try.prog 27 #[v] w fun e w' => ∃ v', e = .returned v' ∧ RIntss w' v' (edgeR (overB F.blocks) F.blocks F.blocks.length) ∧ Below w.heap.size w w' := by
  by_cases h0 : F.blocks.length = 0
  · exact (Edge0_calls F v w h h0).mono fun e w' ⟨A1, h1, h2⟩ => ⟨_, h1, by rw [h0]; exact RIntss.none _ _, h2.below0⟩
  · exact (Edge_calls F v w h hn (by omega)).mono fun e w' ⟨v', col, L, par, h1, h2, h3, h4⟩ => ⟨v', h1, by rw [← edge_eq h2]; exact h3.reads, h4⟩
end Go.Proofs.Ytggbeehnmconmaa
