/- A world in which the box of a law's argument stands, and what it reads. -/
import Derived.Test.YtggbeehnmconmaaDom2
import Derived.Deep.RegionHeld3
namespace Go.Proofs.Ytggbeehnmconmaa
open Go.RowKit

structure Inb (w : World) (F : Fn) (A : Option Addr) (c : Nat) (W : World) : Prop where
  keeps : Keeps (boxFn w F A c) W (fun _ => False)
  blks : RBlks w (.slice A F.blocks.length c) F.blocks
section
variable {w W W' : World} {F : Fn} {A : Option Addr} {c : Nat}
theorem Inb.start (h : RBlks w (.slice A F.blocks.length c) F.blocks) : Inb w F A c (boxFn w F A c) := ⟨Keeps.refl _ _, h⟩
theorem Inb.base (h : Inb w F A c W) : Keeps w W (fun _ => False) := ((Keeps.refl w _).alloc _).trans h.keeps (fun _ _ hf => hf)
theorem Inb.drew (h : Inb w F A c W) : Inb w F A c W.drew := ⟨h.keeps.drew, h.blks⟩
theorem Inb.drewN (h : Inb w F A c W) (n : Nat) : Inb w F A c (W.drewN n) := ⟨h.keeps.drewN n, h.blks⟩
theorem Inb.alloc (h : Inb w F A c W) (o : Obj) : Inb w F A c (W.alloc o) := ⟨h.keeps.alloc o, h.blks⟩
theorem Inb.below (h : Inb w F A c W) (k : Below W.heap.size W W') : Inb w F A c W' := ⟨h.keeps.trans (Keeps.of_below k (fun _ => False)) (fun _ _ hf => hf), h.blks⟩
theorem Inb.later (h : Inb w F A c W) (k : Keeps W W' (fun _ => False)) : Inb w F A c W' := ⟨h.keeps.trans k (fun _ _ hf => hf), h.blks⟩
theorem Inb.fn (h : Inb w F A c W) : RFn W (fnV F (.slice A F.blocks.length c)) F := ⟨_, rfl, RBlks.below h.base.below0 h.blks⟩
theorem Inb.out (h : Inb w F A c W) : Below w.heap.size w W := h.base.below0
/-- The box's cells. -/
abbrev InS (w : World) (F : Fn) (A : Option Addr) (c : Nat) (W : World) : Prop :=
  Inb w F A c W ∧ W.cell? ⟨w.heap.size, 0, none⟩ = some (.string F.name) ∧ W.cell? ⟨w.heap.size, 1, none⟩ = some (.bool F.weak) ∧ W.cell? ⟨w.heap.size, 2, none⟩ = some (.int .i64 F.params) ∧
    W.cell? ⟨w.heap.size, 3, none⟩ = some (.int .i64 F.values) ∧ W.cell? ⟨w.heap.size, 4, none⟩ = some (.slice A F.blocks.length c)
theorem Inb.S (h : Inb w F A c W) : InS w F A c W := ⟨h, box_cells h.keeps (fun hf => hf)⟩
theorem RInts.later {v : Value} {xs : List Int} (h : RInts W v xs) (k : Keeps W W' (fun _ => False)) : RInts W' v xs := RInts.below k.below0 h
theorem RIntss.later {v : Value} {xs : List (List Int)} (h : RIntss W v xs) (k : Keeps W W' (fun _ => False)) : RIntss W' v xs := RIntss.below k.below0 h
theorem Keeps.belowF (k : Below W.heap.size W W') : Keeps W W' (fun _ => False) := Keeps.of_below k _
theorem InS.fn (h : InS w F A c W) : RFn W (fnV F (.slice A F.blocks.length c)) F := h.1.fn
theorem InS.out (h : InS w F A c W) : Below w.heap.size w W := h.1.out
theorem InS.below (h : InS w F A c W) (k : Below W.heap.size W W') : InS w F A c W' := (h.1.below k).S
theorem InS.drewN (h : InS w F A c W) (n : Nat) : InS w F A c (W.drewN n) := (h.1.drewN n).S
end
end Go.Proofs.Ytggbeehnmconmaa
