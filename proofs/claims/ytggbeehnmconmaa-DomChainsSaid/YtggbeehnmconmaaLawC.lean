/- awake: the document's example holds. -/
import Derived.Test.YtggbeehnmconmaaDiaP
namespace Go.Proofs.Ytggbeehnmconmaa
open Go.RowKit

theorem ints_new {W : World} {g : Nat} {xs : List Int} {arr : Array Value} (hg : g = W.heap.size) (ha : arr = (nI xs).toArray) (hn : xs.length ≤ 1000) : RInts (W.alloc (.cells arr 3)) (.slice (some ⟨g, 0, none⟩) xs.length xs.length) xs := by
  subst ha
  refine OI.reads (S := fun _ => True) (Ow.of_obj (obj_new hg) trivial (Nat.le_refl _) (by omega) (by simp [nI]) ?_)
  rw [List.toList_toArray, Nat.mul_one]
  exact List.take_of_length_le (by simp [nI])

theorem one_cell {w : World} {b o : Nat} {v : Value} (h : w.cell? ⟨b, o, none⟩ = some v) : ∀ j u, [v][j]? = some u → w.cell? ⟨b, o + j, none⟩ = some u := fun j u hj => by
  cases j with
  | zero => simp at hj; subst hj; exact h
  | succ j => simp at hj
theorem rows_dia (w : World) : RIntss (((w.alloc (.cells #[.int .i64 3] 3)).alloc (.cells #[.int .i64 3] 3)).alloc (.cells #[.slice none 0 0, .slice (some ⟨w.heap.size, 0, none⟩) 1 1, .slice (some ⟨w.heap.size + 1, 0, none⟩) 1 1, .slice none 0 0] 27)) (.slice (some ⟨w.heap.size + 1 + 1, 0, none⟩) 4 4) [[], [3], [3], []] := by
  have r1 : RInts (w.alloc (.cells #[.int .i64 3] 3)) (.slice (some ⟨w.heap.size, 0, none⟩) 1 1) [3] := ints_new (xs := [3]) rfl rfl (by decide)
  have r2 : RInts ((w.alloc (.cells #[.int .i64 3] 3)).alloc (.cells #[.int .i64 3] 3)) (.slice (some ⟨w.heap.size + 1, 0, none⟩) 1 1) [3] := ints_new (xs := [3]) (by simp) rfl (by decide)
  have q1 := RInts.below (((Keeps.refl _ (fun _ => False)).alloc (.cells #[.int .i64 3] 3)).alloc (.cells #[.slice none 0 0, .slice (some ⟨w.heap.size, 0, none⟩) 1 1, .slice (some ⟨w.heap.size + 1, 0, none⟩) 1 1, .slice none 0 0] 27)).below0 r1
  have q2 := RInts.below ((Keeps.refl _ (fun _ => False)).alloc (.cells #[.slice none 0 0, .slice (some ⟨w.heap.size, 0, none⟩) 1 1, .slice (some ⟨w.heap.size + 1, 0, none⟩) 1 1, .slice none 0 0] 27)).below0 r2
  refine ⟨_, _, rfl, by decide, by decide, .inr ⟨_, _, rfl, fun i hi => ?_⟩⟩
  have hi4 : i < 4 := hi
  match i, hi4 with
  | 0, _ => exact ⟨[.slice none 0 0], rfl, ⟨_, rfl, RInts.none _ _⟩, one_cell (by go_simp)⟩
  | 1, _ => exact ⟨_, rfl, ⟨_, rfl, q1⟩, one_cell (by go_simp)⟩
  | 2, _ => exact ⟨_, rfl, ⟨_, rfl, q2⟩, one_cell (by go_simp)⟩
  | 3, _ => exact ⟨[.slice none 0 0], rfl, ⟨_, rfl, RInts.none _ _⟩, one_cell (by go_simp)⟩

set_option maxHeartbeats 2000000 in
set_option maxRecDepth 100000 in
theorem awake_calls (w : World) : Calls Try.prog 20 #[] w fun e w' => e = .returned (.bool true) ∧ Below w.heap.size w w' := by
  go_enter Try.func20, Try.ntmps20
  go_wp2_with fail
  refine (diamond_calls w).mono ?_
  rintro e w1 ⟨v, rfl, ⟨vb, rfl, hb⟩, hk⟩
  obtain ⟨A, c, rfl, hc, hl⟩ := RL.form hb
  have HK := Hd.mk (Keeps.of_below hk (fun _ => False))
  have HB := Hd.mk hb
  have HO := Hd.mk (fun w2 (h : Keeps w1 w2 (fun _ => False)) => dOrder diaF (fnV diaF (.slice A diaF.blocks.length c)) w2 ⟨_, rfl, RBlks.below h.below0 HB.out⟩ (by decide))
  have HA := Hd.mk (fun w2 (h : Keeps w1 w2 (fun _ => False)) => dAbove diaF (fnV diaF (.slice A diaF.blocks.length c)) w2 ⟨_, rfl, RBlks.below h.below0 HB.out⟩ (by decide))
  have HE := Hd.mk (fun w2 (h : Keeps w1 w2 (fun _ => False)) => dEdge diaF (fnV diaF (.slice A diaF.blocks.length c)) w2 ⟨_, rfl, RBlks.below h.below0 HB.out⟩ (by decide))
  clear hk hb
  unfold fnV at *
  go_wp2_with fail
  refine (HO.out _ ?_).mono ?_
  · exact (Keeps.refl _ _).alloc _
  rintro e w2 ⟨v2, L, rfl, hL, ho, hk2⟩
  obtain rfl := dia_ord hL
  have r2 : RInts w2 v2 [0, 2, 1, 3] := ho.reads
  obtain ⟨A2, c2, rfl, _, _⟩ := RL.form r2
  have HK2 := Hd.mk (show Keeps w1 w2 (fun _ => False) from ((Keeps.refl _ _).alloc _).trans (Keeps.of_below hk2 _) (fun _ _ hf => hf))
  obtain ⟨q0, q1, q2, q3, q4⟩ := box_cells (F := diaF) (Keeps.of_below hk2 (fun _ => False)) (fun hf => hf)
  have hsb : w1.heap.size < w2.heap.size := by have := hk2.size; simp at this; omega
  have R2 := Hd.mk r2
  clear hL ho hk2 r2
  go_wp2_with fail
  refine (SameInts_calls (xs := [0, 2, 1, 3]) (ys := [0, 2, 1, 3]) (RInts.below ((Keeps.refl w2 (fun _ => False)).alloc _).below0 R2.out) (ints_new rfl rfl (by decide))).mono ?_
  rintro e w3 ⟨rfl, n3, rfl⟩
  have HK3 : Hd (Keeps w1 _ (fun _ => False)) := ⟨(HK2.out.alloc (.cells #[.int .i64 0, .int .i64 2, .int .i64 1, .int .i64 3] 3)).drewN n3⟩
  go_wp2_with fail
  refine (HA.out _ HK3.out).mono ?_
  rintro e w4 ⟨v4, rfl, r4, hk4⟩
  rw [show aboveR (overB diaF.blocks) diaF.blocks.length = [-1, 0, 0, 0] from dia_above] at r4
  obtain ⟨A4, c4, rfl, _, _⟩ := RL.form r4
  have hk4' := Keeps.of_below hk4 (fun _ => False)
  have HK4 := Hd.mk (HK3.out.trans hk4' (fun _ _ hf => hf))
  have R4 := Hd.mk r4
  have hs4 := HK4.out.size
  have hk24 : Keeps w2 w4 (fun _ => False) := (((Keeps.refl w2 _).alloc _).drewN n3).trans hk4' (fun _ _ hf => hf)
  have hsb4 : w1.heap.size < w4.heap.size := by have := hk24.size; omega
  have p0 := hk24.cell q0 (fun hf => hf)
  have p1 := hk24.cell q1 (fun hf => hf)
  have p2 := hk24.cell q2 (fun hf => hf)
  have p3 := hk24.cell q3 (fun hf => hf)
  have p4 := hk24.cell q4 (fun hf => hf)
  clear r4 hk4 hk4' q0 q1 q2 q3 q4 HK3 hk24
  go_wp2_with fail
  refine (SameInts_calls (xs := [-1, 0, 0, 0]) (ys := [-1, 0, 0, 0]) (RInts.below ((Keeps.refl w4 (fun _ => False)).alloc _).below0 R4.out) (ints_new rfl rfl (by decide))).mono ?_
  rintro e w5 ⟨rfl, n5, rfl⟩
  have HK5 : Hd (Keeps w1 _ (fun _ => False)) := ⟨(HK4.out.alloc (.cells #[.int .i64 (-1), .int .i64 0, .int .i64 0, .int .i64 0] 3)).drewN n5⟩
  go_wp2_with fail
  refine (HE.out _ HK5.out).mono ?_
  rintro e w6 ⟨v6, rfl, r6, hk6⟩
  rw [show edgeR (overB diaF.blocks) diaF.blocks diaF.blocks.length = [[], [3], [3], []] from dia_edge] at r6
  obtain ⟨A6, c6, rfl, _, _⟩ := RL.form r6
  have HK6 := Hd.mk (HK5.out.trans (Keeps.of_below hk6 (fun _ => False)) (fun _ _ hf => hf))
  have R6 := Hd.mk r6
  clear r6 hk6 p0 p1 p2 p3 p4 HK5
  go_wp2_with fail
  refine (lists_calls (RIntss.below ((((Keeps.refl w6 (fun _ => False)).alloc _).alloc _).alloc _).below0 R6.out) (rows_dia w6)).mono ?_
  rintro e w7 ⟨rfl, hk7⟩
  have HK7 := Hd.mk (((((HK6.out.alloc _).alloc _).alloc _)).trans (Keeps.of_below hk7 (fun _ => False)) (fun _ _ hf => hf))
  clear hk7 HK6 HK2 HK4
  go_wp2
  go_ret
  exact ⟨rfl, (Keeps.of_below HK.out.below0 (fun _ => False)).trans HK7.out (fun _ _ hf => hf) |>.below0⟩
end Go.Proofs.Ytggbeehnmconmaa
