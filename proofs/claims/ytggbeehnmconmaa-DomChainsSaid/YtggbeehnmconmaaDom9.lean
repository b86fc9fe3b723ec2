/- The program's dom: functions of no block. -/
import Derived.Test.YtggbeehnmconmaaDom8
namespace Go.Proofs.Ytggbeehnmconmaa
open Go.RowKit T

set_option maxHeartbeats 1000000 in
set_option maxRecDepth 100000 in
theorem Order0_calls (F : Fn) (v : Value) (w : World) (h : RFn w v F) (h0 : F.blocks.length = 0) :
    Calls Try.prog 22 #[v] w fun e w' => e = .returned (.slice none 0 0) ∧ Keeps w w' (fun _ => False) := by
  obtain ⟨vb, rfl, hb⟩ := h
  unfold fnV
  obtain ⟨A, c, rfl, hc, hl⟩ := RL.form hb
  have hne : ((F.blocks.length : Int) == 0) = true := by simp [h0]
  have H0 := Hd.mk h0
  clear h0 hb
  go_enter Try.func22, Try.ntmps22
  go_wp2
  go_ret
  exact ⟨rfl, (Keeps.refl w _).alloc _⟩

set_option maxHeartbeats 1000000 in
set_option maxRecDepth 100000 in
theorem tree0_calls (F : Fn) (v : Value) (w : World) (h : RFn w v F) (h0 : F.blocks.length = 0) :
    Calls Try.prog 62 #[v] w fun e w' => ∃ A1 A2, e = .returned (.tuple #[.slice A1 0 0, .slice A2 0 0]) ∧ Keeps w w' (fun _ => False) := by
  obtain ⟨vb, rfl, hb⟩ := h
  unfold fnV
  obtain ⟨A, c, rfl, hc, hl⟩ := RL.form hb
  have HR : Hd (RBlks w (.slice A F.blocks.length c) F.blocks) := ⟨hb⟩
  have HO := Hd.mk (Order0_calls F _ (boxFn w F A c) ⟨_, rfl, RBlks.below ((Keeps.refl w fun _ => False).alloc _).below0 hb⟩ h0)
  have H0 := Hd.mk h0
  clear hb
  have hmk := run_make_row' (P := Try.prog) 27 3 (.int .i64 0) 8 Try.underlying27 info_int rfl .i64 .i64 F.blocks.length (by omega) (by omega)
  have hdn : ¬ (0 < F.blocks.length) := by omega
  have hdn2 : ¬ ((0 : Int) < (F.blocks.length : Int)) := by omega
  have hn : F.blocks.length ≤ 1000000 := by omega
  clear h0
  go_enter Try.func62, Try.ntmps62
  go_wp2_with fail
  refine HO.out.mono ?_
  rintro e w1 ⟨rfl, hk⟩
  have HK := Hd.mk hk
  obtain ⟨q0, q1, q2, q3, q4⟩ := box_cells hk (fun hf => hf)
  have hsb : w.heap.size < w1.heap.size := by have := hk.size; simp at this; omega
  clear hk
  go_wp2
  go_loopg [30] 0 (fun gg v30 wr => v30 = .int .i64 0 ∧ Boxes w1 wr F.blocks.length (fillM F.blocks.length 0) (fillM F.blocks.length 0))
  case atStart => exact ⟨rfl, boxes_start w1 _ hn⟩
  case round =>
    clear hmk
    obtain ⟨rfl, hB⟩ := hrel
    have b1 := hB.c1
    have b3 := hB.c3
    have HB := Hd.mk hB
    clear hB
    go_wp2
    go_loopg [42] 0 (fun gg v42 wr => v42 = .int .i64 0 ∧ Boxes w1 wr F.blocks.length (fillM F.blocks.length 0) (fillM F.blocks.length 0))
    case atStart => exact ⟨rfl, HB.out⟩
    case round =>
      clear HB b1 b3
      obtain ⟨rfl, hB⟩ := hrel
      have HB := Hd.mk hB
      have b1 := hB.c1
      have b3 := hB.c3
      clear hB
      have hkb : Keeps (boxFn w F A c) wr (fun _ => False) := HK.out.trans HB.out.keeps (fun _ _ hf => hf)
      obtain ⟨wr2, rfl⟩ : ∃ wr2, wr2 = wr := ⟨_, rfl⟩
      clear q0 q1 q2 q3 q4
      obtain ⟨q0, q1, q2, q3, q4⟩ := box_cells hkb (fun hf => hf)
      have HAll := Hd.mk (All_calls F _ wr2 ⟨_, rfl, RBlks.below (((Keeps.refl w fun _ => False).alloc _).trans hkb (fun _ _ hf => hf)).below0 HR.out⟩ hn)
      clear hkb
      go_wp2_with fail
      refine HAll.out.mono ?_
      rintro e w2 ⟨v10, col, rfl, hS, hk2⟩
      have hk2' : Keeps wr2 w2 (fun _ => False) := Keeps.of_below hk2 _
      have HB4 := Hd.mk (HB.out.later hk2')
      obtain ⟨A10, c10, rfl, _, _⟩ := OLL.form hS
      have hmin := fun ats ty W => run_min (P := Try.prog) ats ty .i64 1 (0 : Int) 0 (by rw [if_pos (by omega)]) W
      clear hS hk2 hk2' HB HAll q0 q1 q2 q3 q4
      go_wp2
      go_loopg [12] 1 (fun gg v12 wr => ∃ t, v12 = .bool t ∧ (bif t then 1 else 0) ≤ gg ∧ Keeps w2 wr (fun _ => False))
      case atStart => exact ⟨true, rfl, Nat.le_refl _, Keeps.refl _ _⟩
      case round =>
        obtain ⟨t, rfl, ht, hK⟩ := hrel
        have hB5 := HB4.out.later hK
        have b1 := hB5.c1
        have b3 := hB5.c3
        have HB5 := Hd.mk hB5
        have HK5 := Hd.mk hK
        have HKb : Hd (Keeps w wr (fun _ => False)) := ⟨((((Keeps.refl w fun _ => False).alloc _).trans HK.out (fun _ _ hf => hf)).trans hB5.keeps (fun _ _ hf => hf))⟩
        clear hB5 hK
        cases t with
        | false =>
          have HT := Hd.mk ht
          clear ht hmin
          go_wp2
          go_quiet (fail)
          go_wp2
          go_ret2
          rw [H0.out]
          exact ⟨_, _, rfl, HKb.out.drewN _⟩
        | true =>
          have hg : 1 ≤ gk := ht
          clear ht
          go_wp2
          go_loopg [12, 62] 0 (fun gg v12 v62 wq => v12 = .bool false ∧ v62 = .int .i64 0 ∧ Keeps w2 wq (fun _ => False))
          case atStart => exact ⟨rfl, rfl, HK5.out⟩
          case round =>
            obtain ⟨rfl, rfl, hK⟩ := hrel
            have HK6 := Hd.mk hK
            clear hK
            go_wp2
            go_roundg 0
            case measure => omega
            case rel => exact ⟨false, rfl, Nat.le_refl _, HK6.out⟩

set_option maxHeartbeats 1000000 in
set_option maxRecDepth 100000 in
theorem Above0_calls (F : Fn) (v : Value) (w : World) (h : RFn w v F) (h0 : F.blocks.length = 0) :
    Calls Try.prog 24 #[v] w fun e w' => ∃ A1, e = .returned (.slice A1 0 0) ∧ Keeps w w' (fun _ => False) := by
  obtain ⟨vb, rfl, hb⟩ := h
  unfold fnV
  obtain ⟨A, c, rfl, hc, hl⟩ := RL.form hb
  have HT := Hd.mk (tree0_calls F _ (boxFn w F A c) ⟨_, rfl, RBlks.below ((Keeps.refl w fun _ => False).alloc _).below0 hb⟩ h0)
  clear hb h0
  go_enter Try.func24, Try.ntmps24
  go_wp2_with fail
  refine HT.out.mono ?_
  rintro e w1 ⟨A1, A2, rfl, hk⟩
  have HK := Hd.mk hk
  clear hk HT
  go_wp2
  go_ret
  exact ⟨_, rfl, ((Keeps.refl w fun _ => False).alloc _).trans HK.out (fun _ _ hf => hf)⟩

set_option maxHeartbeats 1000000 in
set_option maxRecDepth 100000 in
theorem Edge0_calls (F : Fn) (v : Value) (w : World) (h : RFn w v F) (h0 : F.blocks.length = 0) :
    Calls Try.prog 27 #[v] w fun e w' => ∃ A1, e = .returned (.slice A1 0 0) ∧ Keeps w w' (fun _ => False) := by
  obtain ⟨vb, rfl, hb⟩ := h
  unfold fnV
  obtain ⟨A, c, rfl, hc, hl⟩ := RL.form hb
  have HR : Hd (RBlks w (.slice A F.blocks.length c) F.blocks) := ⟨hb⟩
  have HT := Hd.mk (tree0_calls F _ (boxFn w F A c) ⟨_, rfl, RBlks.below ((Keeps.refl w fun _ => False).alloc _).below0 hb⟩ h0)
  clear hb
  have hmk := run_make_row' (P := Try.prog) 31 27 (.slice none 0 0) 24 Try.underlying31 info_ints rfl .i64 .i64 F.blocks.length (by omega) (by omega)
  have hdn : ¬ (0 < F.blocks.length) := by omega
  have hdn2 : ¬ ((0 : Int) < (F.blocks.length : Int)) := by omega
  have hn : F.blocks.length ≤ 1000000 := by omega
  have H0 := Hd.mk h0
  clear h0
  go_enter Try.func27, Try.ntmps27
  go_wp2_with fail
  refine HT.out.mono ?_
  rintro e w1 ⟨A1, A2, rfl, hk⟩
  have HK := Hd.mk hk
  obtain ⟨q0, q1, q2, q3, q4⟩ := box_cells hk (fun hf => hf)
  have hsb : w.heap.size < w1.heap.size := by have := hk.size; simp at this; omega
  have HAll := Hd.mk (All_calls F _ (w1.alloc (.cells (madeCells #[.slice none 0 0] F.blocks.length) 27)) ⟨_, rfl, RBlks.below (((((Keeps.refl w fun _ => False).alloc _).trans hk (fun _ _ hf => hf)).alloc _).below0) HR.out⟩ hn)
  clear hk HT
  go_wp2_with fail
  refine HAll.out.mono ?_
  rintro e w3 ⟨v6, col0, rfl, h6, hk3⟩
  have hk3' : Keeps w1 w3 (fun _ => False) := ((Keeps.refl w1 (fun _ => False)).alloc _).trans (Keeps.of_below hk3 _) (fun _ _ hf => hf)
  obtain ⟨A6, c6, rfl, _, _⟩ := OLL.form h6
  have HK3 := Hd.mk (HK.out.trans hk3' (fun _ _ hf => hf))
  clear h6 hk3 hk3' HAll hmk q0 q1 q2 q3 q4
  obtain ⟨q0, q1, q2, q3, q4⟩ := box_cells HK3.out (fun hf => hf)
  go_wp2
  go_loopg [26] 0 (fun gg v26 wr => v26 = .int .i64 0 ∧ wr = w3)
  case atStart => exact ⟨rfl, rfl⟩
  case round =>
    obtain ⟨rfl, rfl⟩ := hrel
    go_wp2
    go_ret
    rw [H0.out]
    exact ⟨_, rfl, ((Keeps.refl w fun _ => False).alloc _).trans HK3.out (fun _ _ hf => hf)⟩
end Go.Proofs.Ytggbeehnmconmaa
