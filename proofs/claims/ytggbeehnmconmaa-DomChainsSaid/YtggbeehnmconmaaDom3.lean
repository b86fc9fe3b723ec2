/- The program's dom: All. -/
import Derived.Test.YtggbeehnmconmaaDom2
import Derived.Test.YtggbeehnmconmaaB3
namespace Go.Proofs.Ytggbeehnmconmaa
open Go.RowKit

set_option maxHeartbeats 1000000 in
set_option maxRecDepth 100000 in
theorem All_calls (F : Fn) (v : Value) (w : World) (h : RFn w v F) (hn : F.blocks.length ≤ 1000000) :
    Calls Try.prog 65 #[v] w fun e w' => ∃ v' col, e = .returned v' ∧ OLL w' (fun g => w.heap.size ≤ g) col v' (allS F.blocks) ∧ Below w.heap.size w w' := by
  obtain ⟨vb, rfl, hb⟩ := h
  unfold fnV
  obtain ⟨A, c, rfl, hc, hl⟩ := RL.form hb
  have HR : Hd (RBlks w (.slice A F.blocks.length c) F.blocks) := ⟨hb⟩
  clear hb
  have hmk := run_make_row' (P := Try.prog) 31 27 (.slice none 0 0) 24 Try.underlying31 info_ints rfl .i64 .i64 F.blocks.length (by omega) (by omega)
  go_enter Try.func65, Try.ntmps65
  go_wp2
  go_loopg [14] F.blocks.length (fun gg v14 wr => ∃ (k : Nat) (col : Nat → Nat), k ≤ F.blocks.length ∧ F.blocks.length - k ≤ gg ∧ v14 = .int .i64 k ∧ Hd (OLL wr (fun g => w.heap.size + 1 ≤ g) col (.slice (some ⟨w.heap.size + 1, 0, none⟩) F.blocks.length F.blocks.length) (allRow F.blocks k [])) ∧ Hd (Keeps (boxFn w F A c) wr fun _ => False))
  case atStart =>
    refine ⟨0, fun _ => 0, Nat.zero_le _, Nat.sub_le _ _, rfl, ⟨?_⟩, ⟨(Keeps.refl _ _).alloc _⟩⟩
    rw [allRow_zero]
    have := OLL.made (boxFn w F A c) (S := fun g => w.heap.size + 1 ≤ g) F.blocks.length (by intro k hk; simpa using hk) hl
    simpa using this
  case round =>
    clear hmk
    obtain ⟨k, col, hk, hgg, rfl, HO, HK⟩ := hrel
    obtain ⟨q0, q1, q2, q3, q4⟩ := box_cells HK.out (fun hf => hf)
    by_cases hlt : k < F.blocks.length
    · have HT := Hd.mk (Targets_calls F _ k wr ⟨_, rfl, RBlks.below (((Keeps.refl w fun _ => False).alloc _).trans HK.out (fun _ _ hf => hf)).below0 HR.out⟩)
      have hsz : w.heap.size + 1 ≤ wr.heap.size := by simpa using HK.out.size
      go_wp2_with fail
      refine HT.out.mono ?_
      rintro e w1 ⟨v1, rfl, ho1, hb1⟩
      have ho2 : OI w1 (fun g => some g = v1.ownBlock) v1 (tgt F.blocks k) := ⟨ho1.1, fun g hg => hg.symm⟩
      have hs1 : w.heap.size + 1 ≤ w1.heap.size := Nat.le_trans hsz hb1.size
      have HO1 : Hd (OLL w1 (fun g => w.heap.size + 1 ≤ g ∧ some g ≠ v1.ownBlock) col (.slice (some ⟨w.heap.size + 1, 0, none⟩) F.blocks.length F.blocks.length) (allRow F.blocks k [])) :=
        ⟨(HO.out.bound.keep (Keeps.of_below hb1 fun _ => False) (fun _ _ _ hf => hf)).mono (fun g hg => ⟨hg.1, fun e => by have := ho1.2 g e.symm; have := hg.2; omega⟩)⟩
      have HK1 := Hd.mk (HK.out.trans (Keeps.of_below hb1 fun _ => False) (fun _ _ hf => hf))
      have HV1 := Hd.mk ho2
      obtain ⟨A1, c1, rfl, _, hl1⟩ := Ow.form ho2
      clear ho1 ho2 hb1 HO HK HT
      clear q0 q1 q2 q3 q4
      go_wp2
      go_loopg [21] (tgt F.blocks k).length (fun gg v21 wq => ∃ (j : Nat) (col : Nat → Nat), j ≤ (tgt F.blocks k).length ∧ (tgt F.blocks k).length - j ≤ gg ∧ v21 = .int .i64 j ∧ Hd (OLL wq (fun g => w.heap.size + 1 ≤ g ∧ some g ≠ (Value.slice A1 (tgt F.blocks k).length c1).ownBlock) col (.slice (some ⟨w.heap.size + 1, 0, none⟩) F.blocks.length F.blocks.length) (allRow F.blocks k ((tgt F.blocks k).take j))) ∧ Hd (OI wq (fun g => some g = (Value.slice A1 (tgt F.blocks k).length c1).ownBlock) (.slice A1 (tgt F.blocks k).length c1) (tgt F.blocks k)) ∧ Hd (Keeps (boxFn w F A c) wq fun _ => False))
      case atStart => exact ⟨0, col, Nat.zero_le _, Nat.sub_le _ _, rfl, HO1, HV1, HK1⟩
      case round =>
        clear HO1 HV1 HK1 hs1 hsz
        obtain ⟨j, col, hj, hgg2, rfl, HO, HV, HK⟩ := hrel
        by_cases hlj : j < (tgt F.blocks k).length
        · obtain ⟨g1, rfl, _, hlt1⟩ := Ow.ptr HV.out (by omega)
          have hm := tgt_mem (List.getElem_mem hlj)
          have hnd := tgt_nodup F.blocks k
          have hc1 := Ow.cell HV.out j (.int .i64 (tgt F.blocks k)[j]) (by rw [nI, List.getElem?_map, List.getElem?_eq_getElem hlj]; rfl)
          have HTK : Hd ((tgt F.blocks k).take (j + 1) = (tgt F.blocks k).take j ++ [(tgt F.blocks k)[j]]) := ⟨by rw [List.take_add_one, List.getElem?_eq_getElem hlj]; rfl⟩
          have hnc : ((tgt F.blocks k).take j).contains (tgt F.blocks k)[j] = false := by
            rw [List.contains_eq_mem, decide_eq_false_iff_not]
            intro hmem
            obtain ⟨i, hi, he⟩ := List.mem_iff_getElem.1 hmem
            rw [List.getElem_take] at he
            rw [List.length_take] at hi
            exact (List.pairwise_iff_getElem.1 hnd i j (by omega) hlj (by omega)) he
          generalize hgt : (tgt F.blocks k)[j] = tz at *
          clear hgt hnd
          obtain ⟨t, rfl⟩ := Int.eq_ofNat_of_zero_le hm.1
          have htl : t < F.blocks.length := by omega
          have htl' : t < (allRow F.blocks k ((tgt F.blocks k).take j)).length := by rw [allRow_len]; exact htl
          obtain ⟨HS1, HS2⟩ := allRow_step F.blocks k ((tgt F.blocks k).take j) t htl hnc htl'
          obtain ⟨u, hcu, hou⟩ := HO.out.at t htl'
          obtain ⟨Au, cu, rfl, _, _⟩ := Ow.form hou
          have hfu := HO.out.frozen t
          have hlu : (allRow F.blocks k ((tgt F.blocks k).take j))[t].length ≤ 1000000 := by
            rw [HS1]
            have := srcTo_len F.blocks t k
            omega
          have HOU := Hd.mk hou
          have HHS := Hd.mk HS2
          clear HS1 HS2 hou hnc hm
          go_wp2_with (at_builtin; refine append_int rfl (.tmp 30) (.tmp 32) rfl _ _ (k : Int) rfl HOU.out _ _ rfl rfl hlu ?_; intro A2 c2 w2 hc2 ho2 hk2; obtain ⟨hcu2, hfu2⟩ := HO.out.outer hk2 htl' hcu; have HO2 := Hd.mk ho2; have HK2 := Hd.mk hk2; clear ho2 hk2)
          go_roundg ((tgt F.blocks k).length - (j + 1))
          case measure => omega
          case rel =>
            refine ⟨j + 1, fun g => if g < wr.heap.size then col g else t + 1, hlj, Nat.le_refl _, by go_num, ⟨?_⟩, ⟨?_⟩, ⟨?_⟩⟩
            · rw [HTK.out, ← HHS.out]
              refine HO.out.put (fun g hg => ?_) t HO2.out HK2.out
              have := HK.out.size
              simp at this
              exact ⟨by omega, by simp [Value.ownBlock]; omega⟩
            · refine (HV.out.keep HK2.out (fun g hg _ hc => hc.1.2 hg)).keep ((Keeps.refl _ (fun g => g = w.heap.size + 1)).setCell (fun _ => rfl) _) (fun g hg _ e => ?_)
              obtain ⟨g', c', e2, _, h3, _⟩ := HO.out.addr (by omega)
              injection e2 with e2
              injection e2 with e2
              injection e2 with e2
              subst e e2
              exact h3.2 hg
            · refine (HK.out.trans HK2.out (fun g hg hs => by simp at hg; have := hs.1.1; omega)).setCell (fun hlt => ?_) _
              simp at hlt
        · obtain rfl : j = (tgt F.blocks k).length := by omega
          go_wp2
          go_roundg (F.blocks.length - (k + 1))
          case measure => omega
          case rel => exact ⟨k + 1, col, hlt, Nat.le_refl _, by go_num, ⟨by rw [← allRow_next, ← List.take_length (l := tgt F.blocks k)]; exact HO.out.mono (fun g hg => hg.1)⟩, HK⟩
    · go_wp2
      go_ret
      obtain rfl : k = F.blocks.length := by omega
      exact ⟨_, col, rfl, by rw [← allRow_all]; exact HO.out.mono (fun g hg => by omega), (((Keeps.refl w fun _ => False).alloc _).trans HK.out (fun _ _ hf => hf)).below0⟩
end Go.Proofs.Ytggbeehnmconmaa
