/- The document's answers: Sources. -/
import Derived.Test.YtggbeehnmconmaaRef2
namespace Go.Proofs.Ytggbeehnmconmaa
open Go.RowKit

set_option maxHeartbeats 1000000 in
set_option maxRecDepth 100000 in
theorem rSources_calls (F : Fn) (v : Value) (b : Int) (w : World) (h : RFn w v F) (hn : F.blocks.length ≤ 1000000) :
    Calls Try.prog 39 #[v, .int .i64 b] w fun e w' => ∃ v', e = .returned v' ∧ OI w' (fun g => w.heap.size ≤ g) v' (src F.blocks b) ∧ Below w.heap.size w w' := by
  obtain ⟨vb, rfl, hb⟩ := h
  unfold fnV
  obtain ⟨A, c, rfl, hc, hl⟩ := RL.form hb
  have HR : Hd (RBlks w (.slice A F.blocks.length c) F.blocks) := ⟨hb⟩
  clear hb
  go_enter Try.func39, Try.ntmps39
  go_wp2
  go_loopw [5, 6] (fun v5 v10 wr => ∃ k : Nat, k ≤ F.blocks.length ∧ v10 = .int .i64 k ∧ Hd (OI wr (fun g => w.heap.size + 1 ≤ g) v5 (srcTo F.blocks b k)) ∧ Hd (Keeps (boxFn w F A c) wr fun _ => False)) (fun _ v10 _ => F.blocks.length - (intOf v10).toNat)
  case atStart => exact ⟨0, Nat.zero_le _, rfl, ⟨(Ow.nil _ _ _ _ : OI _ _ _ [])⟩, ⟨Keeps.refl _ _⟩⟩
  case round =>
    obtain ⟨k, hk, rfl, HO, HK⟩ := hrel
    obtain ⟨q0, q1, q2, q3, q4⟩ := box_cells HK.out (fun hf => hf)
    by_cases hlt : k < F.blocks.length
    · have hT := rTargets_calls F _ k wr ⟨_, rfl, RBlks.below (((Keeps.refl w fun _ => False).alloc _).trans HK.out (fun _ _ hf => hf)).below0 HR.out⟩
      have HT := Hd.mk hT
      clear hT
      have HS := Hd.mk (srcTo_succ F.blocks b k)
      have hL := srcTo_len F.blocks b k
      go_wp2_with fail
      refine HT.out.mono ?_
      rintro e w1 ⟨v1, rfl, ho1, hb1⟩
      have HO1 := Hd.mk ho1
      have HB1 := Hd.mk hb1
      have HC := Hd.mk (Has_calls b ho1.reads)
      have HOw := Hd.mk (show OI w1 (fun g => w.heap.size + 1 ≤ g) _ _ from HO.out.keep (Keeps.of_below hb1 (fun _ => False)) (fun _ _ _ hf => hf))
      have HKw := Hd.mk (HK.out.trans (Keeps.of_below hb1 fun _ => False) (fun _ _ hf => hf))
      have hsz : w.heap.size + 1 ≤ w1.heap.size := by simpa using HKw.out.size
      clear ho1 hb1 HO HK HO1 HB1 HT
      cases hcb : (tgt F.blocks k).contains b with
      | true =>
        rw [hcb] at HS HC
        clear hcb
        go_wp2_with fail
        refine HC.out.mono ?_
        rintro e w' ⟨rfl, rfl⟩
        go_wp2_with (at_builtin; refine append_int rfl (.tmp 19) (.tmp 21) rfl _ (srcTo F.blocks b k) (k : Int) rfl HOw.out _ _ rfl rfl (by omega) ?_; intro A2 c2 w2 hc2 ho2 hk2)
        go_roundw
        case rel => exact ⟨k + 1, hlt, by go_num, ⟨by rw [HS.out]; exact ho2.mono (fun g hg => by omega)⟩, ⟨HKw.out.trans hk2 (fun i hi hs => by simp at hi; omega)⟩⟩
        case measure => simp [intOf]; omega
      | false =>
        rw [hcb] at HS HC
        clear hcb
        go_wp2_with fail
        refine HC.out.mono ?_
        rintro e w' ⟨rfl, rfl⟩
        go_wp2
        go_roundw
        case rel => exact ⟨k + 1, hlt, by go_num, ⟨by rw [HS.out]; simpa using HOw.out⟩, HKw⟩
        case measure => simp [intOf]; omega
    · obtain rfl : k = F.blocks.length := by omega
      go_wp2
      go_ret
      exact ⟨_, rfl, HO.out.mono (fun g hg => by omega), (((Keeps.refl w fun _ => False).alloc _).trans HK.out (fun _ _ hf => hf)).below0⟩
end Go.Proofs.Ytggbeehnmconmaa
