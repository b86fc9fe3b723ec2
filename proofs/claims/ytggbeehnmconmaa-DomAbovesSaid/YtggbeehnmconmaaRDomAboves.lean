/- Which block stands above each is the document's: found by barring each block. -/
import Derived.Test.YtggbeehnmconmaaRow0
import Derived.Test.YtggbeehnmconmaaInb
import Derived.Test.YtggbeehnmconmaaLawC
namespace Go.Proofs.Ytggbeehnmconmaa
open Go.RowKit Go.ChangeShapes Go.WideShapes

set_option maxHeartbeats 600000 in
set_option maxRecDepth 100000 in
theorem domAboves_calls (F : Fn) (v : Value) (w : World) (h : RFn w v F) : Calls Try.prog 4 #[v] w fun e w' => e = .returned (.bool true) ∧ Below w.heap.size w w' := by
  obtain ⟨vb, rfl, hb⟩ := h
  unfold fnV
  obtain ⟨A, c, rfl, hc, hl⟩ := RL.form hb
  have hI := Inb.start hb
  clear hb
  by_cases hn : 60 < F.blocks.length
  · have hn' : decide ((F.blocks.length : Int) > 60) = true := by simp; omega
    go_enter Try.func4, Try.ntmps4
    go_wp2_with fail
    refine (awake_calls _).mono ?_
    rintro e w1 ⟨rfl, hk⟩
    have HK := Hd.mk (hI.below hk)
    clear hk
    go_wp2
    go_ret
    exact ⟨rfl, HK.out.out⟩
  · have hn' : decide ((F.blocks.length : Int) > 60) = false := by simp; omega
    have hn2 : F.blocks.length ≤ 1000000 := by omega
    go_enter Try.func4, Try.ntmps4
    go_wp2_with fail
    go_region_held3 (fun w' => Inb w F A c w' ∧ w'.cell? ⟨w.heap.size, 0, none⟩ = some (.string F.name) ∧ w'.cell? ⟨w.heap.size, 1, none⟩ = some (.bool F.weak) ∧ w'.cell? ⟨w.heap.size, 2, none⟩ = some (.int .i64 F.params) ∧ w'.cell? ⟨w.heap.size, 3, none⟩ = some (.int .i64 F.values) ∧ w'.cell? ⟨w.heap.size, 4, none⟩ = some (.slice A F.blocks.length c)) (first | exact Inb.S (by assumption) | exact Inb.S (Inb.drew (by assumption)) | assumption)
      (first 
        | (go_at_call 24; refine (dAbove F _ _ (InS.fn (by assumption)) hn2).mono ?_; rintro e w1 ⟨v1, rfl, r1, hk⟩; have hI1 := InS.below (by assumption) hk; obtain ⟨A1, c1, rfl, _, _⟩ := RL.form r1; have R1 := Hd.mk r1; clear r1 hk)
        | (go_at_call 25; refine (rAbove_calls F _ _ (InS.fn (by assumption)) hn2).mono ?_; rintro e w2 ⟨v2, rfl, ho, hk⟩; have hI2 := InS.below (by assumption) hk; have r2 := ho.reads; obtain ⟨A2, c2, rfl, _, _⟩ := RL.form r2; have R2 := Hd.mk r2; have R1' := Hd.mk (R1.out.later (Keeps.belowF hk)); clear ho r2 hk)
        | (go_at_call 21; refine (SameInts_calls R1'.out R2.out).mono ?_; rw [decide_eq_true rfl]; rintro e w3 ⟨rfl, n3, rfl⟩; have hI3 := InS.drewN (by assumption) n3)
        | (go_at_call 20; refine (awake_calls _).mono ?_; rintro e w4 ⟨rfl, hk⟩; have hI4 := InS.below (by assumption) hk; clear hk))
    all_goals
      have HK9 := Hd.mk (InS.out (by assumption))
      go_wp2
      go_ret
      exact ⟨rfl, HK9.out⟩
end Go.Proofs.Ytggbeehnmconmaa
