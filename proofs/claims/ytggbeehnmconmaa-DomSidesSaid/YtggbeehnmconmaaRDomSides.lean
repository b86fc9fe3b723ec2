/- The targets and sources of any block are the document's. -/
import Derived.Test.YtggbeehnmconmaaRow0
import Derived.Test.YtggbeehnmconmaaInb
import Derived.Test.YtggbeehnmconmaaLawC
namespace Go.Proofs.Ytggbeehnmconmaa
open Go.RowKit Go.ChangeShapes Go.WideShapes

set_option maxHeartbeats 2000000 in
set_option maxRecDepth 100000 in
theorem domSides_calls (F : Fn) (v : Value) (b : Int) (w : World) (h : RFn w v F) : Calls Try.prog 9 #[v, .int .i64 b] w fun e w' => e = .returned (.bool true) ∧ Below w.heap.size w w' := by
  obtain ⟨vb, rfl, hb⟩ := h
  unfold fnV
  obtain ⟨A, c, rfl, hc, hl⟩ := RL.form hb
  have hI := Inb.start hb
  clear hb
  by_cases hn : 200 < F.blocks.length
  · have hn' : decide ((F.blocks.length : Int) > 200) = true := by simp; omega
    go_enter Try.func9, Try.ntmps9
    go_wp2_with fail
    refine (awake_calls _).mono ?_
    rintro e w1 ⟨rfl, hk⟩
    have HK := Hd.mk (hI.below hk)
    clear hk
    go_wp2
    go_ret
    exact ⟨rfl, HK.out.out⟩
  · have hn' : decide ((F.blocks.length : Int) > 200) = false := by simp; omega
    have hn2 : F.blocks.length ≤ 1000000 := by omega
    go_enter Try.func9, Try.ntmps9
    go_wp2_with fail
    go_region_held3 (fun w' => Inb w F A c w' ∧ w'.cell? ⟨w.heap.size, 0, none⟩ = some (.string F.name) ∧ w'.cell? ⟨w.heap.size, 1, none⟩ = some (.bool F.weak) ∧ w'.cell? ⟨w.heap.size, 2, none⟩ = some (.int .i64 F.params) ∧ w'.cell? ⟨w.heap.size, 3, none⟩ = some (.int .i64 F.values) ∧ w'.cell? ⟨w.heap.size, 4, none⟩ = some (.slice A F.blocks.length c)) (first | exact Inb.S (by assumption) | exact Inb.S (Inb.drew (by assumption)) | assumption)
      (first 
        | (go_at_call 36; refine (Targets_calls F _ b _ (InS.fn (by assumption))).mono ?_; rintro e w1 ⟨v1, rfl, ho, hk⟩; have hI1 := InS.below (by assumption) hk; have r1 := OI.reads ho; obtain ⟨A1, c1, rfl, _, _⟩ := RL.form r1; have R1 := Hd.mk r1; clear r1 hk ho)
        | (go_at_call 37; refine (rTargets_calls F _ b _ (InS.fn (by assumption))).mono ?_; rintro e w2 ⟨v2, rfl, ho, hk⟩; have hI2 := InS.below (by assumption) hk; have r2 := OI.reads ho; obtain ⟨A2, c2, rfl, _, _⟩ := RL.form r2; have R2 := Hd.mk r2; have R1' := Hd.mk (R1.out.later (Keeps.belowF hk)); clear ho r2 hk)
        | (go_at_call 38; refine (Sources_calls F _ b _ (InS.fn (by assumption)) hn2).mono ?_; rintro e w5 ⟨v5, rfl, ho, hk⟩; have hI5 := InS.below (by assumption) hk; have r5 := OI.reads ho; obtain ⟨A5, c5, rfl, _, _⟩ := RL.form r5; have R5 := Hd.mk r5; clear r5 hk ho)
        | (go_at_call 39; refine (rSources_calls F _ b _ (InS.fn (by assumption)) hn2).mono ?_; rintro e w6 ⟨v6, rfl, ho, hk⟩; have hI6 := InS.below (by assumption) hk; have r6 := OI.reads ho; obtain ⟨A6, c6, rfl, _, _⟩ := RL.form r6; have R6 := Hd.mk r6; have R5' := Hd.mk (R5.out.later (Keeps.belowF hk)); clear ho r6 hk)
        | (go_at_call 21; refine (SameInts_calls R5'.out R6.out).mono ?_; rw [decide_eq_true rfl]; rintro e w7 ⟨rfl, n7, rfl⟩; have hI7 := InS.drewN (by assumption) n7)
        | (go_at_call 21; refine (SameInts_calls R1'.out R2.out).mono ?_; rw [decide_eq_true rfl]; rintro e w3 ⟨rfl, n3, rfl⟩; have hI3 := InS.drewN (by assumption) n3)
        | (go_at_call 20; refine (awake_calls _).mono ?_; rintro e w4 ⟨rfl, hk⟩; have hI4 := InS.below (by assumption) hk; clear hk))
    all_goals
      have HK9 := Hd.mk (InS.out (by assumption))
      go_wp2
      go_ret
      exact ⟨rfl, HK9.out⟩
end Go.Proofs.Ytggbeehnmconmaa
