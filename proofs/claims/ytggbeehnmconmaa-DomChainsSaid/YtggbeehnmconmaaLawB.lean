/- The document's example. -/
import Derived.Test.YtggbeehnmconmaaLawA
namespace Go.Proofs.Ytggbeehnmconmaa
open Go.RowKit

def dBlk (fin a b : Int) : Blk := ⟨[], [], fin, 0, a, b⟩
def diaF : Fn := ⟨⟨#[]⟩, false, 0, 0, [dBlk 1 1 2, dBlk 0 3 0, dBlk 0 3 0, dBlk 2 0 0]⟩
theorem RPhis_none (w : World) : RPhis w (.slice none 0 0) [] := ⟨none, 0, rfl, Nat.le_refl _, by simp, .inl rfl⟩
theorem RInsts_none (w : World) : RInsts w (.slice none 0 0) [] := ⟨none, 0, rfl, Nat.le_refl _, by simp, .inl rfl⟩
theorem eBlk_d (w : World) (fin a b : Int) : eBlk w (dBlk fin a b) [.slice none 0 0, .slice none 0 0, .int .i64 fin, .int .i64 0, .int .i64 a, .int .i64 b] := ⟨_, _, rfl, RPhis_none w, RInsts_none w⟩

set_option maxHeartbeats 1000000 in
set_option maxRecDepth 100000 in
theorem diamond_calls (w : World) : Calls Try.prog 56 #[] w fun e w' => ∃ v', e = .returned v' ∧ RFn w' v' diaF ∧ Below w.heap.size w w' := by
  go_enter Try.func56, Try.ntmps56
  go_wp2
  refine bodyPost_ret (v := fnV diaF (.slice (some ⟨w.heap.size + 1, 0, none⟩) 4 4)) ?_ rfl ?_
  · simp [results, Try.results56, go_sem, fnV, diaF]
  · refine ⟨_, rfl, ⟨_, rfl, ⟨_, _, rfl, by simp [diaF], by simp [diaF], .inr ⟨_, _, rfl, fun i hi => ?_⟩⟩⟩, ?_⟩
    · have hi4 : i < 4 := hi
      match i, hi4 with
      | 0, _ =>
        refine ⟨_, rfl, eBlk_d _ 1 1 2, fun j u hj => ?_⟩
        have hj6 : j < 6 := by have := (List.getElem?_eq_some_iff.1 hj).1; simpa using this
        match j, hj6 with
        | 0, _ => injection hj with hj; subst hj; go_simp
        | 1, _ => injection hj with hj; subst hj; go_simp
        | 2, _ => injection hj with hj; subst hj; go_simp
        | 3, _ => injection hj with hj; subst hj; go_simp
        | 4, _ => injection hj with hj; subst hj; go_simp
        | 5, _ => injection hj with hj; subst hj; go_simp
      | 1, _ =>
        refine ⟨_, rfl, eBlk_d _ 0 3 0, fun j u hj => ?_⟩
        have hj6 : j < 6 := by have := (List.getElem?_eq_some_iff.1 hj).1; simpa using this
        match j, hj6 with
        | 0, _ => injection hj with hj; subst hj; go_simp
        | 1, _ => injection hj with hj; subst hj; go_simp
        | 2, _ => injection hj with hj; subst hj; go_simp
        | 3, _ => injection hj with hj; subst hj; go_simp
        | 4, _ => injection hj with hj; subst hj; go_simp
        | 5, _ => injection hj with hj; subst hj; go_simp
      | 2, _ =>
        refine ⟨_, rfl, eBlk_d _ 0 3 0, fun j u hj => ?_⟩
        have hj6 : j < 6 := by have := (List.getElem?_eq_some_iff.1 hj).1; simpa using this
        match j, hj6 with
        | 0, _ => injection hj with hj; subst hj; go_simp
        | 1, _ => injection hj with hj; subst hj; go_simp
        | 2, _ => injection hj with hj; subst hj; go_simp
        | 3, _ => injection hj with hj; subst hj; go_simp
        | 4, _ => injection hj with hj; subst hj; go_simp
        | 5, _ => injection hj with hj; subst hj; go_simp
      | 3, _ =>
        refine ⟨_, rfl, eBlk_d _ 2 0 0, fun j u hj => ?_⟩
        have hj6 : j < 6 := by have := (List.getElem?_eq_some_iff.1 hj).1; simpa using this
        match j, hj6 with
        | 0, _ => injection hj with hj; subst hj; go_simp
        | 1, _ => injection hj with hj; subst hj; go_simp
        | 2, _ => injection hj with hj; subst hj; go_simp
        | 3, _ => injection hj with hj; subst hj; go_simp
        | 4, _ => injection hj with hj; subst hj; go_simp
        | 5, _ => injection hj with hj; subst hj; go_simp
    · exact (((Keeps.refl w (fun _ => False)).alloc _).alloc _).below0
end Go.Proofs.Ytggbeehnmconmaa
