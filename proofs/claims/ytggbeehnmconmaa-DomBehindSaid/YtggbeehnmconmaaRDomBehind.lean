/- In the order block 0 is the first, and each block behind the one that stands above it. -/
import Derived.Test.YtggbeehnmconmaaRow0
import Derived.Test.YtggbeehnmconmaaInb
import Derived.Test.YtggbeehnmconmaaLawC
import Derived.Test.YtggbeehnmconmaaBehP
namespace Go.Proofs.Ytggbeehnmconmaa
open Go.RowKit Go.ChangeShapes Go.WideShapes

def BehA (n : Nat) (m : Nat → Bool) (w3 : World) (gg : Nat) (v7 v8 : Value) (wr : World) : Prop :=
  ∃ i : Nat, v8 = .int .i64 i ∧ v7 = .int .i64 (((List.range i).filter m).length : Nat) ∧ i ≤ n ∧ n - i ≤ gg ∧ OI wr (fun g => g = w3.heap.size) (.slice (some ⟨w3.heap.size, 0, none⟩) n n) (fillM n i) ∧ Keeps w3 wr (fun _ => False)
def BehB (n : Nat) (L : List Nat) (w3 : World) (gg : Nat) (v9 : Value) (wr : World) : Prop :=
  ∃ i : Nat, v9 = .int .i64 i ∧ i ≤ L.length ∧ L.length - i ≤ gg ∧ OI wr (fun g => g = w3.heap.size) (.slice (some ⟨w3.heap.size, 0, none⟩) n n) (atL n (L.take i)) ∧ Keeps w3 wr (fun _ => False)
def BehC (n : Nat) (L : List Nat) (w3 : World) (gg : Nat) (v10 : Value) (wr : World) : Prop :=
  ∃ i : Nat, v10 = .int .i64 i ∧ i ≤ n ∧ n - i ≤ gg ∧ OI wr (fun g => g = w3.heap.size) (.slice (some ⟨w3.heap.size, 0, none⟩) n n) (atL n L) ∧ Keeps w3 wr (fun _ => False)
theorem filter_range_succ (m : Nat → Bool) (i : Nat) : ((List.range (i + 1)).filter m).length = ((List.range i).filter m).length + (if m i then 1 else 0) := by
  rw [List.range_succ, List.filter_append, List.length_append]
  cases h : m i <;> simp [h]
theorem filter_range_le (m : Nat → Bool) (i : Nat) : ((List.range i).filter m).length ≤ i := Nat.le_trans (List.length_filter_le _ _) (by simp)

set_option maxHeartbeats 4000000 in
set_option maxRecDepth 100000 in
theorem domBehind_calls (F : Fn) (v : Value) (w : World) (h : RFn w v F) : Calls Try.prog 6 #[v] w fun e w' => e = .returned (.bool true) ∧ Below w.heap.size w w' := by
  obtain ⟨vb, rfl, hb⟩ := h
  unfold fnV
  obtain ⟨A, c, rfl, hc, hl⟩ := RL.form hb
  have hI := Inb.start hb
  clear hb
  by_cases hn : 200 < F.blocks.length
  · have hn' : decide ((F.blocks.length : Int) > 200) = true := by simp; omega
    go_enter Try.func6, Try.ntmps6
    go_wp2_with fail
    refine (awake_calls _).mono ?_
    rintro e w1 ⟨rfl, hk⟩
    have HK := Hd.mk (hI.below hk)
    clear hk
    go_wp2
    go_ret
    exact ⟨rfl, HK.out.out⟩
  · have hn' : decide ((F.blocks.length : Int) > 200) = false := by simp; omega
    have hn2 : F.blocks.length ≤ 1000000 := by omega
    have hmk := run_make_row' (P := Try.prog) 27 3 (.int .i64 0) 8 Try.underlying27 info_int rfl .i64 .i64 F.blocks.length (by omega) (by omega)
    clear hn
    go_enter Try.func6, Try.ntmps6
    go_wp2_with fail
    refine (dOrder F _ _ hI.fn hn2).mono ?_
    rintro e w1 ⟨v1, L, rfl, hL, ho, hk⟩
    have hI1 := hI.below hk
    have HB := Hd.mk (beh_of hL)
    have R1 := Hd.mk (show RInts w1 v1 (ints L) from ho.reads)
    obtain ⟨A1, c1, rfl, _, _⟩ := RL.form R1.out
    obtain ⟨_, q0, q1, q2, q3, q4⟩ := hI1.S
    clear hL ho hk
    go_wp2_with fail
    refine (dAbove F _ _ hI1.fn hn2).mono ?_
    rintro e w2 ⟨v2, rfl, r2, hk⟩
    have hI2 := hI1.below hk
    have R1 := Hd.mk (R1.out.later (Keeps.belowF hk))
    have R2 := Hd.mk r2
    obtain ⟨A2, c2, rfl, _, _⟩ := RL.form r2
    clear q0 q1 q2 q3 q4 r2 hk hI1
    obtain ⟨_, q0, q1, q2, q3, q4⟩ := hI2.S
    go_wp2_with fail
    refine (Walk_calls F _ _ _ hI2.fn hn2).mono ?_
    rintro e w3 ⟨v5, rfl, h5, hk⟩
    have hI3 := hI2.below hk
    have R1 := Hd.mk (R1.out.later (Keeps.belowF hk))
    have R2 := Hd.mk (R2.out.later (Keeps.belowF hk))
    have R5 := Hd.mk (show RBools w3 v5 _ from h5.reads)
    obtain ⟨A5, c5, rfl, _, _⟩ := RL.form R5.out
    clear q0 q1 q2 q3 q4 h5 hk hI2
    obtain ⟨_, q0, q1, q2, q3, q4⟩ := hI3.S
    have e1 : (ints L).length = L.length := by simp [ints]
    have e2 : (aboveR (overB F.blocks) F.blocks.length).length = F.blocks.length := by simp [aboveR]
    have e5 : (bl F.blocks.length (rch F.blocks (-1))).length = F.blocks.length := bl_len _ _
    rw [e1] at R1
    rw [e2] at R2
    rw [e5] at R5
    rw [e1, e2, e5]
    have HLN := Hd.mk e1
    clear e1 e2 e5
    go_wp2
    go_loopg [7, 8] F.blocks.length (fun gg v7 v8 wr => BehA F.blocks.length (rch F.blocks (-1)) w3 gg v7 v8 wr)
    case atStart =>
      refine ⟨0, rfl, by simp, Nat.zero_le _, Nat.le_refl _, ?_, (Keeps.refl _ _).alloc _⟩
      have e : fillM F.blocks.length 0 = List.replicate F.blocks.length 0 := by simp [fillM]
      rw [e]
      unfold OI
      rw [List.length_replicate]
      exact Ow.of_obj (cap := F.blocks.length) (cur := madeCells #[.int .i64 0] F.blocks.length) (obj_new rfl) rfl (Nat.le_refl _) (by omega) (by rw [size_madeCells, Nat.mul_one]) (by rw [toList_madeCells_one]; simp [nI])
    case round =>
      clear hmk q0 q1 q2 q3 q4
      obtain ⟨i, rfl, hv7, hi, hgg, hO, hK⟩ := hrel
      have HO := Hd.mk hO
      have HK := Hd.mk hK
      clear hO hK
      by_cases hlt : i < F.blocks.length
      · subst hv7
        obtain ⟨b5, o5, rfl⟩ := RL.ptr R5.out (by rw [bl_len]; omega)
        have c5i := RBools.at R5.out i (by rw [bl_len]; exact hlt)
        rw [bl_at] at c5i
        have c5i := HK.out.cell c5i (fun hf => hf)
        have f6 := Ow.frozen HO.out i
        have a6 := HO.out.at i (by rw [fillM_len (by omega)]; exact hlt)
        obtain ⟨z1, hz1⟩ : ∃ z, (fillM F.blocks.length i)[i]'(by rw [fillM_len (by omega)]; exact hlt) = z := ⟨_, rfl⟩
        rw [hz1] at a6
        have hp : (i : Int) < (F.blocks.length : Int) := by omega
        have hle := filter_range_le (rch F.blocks (-1)) i
        have HS := Hd.mk (filter_range_succ (rch F.blocks (-1)) i)
        have HO2 := Hd.mk (HO.out.set i (-1))
        rw [fillM_set hlt] at HO2
        have h5b : b5 ≠ w3.heap.size := by
          have := World.block_lt_of_cell? _ _ (RBools.at R5.out i (by rw [bl_len]; exact hlt))
          simp at this
          omega
        have c5j : (World.setCell wr ⟨w3.heap.size, i, none⟩ (.int .i64 (-1))).cell? ⟨b5, o5 + i, none⟩ = some (.bool (rch F.blocks (-1) i)) := (Keeps.set1 wr ⟨w3.heap.size, i, none⟩ (.int .i64 (-1))).cell c5i (fun e => h5b e)
        cases hm : rch F.blocks (-1) i with
        | true =>
          rw [hm] at c5i c5j HS
          have HM := Hd.mk hm
          clear hm hz1
          go_wp2
          go_roundg (F.blocks.length - (i + 1))
          case measure => omega
          case rel => exact ⟨i + 1, by go_num, by rw [HS.out]; go_num, hlt, Nat.le_refl _, HO2.out, HK.out.setCell (fun h => by simp at h) _⟩
        | false =>
          rw [hm] at c5i c5j HS
          have HM := Hd.mk hm
          clear hm hz1
          go_wp2
          go_roundg (F.blocks.length - (i + 1))
          case measure => omega
          case rel => exact ⟨i + 1, by go_num, by rw [HS.out]; rfl, hlt, Nat.le_refl _, HO2.out, HK.out.setCell (fun h => by simp at h) _⟩
      · obtain rfl : i = F.blocks.length := by omega
        rw [HB.out.cnt] at hv7
        subst hv7
        rw [fillM_end, ← atL_nil] at HO
        have HK4 := HK
        have hne1 : ((L.length : Int) != (L.length : Int)) = false := by simp
        have hne2 : ((F.blocks.length : Int) != (F.blocks.length : Int)) = false := by simp
        obtain ⟨q0, q1, q2, q3, q4⟩ := box_cells (hI3.keeps.trans HK.out (fun _ _ hf => hf)) (fun hf => hf)
        go_wp2
        obtain ⟨wa, rfl⟩ : ∃ wa, wa = wr := ⟨_, rfl⟩
        have hlL : L.length ≤ F.blocks.length := Nat.le_trans (Nat.le_of_eq HB.out.cnt.symm) (filter_range_le _ _)
        go_loopg [9] L.length (fun gg v9 wr => BehB F.blocks.length L w3 gg v9 wr)
        case atStart => exact ⟨0, rfl, Nat.zero_le _, Nat.le_refl _, by simpa using HO.out, HK.out⟩
        case round =>
          clear q0 q1 q2 q3 q4 HK4 HO HK hne1 hne2
          obtain ⟨i, rfl, hi, hgg, hO, hK⟩ := hrel
          have HO := Hd.mk hO
          have HK := Hd.mk hK
          clear hO hK
          by_cases hlt : i < L.length
          · obtain ⟨b1, o1, rfl⟩ := RL.ptr R1.out (by simp [ints]; omega)
            obtain ⟨x, hx⟩ : ∃ x, L[i] = x := ⟨_, rfl⟩
            have hxm : x ∈ L := hx ▸ List.getElem_mem hlt
            have hxn := HB.out.lt x hxm
            have c1i := RInts.at R1.out i (by simp [ints]; omega)
            rw [show (ints L)[i]'(by simp [ints]; omega) = (x : Int) by simp [ints, hx]] at c1i
            have c1i := HK.out.cell c1i (fun hf => hf)
            obtain ⟨b5, o5, rfl⟩ := RL.ptr R5.out (by rw [bl_len]; omega)
            have c5x := RBools.at R5.out x (by rw [bl_len]; exact hxn)
            rw [bl_at, HB.out.mem x hxn, decide_eq_true hxm] at c5x
            have c5x := HK.out.cell c5x (fun hf => hf)
            have hxt : x ∉ L.take i := fun h => by
              obtain ⟨j, hj⟩ := List.mem_iff_getElem?.1 h
              have hj2 := (List.getElem?_eq_some_iff.1 hj).1
              rw [List.length_take] at hj2
              rw [List.getElem?_take_of_lt (by omega)] at hj
              have := (List.getElem?_inj (i := j) (j := i) (by omega) HB.out.nodup).1 (by rw [hj, List.getElem?_eq_getElem hlt, hx])
              omega
            have a6 := HO.out.at x (by rw [atL_len]; exact hxn)
            rw [show (atL F.blocks.length (L.take i))[x]'(by rw [atL_len]; exact hxn) = -1 by
              have := atL_get (L.take i) hxn
              rw [List.getElem?_eq_getElem (by rw [atL_len]; exact hxn)] at this
              injection this with this
              rw [this, atV, num_none hxt]] at a6
            have f6 := Ow.frozen HO.out x
            have HO2 := Hd.mk (HO.out.set x (i : Int))
            rw [show (atL F.blocks.length (L.take i)).set x (i : Int) = atL F.blocks.length (L.take (i + 1)) by
              have := atL_snoc (n := F.blocks.length) hxt
              rw [List.length_take, Nat.min_eq_left (by omega)] at this
              rw [this, List.take_succ_eq_append_getElem hlt, hx]] at HO2
            have hp : (i : Int) < (L.length : Int) := by omega
            have hp2 : (x : Int) < (F.blocks.length : Int) := by omega
            have hp3 : (0 : Int) ≤ (x : Int) := by omega
            have hp4 : decide ((x : Int) < 0) = false := by simp
            have hp5 : decide ((x : Int) ≥ (F.blocks.length : Int)) = false := by simp; omega
            clear hx hxm hxt
            go_wp2
            go_roundg (L.length - (i + 1))
            case measure => omega
            case rel => exact ⟨i + 1, by go_num, hlt, Nat.le_refl _, HO2.out, HK.out.setCell (fun h => by simp at h) _⟩
          · obtain rfl : i = L.length := by omega
            rw [List.take_length] at HO
            obtain ⟨wb, rfl⟩ : ∃ wb, wb = wr := ⟨_, rfl⟩
            go_wp2
            go_loopg [10] F.blocks.length (fun gg v10 wr => BehC F.blocks.length L w3 gg v10 wr)
            case atStart => exact ⟨0, rfl, Nat.zero_le _, Nat.le_refl _, HO.out, HK.out⟩
            case round =>
              clear HO HK
              obtain ⟨i, rfl, hi, hgg, hO, hK⟩ := hrel
              have HO := Hd.mk hO
              have HK := Hd.mk hK
              clear hO hK
              by_cases hlt : i < F.blocks.length
              · obtain ⟨b2, o2, rfl⟩ := RL.ptr R2.out (by simp [aboveR]; omega)
                have c2i := RInts.at R2.out i (by simp [aboveR]; omega)
                rw [show (aboveR (overB F.blocks) F.blocks.length)[i]'(by simp [aboveR]; omega) = bestTo (overB F.blocks) i F.blocks.length by simp [aboveR]] at c2i
                have c2i := HK.out.cell c2i (fun hf => hf)
                obtain ⟨b5, o5, rfl⟩ := RL.ptr R5.out (by rw [bl_len]; omega)
                have c5i := RBools.at R5.out i (by rw [bl_len]; exact hlt)
                rw [bl_at, HB.out.mem i hlt] at c5i
                have c5i := HK.out.cell c5i (fun hf => hf)
                have hp : (i : Int) < (F.blocks.length : Int) := by omega
                by_cases h0 : i = 0 ∨ i ∉ L
                · rw [HB.out.none i hlt h0] at c2i
                  have ht : ((-1 : Int) != -1) = false := rfl
                  by_cases hz : i = 0
                  · have hz' : ((i : Int) == 0) = true := by simp [hz]
                    clear c5i h0 hz
                    go_wp2
                    go_roundg (F.blocks.length - (i + 1))
                    case measure => omega
                    case rel => exact ⟨i + 1, by go_num, hlt, Nat.le_refl _, HO.out, HK.out⟩
                  · have hz' : ((i : Int) == 0) = false := by simpa using hz
                    have hni : i ∉ L := h0.resolve_left hz
                    rw [decide_eq_false hni] at c5i
                    clear hni h0 hz
                    go_wp2
                    go_roundg (F.blocks.length - (i + 1))
                    case measure => omega
                    case rel => exact ⟨i + 1, by go_num, hlt, Nat.le_refl _, HO.out, HK.out⟩
                · have hz : i ≠ 0 := fun e => h0 (.inl e)
                  have him : i ∈ L := Classical.byContradiction fun e => h0 (.inr e)
                  obtain ⟨q, na, nb, hq, hqn, hna, hnb, hab⟩ := HB.out.some i hlt hz him
                  rw [hq] at c2i
                  rw [decide_eq_true him] at c5i
                  have aq := HO.out.at q (by rw [atL_len]; exact hqn)
                  rw [show (atL F.blocks.length L)[q]'(by rw [atL_len]; exact hqn) = (na : Int) by
                    have := atL_get L hqn
                    rw [List.getElem?_eq_getElem (by rw [atL_len]; exact hqn)] at this
                    injection this with this
                    rw [this, atV, hna]] at aq
                  have ai := HO.out.at i (by rw [atL_len]; exact hlt)
                  rw [show (atL F.blocks.length L)[i]'(by rw [atL_len]; exact hlt) = (nb : Int) by
                    have := atL_get L hlt
                    rw [List.getElem?_eq_getElem (by rw [atL_len]; exact hlt)] at this
                    injection this with this
                    rw [this, atV, hnb]] at ai
                  have hz' : ((i : Int) == 0) = false := by simpa using hz
                  have g1 : decide ((q : Int) < 0) = false := by simp
                  have g2 : decide ((q : Int) ≥ (F.blocks.length : Int)) = false := by simp; omega
                  have g3 : decide ((na : Int) < 0) = false := by simp
                  have g4 : decide ((na : Int) ≥ (nb : Int)) = false := by simp; omega
                  have hp2 : (q : Int) < (F.blocks.length : Int) := by omega
                  have hp3 : (0 : Int) ≤ (q : Int) := by omega
                  have hp4 : (0 : Int) ≤ (i : Int) := by omega
                  clear h0 hz him hq hna hnb
                  go_wp2
                  go_quiet (fail)
                  go_wp2
                  go_roundg (F.blocks.length - (i + 1))
                  case measure => omega
                  case rel => exact ⟨i + 1, by go_num, hlt, Nat.le_refl _, HO.out.keep ((Keeps.refl _ (fun _ => False)).drewN _) (fun _ _ _ hf => hf), HK.out.drewN _⟩
              · obtain rfl : i = F.blocks.length := by omega
                have HI4 := Hd.mk (hI3.later HK.out)
                by_cases hL0 : L.length = 0
                · have hz : ((L.length : Int) == 0) = true := by simp [hL0]
                  clear hL0
                  go_wp2_with fail
                  refine (awake_calls _).mono ?_
                  rintro e w9 ⟨rfl, hk9⟩
                  have HK9 := Hd.mk (HI4.out.below hk9)
                  clear hk9
                  go_wp2
                  go_ret
                  exact ⟨rfl, HK9.out.out⟩
                · have hz : ((L.length : Int) == 0) = false := by simpa using hL0
                  have hLp : 0 < L.length := by omega
                  obtain ⟨b1, o1, rfl⟩ := RL.ptr R1.out (by simp [ints]; omega)
                  have c10 := RInts.at R1.out 0 (by simp [ints]; omega)
                  have hl0 := HB.out.zero (fun e => hL0 (by rw [e]; rfl))
                  rw [show (ints L)[0]'(by simp [ints]; omega) = 0 by
                    rw [List.getElem?_eq_getElem hLp] at hl0
                    injection hl0 with hl0
                    simp [ints, hl0]] at c10
                  have c10 := HK.out.cell c10 (fun hf => hf)
                  rw [Nat.add_zero] at c10
                  have hp0 : (0 : Int) < (L.length : Int) := by omega
                  clear hl0 hL0
                  go_wp2_with fail
                  refine (awake_calls _).mono ?_
                  rintro e w9 ⟨rfl, hk9⟩
                  have HK9 := Hd.mk (HI4.out.below hk9)
                  clear hk9
                  go_wp2
                  go_ret
                  exact ⟨rfl, HK9.out.out⟩
end Go.Proofs.Ytggbeehnmconmaa
