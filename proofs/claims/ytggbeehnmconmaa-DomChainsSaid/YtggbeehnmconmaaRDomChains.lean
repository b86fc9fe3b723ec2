/- In a chain of loops each block stands above the next; the edge of each is what it goes back to. -/
import Derived.Test.YtggbeehnmconmaaRow0
import Derived.Test.YtggbeehnmconmaaB5
import Derived.Test.YtggbeehnmconmaaInb
import Derived.Test.YtggbeehnmconmaaLawC
import Derived.Test.YtggbeehnmconmaaChaP
import Derived.Deep.RegionHeld3
namespace Go.Proofs.Ytggbeehnmconmaa
open Go.RowKit Go.ChangeShapes Go.WideShapes

theorem info_blk : (Try.prog.info? 38).map (fun i => (i.zero, i.size, i.bytes)) = some (some (.agg #[.slice none 0 0, .slice none 0 0, .int .i64 0, .int .i64 0, .int .i64 0, .int .i64 0]), 6, 80) := by kernel_rfl
def cB (fin a b : Int) : List Value := [.slice none 0 0, .slice none 0 0, .int .i64 fin, .int .i64 0, .int .i64 a, .int .i64 b]
def cBs (i : Nat) : List (List Value) := (List.range i).map fun i : Nat => cB 1 ((i : Int) + 1) (i : Int)
theorem cBs_succ (i : Nat) : (cBs (i + 1)).flatten = (cBs i).flatten ++ cB 1 ((i : Int) + 1) (i : Int) := by simp [cBs, List.range_succ]
def chF (k : Nat) : Fn := ⟨⟨#[]⟩, false, 0, 0, chB k⟩
theorem eBlk_c (w : World) (fin a b : Int) : eBlk w ⟨[], [], fin, 0, a, b⟩ (cB fin a b) := ⟨_, _, rfl, RPhis_none w, RInsts_none w⟩
theorem ch_reads {w : World} {S : Nat → Prop} {v : Value} {k : Nat} (h : Ow w S 38 6 v (k + 1) ((cBs k).flatten ++ cB 2 0 0)) : RBlks w v (chB k) := by
  have e : (cBs k).flatten ++ cB 2 0 0 = (cBs k ++ [cB 2 0 0]).flatten := by simp
  rw [e] at h
  refine Ow.readsN (css := cBs k ++ [cB 2 0 0]) (by rw [chB_len]; exact h) (by simp [chB, cBs]) (fun cs hcs => ?_) (fun i hi => ?_)
  · rcases List.mem_append.1 hcs with hcs | hcs
    · obtain ⟨_, _, rfl⟩ := List.mem_map.1 hcs
      rfl
    · rw [List.mem_singleton.1 hcs]; rfl
  · by_cases hk : i < k
    · have e1 : (chB k)[i] = ⟨[], [], 1, 0, (i : Int) + 1, (i : Int)⟩ := by rw [← getElem!_pos (chB k) i hi, chB_get hk]
      have e2 : (cBs k ++ [cB 2 0 0])[i]'(by simp [cBs]; omega) = cB 1 ((i : Int) + 1) (i : Int) := by
        rw [List.getElem_append_left (by simpa [cBs] using hk)]
        simp [cBs]
      rw [e1, e2]
      exact eBlk_c _ _ _ _
    · obtain rfl : i = k := by rw [chB_len] at hi; omega
      have e1 : (chB i)[i] = ⟨[], [], 2, 0, 0, 0⟩ := by rw [← getElem!_pos (chB i) i hi, chB_last]
      have e2 : (cBs i ++ [cB 2 0 0])[i]'(by simp [cBs]) = cB 2 0 0 := by
        rw [List.getElem_append_right (by simp [cBs])]
        simp [cBs]
      rw [e1, e2]
      exact eBlk_c _ _ _ _

/-- A world in which the box of a function that was made stands, and what it reads. -/
structure InK (w5 : World) (bx : Nat) (F : Fn) (A : Option Addr) (c : Nat) (W : World) : Prop where
  keeps : Keeps w5 W (fun _ => False)
  obj : w5.heap[bx]? = some (.cells #[.string F.name, .bool F.weak, .int .i64 F.params, .int .i64 F.values, .slice A F.blocks.length c] 24 (0, 0))
  blks : RBlks w5 (.slice A F.blocks.length c) F.blocks
section
variable {w5 W W' : World} {bx : Nat} {F : Fn} {A : Option Addr} {c : Nat}
theorem InK.drew (h : InK w5 bx F A c W) : InK w5 bx F A c W.drew := ⟨h.keeps.drew, h.obj, h.blks⟩
theorem InK.below (h : InK w5 bx F A c W) (k : Below W.heap.size W W') : InK w5 bx F A c W' := ⟨h.keeps.trans (Keeps.of_below k (fun _ => False)) (fun _ _ hf => hf), h.obj, h.blks⟩
theorem InK.fn (h : InK w5 bx F A c W) : RFn W (fnV F (.slice A F.blocks.length c)) F := ⟨_, rfl, RBlks.below h.keeps.below0 h.blks⟩
abbrev InKS (w5 : World) (bx : Nat) (F : Fn) (A : Option Addr) (c : Nat) (W : World) : Prop :=
  InK w5 bx F A c W ∧ W.cell? ⟨bx, 0, none⟩ = some (.string F.name) ∧ W.cell? ⟨bx, 1, none⟩ = some (.bool F.weak) ∧ W.cell? ⟨bx, 2, none⟩ = some (.int .i64 F.params) ∧
    W.cell? ⟨bx, 3, none⟩ = some (.int .i64 F.values) ∧ W.cell? ⟨bx, 4, none⟩ = some (.slice A F.blocks.length c)
theorem InK.S (h : InK w5 bx F A c W) : InKS w5 bx F A c W := by
  have k := h.keeps.obj h.obj (fun hf => hf)
  exact ⟨h, obj_cell k 0, obj_cell k 1, obj_cell k 2, obj_cell k 3, obj_cell k 4⟩
theorem InKS.fn (h : InKS w5 bx F A c W) : RFn W (fnV F (.slice A F.blocks.length c)) F := h.1.fn
theorem InKS.below (h : InKS w5 bx F A c W) (k : Below W.heap.size W W') : InKS w5 bx F A c W' := (h.1.below k).S
theorem InKS.keeps (h : InKS w5 bx F A c W) : Keeps w5 W (fun _ => False) := h.1.keeps
end
def ChX (i : Nat) (w8 : World) (gg : Nat) (v9 : Value) (wr : World) : Prop :=
  ∃ j : Nat, v9 = .int .i64 j ∧ j ≤ i + 1 ∧ i + 1 - j ≤ gg ∧ Keeps w8 wr (fun _ => False)
def ChR (k : Nat) (w : World) (gg : Nat) (v5 : Value) (wr : World) : Prop :=
  ∃ (i : Nat) (A : Option Addr) (c : Nat), v5 = .int .i64 i ∧ i ≤ k ∧ k - i ≤ gg ∧ wr.heap[w.heap.size]? = some (.cells #[.string ⟨#[]⟩, .bool false, .int .i64 0, .int .i64 0, .slice A i c] 24 (0, 0)) ∧
    Ow wr (fun g => w.heap.size + 1 ≤ g) 38 6 (.slice A i c) i (cBs i).flatten ∧ Keeps w wr (fun _ => False)

set_option maxHeartbeats 4000000 in
set_option maxRecDepth 100000 in
theorem domChains_calls (n : Int) (w : World) (h0 : 0 ≤ n) (h1 : n < 256) : Calls Try.prog 7 #[.int .u8 n] w fun e w' => e = .returned (.bool true) ∧ Below w.heap.size w w' := by
  obtain ⟨k, hk⟩ : ∃ k : Nat, (k : Int) = 1 + n % 30 := ⟨(1 + n % 30).toNat, by omega⟩
  have hk31 : k ≤ 30 := by omega
  have HK := Hd.mk hk
  clear hk
  go_enter Try.func7, Try.ntmps7
  go_wp2
  rw [← HK.out]
  clear HK
  go_loopg [5] k (fun gg v5 wr => ChR k w gg v5 wr)
  case atStart =>
    refine ⟨0, none, 0, rfl, Nat.zero_le _, Nat.le_refl _, ?_, Ow.nil _ _ _ _, (Keeps.refl _ _).alloc _⟩
    exact obj_new rfl
  case round =>
    obtain ⟨i, A, c, rfl, hi, hgg, hO, hB, hK⟩ := hrel
    have b4 := obj_cell hO 4
    have f4 := obj_frozen hO 4
    simp only [List.getElem?_toArray, List.getElem?_cons_succ, List.getElem?_cons_zero] at b4
    have HO := Hd.mk hO
    have HB := Hd.mk hB
    have HKK := Hd.mk hK
    clear hO hB hK
    by_cases hlt : i < k
    · have hp : (i : Int) < (k : Int) := by omega
      go_wp2_with (at_builtin; refine append1s rfl (.tmp 21) (.tmp 26) 22 38 _ 6 80 rfl Try.underlying22 info_blk rfl (by omega) (.slice A i c) i (cBs i).flatten (cB 1 ((i : Int) + 1) (i : Int)) rfl HB.out _ _ rfl (by simp) rfl (by simp [cB, Value.oneCell']) (by omega) (by omega) _ rfl ?_; intro A2 c2 w2 hc2 ho2 hk2; have HB2 := Hd.mk ho2; have HO2 := Hd.mk (hk2.obj HO.out (by simp)); have HK2 := Hd.mk hk2; have b42 := obj_cell HO2.out 4; have f42 := obj_frozen HO2.out 4; simp only [List.getElem?_toArray, List.getElem?_cons_succ, List.getElem?_cons_zero] at b42; clear ho2 hk2)
      go_roundg (k - (i + 1))
      case measure => omega
      case rel =>
        refine ⟨i + 1, A2, c2, by go_num, hlt, Nat.le_refl _, ?_, ?_, ?_⟩
        · have := obj_set HO2.out 4 (.slice A2 (i + 1) c2)
          simpa using this
        · rw [cBs_succ]
          exact (HB2.out.keep (Keeps.set1 _ _ _) (fun g hg _ e => by simp at e; have := obj_lt HO.out; omega)).mono (fun g hg => by have := obj_lt HO.out; omega)
        · exact (HKK.out.trans HK2.out (fun g _ hg => by omega)).setCell (fun h => by simp at h) _
    · obtain rfl : i = k := by omega
      go_wp2_with (at_builtin; refine append1s rfl (.tmp 30) (.tmp 32) 22 38 _ 6 80 rfl Try.underlying22 info_blk rfl (by omega) (.slice A i c) i (cBs i).flatten (cB 2 0 0) rfl HB.out _ _ rfl (by simp) rfl (by simp [cB, Value.oneCell']) (by omega) (by omega) _ rfl ?_; intro A2 c2 w2 hc2 ho2 hk2; have HB2 := Hd.mk ho2; have HO2 := Hd.mk (hk2.obj HO.out (by simp)); have HK2 := Hd.mk hk2; have b42 := obj_cell HO2.out 4; have f42 := obj_frozen HO2.out 4; simp only [List.getElem?_toArray, List.getElem?_cons_succ, List.getElem?_cons_zero] at b42; clear ho2 hk2)
      have HK5 : Hd (Keeps w (w2.setCell ⟨w.heap.size, 4, none⟩ (.slice A2 (i + 1) c2)) (fun _ => False)) := ⟨(HKK.out.trans HK2.out (fun g _ hg => by omega)).setCell (fun h => by simp at h) _⟩
      have HB5 : Hd (RBlks (w2.setCell ⟨w.heap.size, 4, none⟩ (.slice A2 (i + 1) c2)) (.slice A2 (i + 1) c2) (chB i)) := ⟨ch_reads (HB2.out.keep (Keeps.set1 _ _ _) (fun g hg _ e => by simp at e; have := obj_lt HO.out; omega))⟩
      have HO5 : Hd ((w2.setCell ⟨w.heap.size, 4, none⟩ (.slice A2 (i + 1) c2)).heap[w.heap.size]? = some (.cells #[.string ⟨#[]⟩, .bool false, .int .i64 0, .int .i64 0, .slice A2 (i + 1) c2] 24 (0, 0))) := ⟨by
        have := obj_set HO2.out 4 (.slice A2 (i + 1) c2)
        simpa using this⟩
      clear b42 f42 b4 f4 HO2 HB2 HK2 HO HB HKK
      generalize w2.setCell ⟨w.heap.size, 4, none⟩ (.slice A2 (i + 1) c2) = w5 at *
      obtain ⟨F, hF⟩ : ∃ F, F = chF i := ⟨_, rfl⟩
      have hlen : F.blocks.length = i + 1 := by rw [hF]; exact chB_len i
      have hI : InK w5 w.heap.size F A2 c2 w5 := ⟨Keeps.refl _ _, by rw [hlen, hF]; exact HO5.out, by rw [hlen, hF]; exact HB5.out⟩
      have HF := Hd.mk hF
      clear hF
      have hS := hI.S
      clear HO5 HB5
      have hn2 : F.blocks.length ≤ 1000000 := by rw [hlen]; omega
      have HLN := Hd.mk hlen
      clear hlen
      go_region_held3 (fun w' => InK w5 w.heap.size F A2 c2 w' ∧ w'.cell? ⟨w.heap.size, 0, none⟩ = some (.string F.name) ∧ w'.cell? ⟨w.heap.size, 1, none⟩ = some (.bool F.weak) ∧ w'.cell? ⟨w.heap.size, 2, none⟩ = some (.int .i64 F.params) ∧ w'.cell? ⟨w.heap.size, 3, none⟩ = some (.int .i64 F.values) ∧ w'.cell? ⟨w.heap.size, 4, none⟩ = some (.slice A2 F.blocks.length c2))
        (first | exact InK.S (by assumption) | exact InK.S (InK.drew (by assumption)) | assumption)
        (first
          | (go_at_call 24; refine (dAbove F _ _ (InKS.fn (by assumption)) hn2).mono ?_; rintro e w6 ⟨v6, rfl, r6, hk⟩; have hI6 := InKS.below (by assumption) hk; obtain ⟨A6, c6, rfl, _, _⟩ := RL.form r6; have R6 := Hd.mk r6; clear r6 hk)
          | (go_at_call 27; refine (dEdge F _ _ (InKS.fn (by assumption)) hn2).mono ?_; rintro e w7 ⟨v7, rfl, r7, hk⟩; have hI7 := InKS.below (by assumption) hk; obtain ⟨A7, c7, rfl, _, _⟩ := RL.form r7; have R7 := Hd.mk r7; have R6' := Hd.mk (R6.out.later (Keeps.belowF hk)); clear r7 hk)
          | (go_at_call 22; refine (dOrder F _ _ (InKS.fn (by assumption)) hn2).mono ?_; rintro e w8 ⟨v8, L, rfl, hL, ho, hk⟩; have hI8 := InKS.below (by assumption) hk; have HL := Hd.mk hL; have r8 := ho.reads; obtain ⟨A8, c8, rfl, _, _⟩ := RL.form r8; have R8 := Hd.mk r8; have R6s := Hd.mk (R6'.out.later (Keeps.belowF hk)); have R7s := Hd.mk (R7.out.later (Keeps.belowF hk)); clear hL ho r8 hk))
      have hK8 := InKS.keeps (show InKS w5 w.heap.size F A2 c2 w8 from hI8)
      have HK8 := Hd.mk (HK5.out.trans hK8 (fun _ _ hf => hf))
      have hL := ch_ord (k := i) (by have := HL.out; rw [HF.out] at this; exact this)
      have l6 : (aboveR (overB F.blocks) F.blocks.length).length = F.blocks.length := by simp [aboveR]
      have l7 : (edgeR (overB F.blocks) F.blocks F.blocks.length).length = F.blocks.length := by simp [edgeR]
      have l8 : (ints L).length = F.blocks.length := by rw [hL, HLN.out]; simp [ints]
      have a6 : aboveR (overB F.blocks) F.blocks.length = (List.range (i + 1)).map fun i : Nat => (i : Int) - 1 := by rw [HLN.out, HF.out]; exact ch_above i
      have a7 : edgeR (overB F.blocks) F.blocks F.blocks.length = (List.range (i + 1)).map fun b : Nat => if b < i then [(b : Int)] else [] := by rw [HLN.out, HF.out]; exact ch_edge i
      have HR6 := Hd.mk (show RInts w8 (.slice A6 F.blocks.length c6) ((List.range (i + 1)).map fun i : Nat => (i : Int) - 1) by have := R6s.out; rw [l6, a6] at this; exact this)
      have HR7 := Hd.mk (show RIntss w8 (.slice A7 F.blocks.length c7) ((List.range (i + 1)).map fun b : Nat => if b < i then [(b : Int)] else []) by have := R7s.out; rw [l7, a7] at this; exact this)
      have HR8 := Hd.mk (show RInts w8 (.slice A8 F.blocks.length c8) ((List.range (i + 1)).map fun i : Nat => (i : Int)) by have := R8.out; rw [l8, hL] at this; exact this)
      rw [l6, l7, l8]
      clear l6 l7 l8 a6 a7 R6s R7s R8 R6 R6' R7 hL HL hK8 hI8 hI7 hI6 hI hS
      have t1 : ((F.blocks.length : Int) != (i : Int) + 1) = false := by rw [HLN.out]; simp
      go_wp2
      go_loopg [9] (i + 1) (fun gg v9 wr => ChX i w8 gg v9 wr)
      case atStart => exact ⟨0, rfl, Nat.zero_le _, Nat.le_refl _, Keeps.refl _ _⟩
      case round =>
        clear t1
        obtain ⟨j, rfl, hj, hgg2, hK⟩ := hrel
        have HK9 := Hd.mk hK
        clear hK
        obtain ⟨wa, rfl⟩ : ∃ wa, wa = wr := ⟨_, rfl⟩
        by_cases hle : j ≤ i
        · have hFl : i + 1 = F.blocks.length := HLN.out.symm
          obtain ⟨b6, o6, rfl⟩ := RL.ptr HR6.out (by simp)
          have c6j := RInts.at HR6.out j (by simp; omega)
          rw [List.getElem_map, List.getElem_range] at c6j
          have c6j := HK9.out.cell c6j (fun hf => hf)
          obtain ⟨b8, o8, rfl⟩ := RL.ptr HR8.out (by simp)
          have c8j := RInts.at HR8.out j (by simp; omega)
          rw [List.getElem_map, List.getElem_range] at c8j
          have c8j := HK9.out.cell c8j (fun hf => hf)
          obtain ⟨b7, o7, rfl⟩ := RL.ptr HR7.out (by simp)
          obtain ⟨u, c7j, ru⟩ := ints_read (RIntss.below HK9.out.below0 HR7.out) (i := j) (by simp; omega)
          rw [List.getElem_map, List.getElem_range] at ru
          have hp : (j : Int) < (F.blocks.length : Int) := by omega
          have hp2 : (0 : Int) ≤ (j : Int) := by omega
          have hp3 : (j : Int) ≤ (i : Int) := by omega
          have t2 : ((j : Int) - 1 != (j : Int) - 1) = false := by simp
          have t3 : ((j : Int) != (j : Int)) = false := by simp
          clear hFl
          by_cases hji : j < i
          · rw [if_pos hji] at ru
            obtain ⟨Au, cu, rfl, _, _⟩ := RL.form ru
            have RU := Hd.mk ru
            have t4 : ((j : Int) == (i : Int)) = false := by simp; omega
            have t5 : decide ((j : Int) < (i : Int)) = true := by simp; omega
            clear ru
            have HS := Hd.mk (SameInts_calls (RInts.below ((Keeps.refl wa (fun _ => False)).alloc (.cells #[.int .i64 (j : Int)] 3)).below0 RU.out) (ints_new (W := wa) (xs := [(j : Int)]) rfl rfl (by simp)))
            rw [decide_eq_true rfl] at HS
            go_wp2_with fail
            refine HS.out.mono ?_
            rintro e w9 ⟨rfl, n9, rfl⟩
            go_wp2
            go_roundg (i + 1 - (j + 1))
            case measure => omega
            case rel => exact ⟨j + 1, by go_num, by omega, Nat.le_refl _, (HK9.out.alloc _).drewN _⟩
          · obtain rfl : j = i := by omega
            rw [if_neg hji] at ru
            obtain ⟨Au, cu, rfl, _, _⟩ := RL.form ru
            have t4 : ((j : Int) == (j : Int)) = true := by simp
            have t5 : decide ((j : Int) < (j : Int)) = false := by simp
            clear ru hji
            go_wp2
            go_roundg (j + 1 - (j + 1))
            case measure => omega
            case rel => exact ⟨j + 1, by go_num, by omega, Nat.le_refl _, HK9.out⟩
        · have hp : ¬ ((j : Int) ≤ (i : Int)) := by omega
          go_wp2_with fail
          refine (awake_calls _).mono ?_
          rintro e w9 ⟨rfl, hk9⟩
          have HKZ := Hd.mk ((HK8.out.trans HK9.out (fun _ _ hf => hf)).trans (Keeps.of_below hk9 (fun _ => False)) (fun _ _ hf => hf))
          clear hk9
          go_wp2
          go_ret
          exact ⟨rfl, HKZ.out.below0⟩
end Go.Proofs.Ytggbeehnmconmaa
