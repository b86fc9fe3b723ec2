/- The document's answers: Edge. -/
import Derived.Test.YtggbeehnmconmaaRef6
namespace Go.Proofs.Ytggbeehnmconmaa
open Go.RowKit

def edgeTo (over : Nat → Nat → Bool) (bs : List Blk) (b y : Nat) : List Int := ((List.range y).filter fun y => edgeC over bs b y).map fun y : Nat => (y : Int)
def edgeRows (over : Nat → Nat → Bool) (bs : List Blk) (k : Nat) : List (List Int) := (List.range k).map fun b => edgeTo over bs b bs.length
theorem edgeRows_len (over : Nat → Nat → Bool) (bs : List Blk) (k : Nat) : (edgeRows over bs k).length = k := by simp [edgeRows]
theorem edgeRows_succ (over : Nat → Nat → Bool) (bs : List Blk) (k : Nat) : edgeRows over bs (k + 1) = edgeRows over bs k ++ [edgeTo over bs k bs.length] := by simp [edgeRows, List.range_succ]
theorem edgeTo_succ (over : Nat → Nat → Bool) (bs : List Blk) (b y : Nat) : edgeTo over bs b (y + 1) = edgeTo over bs b y ++ (if edgeC over bs b y = true then [(y : Int)] else []) := by
  unfold edgeTo
  rw [List.range_succ, List.filter_append, List.map_append]
  congr 1
  cases h : edgeC over bs b y <;> simp [h]
theorem edgeTo_len (over : Nat → Nat → Bool) (bs : List Blk) (b y : Nat) : (edgeTo over bs b y).length ≤ y := by
  unfold edgeTo
  rw [List.length_map]
  exact Nat.le_trans (List.length_filter_le _ _) (by simp)
def anyTo (over : Nat → Nat → Bool) (b : Nat) (s : List Int) (k : Nat) : Bool := (s.take k).any fun s => over b s.toNat
theorem anyTo_succ (over : Nat → Nat → Bool) (b : Nat) {s : List Int} {k : Nat} (h : k < s.length) : anyTo over b s (k + 1) = (anyTo over b s k || over b s[k].toNat) := by
  rw [anyTo, List.take_succ_eq_append_getElem h, List.any_append]
  simp [anyTo]
theorem edgeC_any (over : Nat → Nat → Bool) (bs : List Blk) (b y : Nat) : edgeC over bs b y = (anyTo over b (src bs (y : Int)) (src bs (y : Int)).length && (decide (y = b) || !over b y)) := by
  rw [anyTo, List.take_length]
  rfl

def EgA (bs : List Blk) (w1 : World) (gg : Nat) (v4 v5 : Value) (wr : World) : Prop :=
  ∃ b : Nat, v5 = .int .i64 b ∧ b ≤ bs.length ∧ bs.length - b ≤ gg ∧ OII wr (fun g => w1.heap.size ≤ g) v4 (edgeRows (overB bs) bs b) ∧ Keeps w1 wr (fun _ => False)
def EgB (bs : List Blk) (wa : World) (b gg : Nat) (v6 v7 : Value) (wr : World) : Prop :=
  ∃ y : Nat, v7 = .int .i64 y ∧ y ≤ bs.length ∧ bs.length - y ≤ gg ∧ OI wr (fun g => wa.heap.size ≤ g) v6 (edgeTo (overB bs) bs b y) ∧ Keeps wa wr (fun _ => False)
def EgC (bs : List Blk) (w2 : World) (b y gg : Nat) (v9 v10 : Value) (wr : World) : Prop :=
  ∃ k q : Nat, v10 = .int .i64 k ∧ k ≤ (src bs (y : Int)).length ∧ (src bs (y : Int)).length - k ≤ gg ∧ v9 = .bool (anyTo (overB bs) b (src bs (y : Int)) k) ∧ wr = w2.drewN q

set_option maxHeartbeats 4000000 in
set_option maxRecDepth 100000 in
theorem rEdge_calls (F : Fn) (v : Value) (w : World) (h : RFn w v F) (hn : F.blocks.length ≤ 1000000) :
    Calls Try.prog 28 #[v] w fun e w' => ∃ v', e = .returned v' ∧ OII w' (fun g => w.heap.size ≤ g) v' (edgeRows (overB F.blocks) F.blocks F.blocks.length) ∧ Below w.heap.size w w' := by
  obtain ⟨vb, rfl, hb⟩ := h
  unfold fnV
  obtain ⟨A, c, rfl, hc, hl⟩ := RL.form hb
  have HR : Hd (RBlks w (.slice A F.blocks.length c) F.blocks) := ⟨hb⟩
  have HWK := Hd.mk (Over_calls F _ (boxFn w F A c) ⟨_, rfl, RBlks.below ((Keeps.refl w fun _ => False).alloc _).below0 hb⟩ hn)
  clear hb
  go_enter Try.func28, Try.ntmps28
  go_wp2_with fail
  refine HWK.out.mono ?_
  rintro e w1 ⟨v3, rfl, h3, hk⟩
  have hk1 : Keeps (boxFn w F A c) w1 (fun _ => False) := Keeps.of_below hk _
  have hs1 := hk1.size
  have hsb : w.heap.size + 1 ≤ w1.heap.size := by simpa using hs1
  obtain ⟨A3, c3, rfl, _, _⟩ := h3.form
  have H3 := Hd.mk (OBB.reads h3)
  have HK1 := Hd.mk hk1
  obtain ⟨q0, q1, q2, q3, q4⟩ := box_cells hk1 (fun hf => hf)
  rw [overRows_len] at H3
  rw [overRows_len]
  clear h3 hk hk1 hs1 HWK
  go_wp2
  go_loopg [4, 5] F.blocks.length (fun gg v4 v5 wr => EgA F.blocks w1 gg v4 v5 wr)
  case atStart => exact ⟨0, rfl, Nat.zero_le _, Nat.le_refl _, ONN.nil _ _, Keeps.refl _ _⟩
  case round =>
    obtain ⟨b, rfl, hb, hgg, hO, hK⟩ := hrel
    obtain ⟨wa, rfl⟩ : ∃ wa, wa = wr := ⟨_, rfl⟩
    have HO := Hd.mk hO
    have HK := Hd.mk hK
    obtain ⟨A4, c4, rfl, _, _⟩ := hO.form
    clear hO hK q0 q1 q2 q3 q4
    obtain ⟨q0, q1, q2, q3, q4⟩ := box_cells (HK1.out.trans HK.out (fun _ _ hf => hf)) (fun hf => hf)
    rw [edgeRows_len] at HO
    rw [edgeRows_len]
    have hsr : w1.heap.size ≤ wa.heap.size := HK.out.size
    have hwr : w.heap.size < wa.heap.size := by omega
    by_cases hlt : b < F.blocks.length
    · obtain ⟨g3, o3, rfl⟩ := RL.ptr H3.out (by rw [overRows_len]; omega)
      have hdk : decide ((b : Int) < (F.blocks.length : Int)) = true := decide_eq_true (by omega)
      go_wp2
      go_loopg [6, 7] F.blocks.length (fun gg v6 v7 wq => EgB F.blocks wa b gg v6 v7 wq)
      case atStart => exact ⟨0, rfl, Nat.zero_le _, Nat.le_refl _, Ow.nil _ _ _ _, Keeps.refl _ _⟩
      case round =>
        obtain ⟨y, rfl, hy, hgg2, hL, hKq⟩ := hrel
        obtain ⟨wc, rfl⟩ : ∃ wc, wc = wr := ⟨_, rfl⟩
        have HL := Hd.mk hL
        have HKq := Hd.mk hKq
        obtain ⟨A6, c6, rfl, _, _⟩ := Ow.form hL
        clear hL hKq q0 q1 q2 q3 q4
        have hKK : Keeps (boxFn w F A c) wc (fun _ => False) := (HK1.out.trans HK.out (fun _ _ hf => hf)).trans HKq.out (fun _ _ hf => hf)
        obtain ⟨q0, q1, q2, q3, q4⟩ := box_cells hKK (fun hf => hf)
        have hsq : wa.heap.size ≤ wc.heap.size := HKq.out.size
        by_cases hyl : y < F.blocks.length
        · have HS := Hd.mk (rSources_calls F _ (y : Int) wc ⟨_, rfl, RBlks.below (((Keeps.refl w fun _ => False).alloc _).trans hKK (fun _ _ hf => hf)).below0 HR.out⟩ hn)
          clear hKK
          go_wp2_with fail
          refine HS.out.mono ?_
          rintro e w2 ⟨v8, rfl, h8, hk2⟩
          have hk2' : Keeps wc w2 (fun _ => False) := Keeps.of_below hk2 _
          have H8 := Hd.mk h8.reads
          have HK2 := Hd.mk hk2'
          have hs2 : wc.heap.size ≤ w2.heap.size := hk2'.size
          have H32 := Hd.mk (RBoolss.below ((HK.out.trans HKq.out (fun _ _ hf => hf)).trans hk2' (fun _ _ hf => hf)).below0 H3.out)
          obtain ⟨A8, c8, rfl, _, _⟩ := Ow.form h8
          have HL2 := Hd.mk (OI.keep HL.out hk2' (fun _ _ _ hf => hf))
          clear HS h8 hk2 hk2' HL
          have hdk2 : decide ((y : Int) < (F.blocks.length : Int)) = true := decide_eq_true (by omega)
          go_wp2
          go_loopg [9, 10] (src F.blocks (y : Int)).length (fun gg v9 v10 wq => EgC F.blocks w2 b y gg v9 v10 wq)
          case atStart => exact ⟨0, 0, rfl, Nat.zero_le _, Nat.le_refl _, rfl, rfl⟩
          case round =>
            obtain ⟨k, q, rfl, hk, hgg3, rfl, rfl⟩ := hrel
            by_cases hkl : k < (src F.blocks (y : Int)).length
            · obtain ⟨g8, o8, rfl⟩ := RL.ptr H8.out (by omega)
              have ck := H8.out.at k hkl
              obtain ⟨s, hs, hsn, _⟩ : ∃ s : Nat, (src F.blocks (y : Int))[k] = (s : Int) ∧ s < F.blocks.length ∧ y ∈ tg F.blocks s := mem_src.1 (List.getElem_mem hkl)
              have HA := Hd.mk (anyTo_succ (overB F.blocks) b hkl)
              rw [hs, Int.toNat_natCast] at HA
              rw [hs] at ck
              obtain ⟨p1, r1, cc1, e1, e2⟩ := over_read H32.out hlt hsn
              have hkd : (k : Int) < ((src F.blocks (y : Int)).length : Int) := by omega
              have hsd : (s : Int) < (F.blocks.length : Int) := by omega
              have hbd : (b : Int) < (F.blocks.length : Int) := by omega
              clear hs
              obtain ⟨z, hz⟩ : ∃ z, anyTo (overB F.blocks) b (src F.blocks (y : Int)) k = z := ⟨_, rfl⟩
              obtain ⟨z2, hz2⟩ : ∃ z2, overB F.blocks b s = z2 := ⟨_, rfl⟩
              rw [hz, hz2] at HA
              rw [hz2] at e2
              rw [hz]
              clear hz hz2
              cases z with
              | true =>
                go_wp2
                go_quiet (fail)
                go_wp2
                go_roundg ((src F.blocks (y : Int)).length - (k + 1))
                case measure => omega
                case rel => exact ⟨k + 1, q + nq, by go_num, hkl, Nat.le_refl _, by rw [HA.out]; rfl, rfl⟩
              | false =>
                go_wp2
                go_quiet (fail)
                go_wp2
                go_roundg ((src F.blocks (y : Int)).length - (k + 1))
                case measure => omega
                case rel => exact ⟨k + 1, q + nq, by go_num, hkl, Nat.le_refl _, by rw [HA.out]; rfl, rfl⟩
            · obtain rfl : k = (src F.blocks (y : Int)).length := by omega
              have hC := edgeC_any (overB F.blocks) F.blocks b y
              obtain ⟨z, hz⟩ : ∃ z, anyTo (overB F.blocks) b (src F.blocks (y : Int)) (src F.blocks (y : Int)).length = z := ⟨_, rfl⟩
              rw [hz] at hC ⊢
              have hlb : (edgeTo (overB F.blocks) F.blocks b y).length ≤ 1000000 := by have := edgeTo_len (overB F.blocks) F.blocks b y; omega
              have HLq := Hd.mk (OI.keep HL2.out ((Keeps.refl w2 (fun _ => False)).drewN q) (fun _ _ _ hf => hf))
              clear hz
              cases z with
              | false =>
                have HC : Hd (edgeC (overB F.blocks) F.blocks b y = false) := ⟨hC⟩
                clear hC
                go_wp2
                go_roundg (F.blocks.length - (y + 1))
                case measure => omega
                case rel =>
                  refine ⟨y + 1, by go_num, hyl, Nat.le_refl _, ?_, (HKq.out.trans HK2.out (fun _ _ hf => hf)).drewN q⟩
                  rw [edgeTo_succ, if_neg (by rw [HC.out]; exact Bool.false_ne_true), List.append_nil]
                  exact HLq.out
              | true =>
                rw [Bool.true_and] at hC
                by_cases hyb : y = b
                · have HC : Hd (edgeC (overB F.blocks) F.blocks b y = true) := ⟨by rw [hC, decide_eq_true hyb]; rfl⟩
                  have hyb' : ((y : Int) == (b : Int)) = true := by simp [hyb]
                  have HYB := Hd.mk hyb
                  clear hC hyb
                  go_wp2_with (at_builtin; refine append_int rfl (.tmp 65) (.tmp 67) rfl _ (edgeTo (overB F.blocks) F.blocks b y) (y : Int) rfl HLq.out _ _ rfl (by simp) hlb ?_; intro A9 c9 w9 hc9 ho9 hk9; have HO9 := Hd.mk ho9; have HK9 := Hd.mk hk9; clear ho9 hk9)
                  go_roundg (F.blocks.length - (y + 1))
                  case measure => omega
                  case rel =>
                    refine ⟨y + 1, by go_num, hyl, Nat.le_refl _, ?_, ((HKq.out.trans HK2.out (fun _ _ hf => hf)).drewN q).trans HK9.out (fun g hg h => by omega)⟩
                    rw [edgeTo_succ, if_pos HC.out]
                    exact HO9.out.mono (fun g hg => hg.elim id (fun h => by simp at h; omega))
                · have hyb' : ((y : Int) == (b : Int)) = false := by simpa using fun h => hyb (by omega)
                  rw [decide_eq_false hyb, Bool.false_or] at hC
                  have HYB := Hd.mk hyb
                  obtain ⟨p1, r1, cc1, e1, e2⟩ := over_read H32.out hlt hyl
                  cases hov : overB F.blocks b y with
                  | true =>
                    rw [hov] at e2 hC
                    have HC : Hd (edgeC (overB F.blocks) F.blocks b y = false) := ⟨hC⟩
                    clear hC hov hyb
                    go_wp2
                    go_roundg (F.blocks.length - (y + 1))
                    case measure => omega
                    case rel =>
                      refine ⟨y + 1, by go_num, hyl, Nat.le_refl _, ?_, (HKq.out.trans HK2.out (fun _ _ hf => hf)).drewN q⟩
                      rw [edgeTo_succ, if_neg (by rw [HC.out]; exact Bool.false_ne_true), List.append_nil]
                      exact HLq.out
                  | false =>
                    rw [hov] at e2 hC
                    have HC : Hd (edgeC (overB F.blocks) F.blocks b y = true) := ⟨hC⟩
                    clear hC hov hyb
                    go_wp2_with (at_builtin; refine append_int rfl (.tmp 65) (.tmp 67) rfl _ (edgeTo (overB F.blocks) F.blocks b y) (y : Int) rfl HLq.out _ _ rfl (by simp) hlb ?_; intro A9 c9 w9 hc9 ho9 hk9; have HO9 := Hd.mk ho9; have HK9 := Hd.mk hk9; clear ho9 hk9)
                    go_roundg (F.blocks.length - (y + 1))
                    case measure => omega
                    case rel =>
                      refine ⟨y + 1, by go_num, hyl, Nat.le_refl _, ?_, ((HKq.out.trans HK2.out (fun _ _ hf => hf)).drewN q).trans HK9.out (fun g hg h => by omega)⟩
                      rw [edgeTo_succ, if_pos HC.out]
                      exact HO9.out.mono (fun g hg => hg.elim id (fun h => by simp at h; omega))
        · obtain rfl : y = F.blocks.length := by omega
          obtain ⟨vs, hv, hfin⟩ := ONN.snoc (by decide) (HO.out.keep HKq.out (fun _ _ _ hf => hf)) (Ow.mono HL.out (T := fun g => w1.heap.size ≤ g) (fun g hg => by omega))
          rw [edgeRows_len] at hv hfin
          have HV := Hd.mk hv
          have HFIN := Hd.mk hfin
          clear hv hfin
          go_wp2_with (at_builtin; refine append1 rfl (.tmp 69) (.tmp 71) 31 27 (.slice none 0 0) 1 24 rfl Try.underlying31 info_ints rfl (by omega) _ b vs [.slice A6 (edgeTo (overB F.blocks) F.blocks b F.blocks.length).length c6] rfl HV.out _ _ rfl (by simp) rfl (by simp [Value.oneCell']) (by omega) (by omega) _ rfl ?_; intro v9 w9 ho9 hk9; obtain ⟨A9, c9, rfl, _, _⟩ := Ow.form ho9; have HO9 := Hd.mk ho9; have HK9 := Hd.mk hk9; clear ho9 hk9)
          go_roundg (F.blocks.length - (b + 1))
          case measure => omega
          case rel =>
            refine ⟨b + 1, by go_num, hlt, Nat.le_refl _, ?_, ?_⟩
            · rw [edgeRows_succ]
              exact (HFIN.out _ _ HO9.out HK9.out).mono (T := fun g => w1.heap.size ≤ g) (fun g hg => hg.elim id (fun h => by omega))
            · exact (HK.out.trans HKq.out (fun _ _ hf => hf)).trans HK9.out (fun g hg hs => by have := hs.1; omega)
    · obtain rfl : b = F.blocks.length := by omega
      go_wp2
      go_ret
      exact ⟨_, rfl, HO.out.mono (fun g hg => by omega), ((((Keeps.refl w fun _ => False).alloc _).trans HK1.out (fun _ _ hf => hf)).trans HK.out (fun _ _ hf => hf)).below0⟩
end Go.Proofs.Ytggbeehnmconmaa
