/- The program's dom: tree. -/
import Derived.Test.YtggbeehnmconmaaDom6
import Derived.Test.YtggbeehnmconmaaOrdP
namespace Go.Proofs.Ytggbeehnmconmaa
open Go.RowKit T

def fillM (n k : Nat) : List Int := List.replicate k (-1) ++ List.replicate (n - k) 0
theorem fillM_len {n k : Nat} (h : k ≤ n) : (fillM n k).length = n := by simp [fillM]; omega
theorem fillM_set {n k : Nat} (h : k < n) : (fillM n k).set k (-1) = fillM n (k + 1) := by
  unfold fillM
  rw [List.set_append_right _ _ (by simp)]
  obtain ⟨d, hd⟩ : ∃ d, n - k = d + 1 := ⟨n - k - 1, by omega⟩
  rw [hd, List.replicate_succ, show n - (k + 1) = d by omega]
  simp [List.replicate_succ']
theorem fillM_end (n : Nat) : fillM n n = List.replicate n (-1) := by simp [fillM]
theorem OI.set {w : World} {S : Nat → Prop} {g m c : Nat} {xs : List Int} (h : OI w S (.slice (some ⟨g, 0, none⟩) m c) xs) (i : Nat) (x : Int) : OI (w.setCell ⟨g, i, none⟩ (.int .i64 x)) S (.slice (some ⟨g, 0, none⟩) m c) (xs.set i x) := by
  have := Ow.set h i (.int .i64 x)
  unfold OI
  rw [List.length_set, nI, List.map_set]
  exact this
theorem OI.at {w : World} {S : Nat → Prop} {g m c : Nat} {xs : List Int} (h : OI w S (.slice (some ⟨g, 0, none⟩) m c) xs) (i : Nat) (hi : i < xs.length) : w.cell? ⟨g, i, none⟩ = some (.int .i64 xs[i]) :=
  Ow.cell h i _ (by rw [nI, List.getElem?_map, List.getElem?_eq_getElem hi]; rfl)

/-- The two lists and their boxes. -/
structure Boxes (w1 wr : World) (n : Nat) (xs ys : List Int) : Prop where
  at_ : OI wr (fun g => g = w1.heap.size) (.slice (some ⟨w1.heap.size, 0, none⟩) n n) xs
  ab : OI wr (fun g => g = w1.heap.size + 1 + 1) (.slice (some ⟨w1.heap.size + 1 + 1, 0, none⟩) n n) ys
  c1 : wr.cell? ⟨w1.heap.size + 1, 0, none⟩ = some (.slice (some ⟨w1.heap.size, 0, none⟩) n n)
  c3 : wr.cell? ⟨w1.heap.size + 1 + 1 + 1, 0, none⟩ = some (.slice (some ⟨w1.heap.size + 1 + 1, 0, none⟩) n n)
  size : w1.heap.size + 4 ≤ wr.heap.size
  keeps : Keeps w1 wr (fun _ => False)
section
variable {w1 wr w2 : World} {n : Nat} {xs ys : List Int}
theorem Boxes.at_set (h : Boxes w1 wr n xs ys) (i : Nat) (x : Int) : Boxes w1 (wr.setCell ⟨w1.heap.size, i, none⟩ (.int .i64 x)) n (xs.set i x) ys := by
  have hk : Keeps wr (wr.setCell ⟨w1.heap.size, i, none⟩ (.int .i64 x)) (fun g => g = w1.heap.size) := Keeps.set1 _ _ _
  exact ⟨h.at_.set i x, Ow.keep h.ab hk (fun g hg _ e => by omega), hk.cell h.c1 (by simp), hk.cell h.c3 (by simp; omega), by have := h.size; have := hk.size; omega, h.keeps.trans hk (fun i hi e => by omega)⟩
theorem Boxes.ab_set (h : Boxes w1 wr n xs ys) (i : Nat) (x : Int) : Boxes w1 (wr.setCell ⟨w1.heap.size + 1 + 1, i, none⟩ (.int .i64 x)) n xs (ys.set i x) := by
  have hk : Keeps wr (wr.setCell ⟨w1.heap.size + 1 + 1, i, none⟩ (.int .i64 x)) (fun g => g = w1.heap.size + 1 + 1) := Keeps.set1 _ _ _
  exact ⟨Ow.keep h.at_ hk (fun g hg _ e => by omega), h.ab.set i x, hk.cell h.c1 (by simp), hk.cell h.c3 (by simp), by have := h.size; have := hk.size; omega, h.keeps.trans hk (fun i hi e => by omega)⟩
theorem Boxes.later (h : Boxes w1 wr n xs ys) (hk : Keeps wr w2 (fun _ => False)) : Boxes w1 w2 n xs ys :=
  ⟨Ow.keep h.at_ hk (fun _ _ _ hf => hf), Ow.keep h.ab hk (fun _ _ _ hf => hf), hk.cell h.c1 (fun hf => hf), hk.cell h.c3 (fun hf => hf), by have := h.size; have := hk.size; omega, h.keeps.trans hk (fun _ _ hf => hf)⟩
end
theorem boxes_start (w1 : World) (n : Nat) (hn : n ≤ 1000000) : Boxes w1 ((((w1.alloc (.cells (madeCells #[.int .i64 0] n) 3)).alloc (.cells #[.slice (some ⟨w1.heap.size, 0, none⟩) n n] 27)).alloc (.cells (madeCells #[.int .i64 0] n) 3)).alloc
    (.cells #[.slice (some ⟨w1.heap.size + 1 + 1, 0, none⟩) n n] 27)) n (fillM n 0) (fillM n 0) := by
  have e : fillM n 0 = List.replicate n 0 := by simp [fillM]
  rw [e]
  refine ⟨?_, ?_, by go_simp, by go_simp, by simp, ((((Keeps.refl _ _).alloc _).alloc _).alloc _).alloc _⟩
  · unfold OI
    rw [List.length_replicate]
    refine Ow.of_obj (cap := n) (cur := madeCells #[.int .i64 0] n) ?_ rfl (Nat.le_refl _) (by omega) (by rw [size_madeCells, Nat.mul_one]) ?_
    · rw [Below.heap_alloc _ _ _ (by simp; omega), Below.heap_alloc _ _ _ (by simp; omega), Below.heap_alloc _ _ _ (by simp)]
      exact obj_new rfl
    · rw [toList_madeCells_one]; simp [nI]
  · unfold OI
    rw [List.length_replicate]
    refine Ow.of_obj (cap := n) (cur := madeCells #[.int .i64 0] n) ?_ rfl (Nat.le_refl _) (by omega) (by rw [size_madeCells, Nat.mul_one]) ?_
    · rw [Below.heap_alloc _ _ _ (by simp)]
      exact obj_new (by simp)
    · rw [toList_madeCells_one]; simp [nI]

def TreeA (w1 : World) (n gg : Nat) (v : Value) (wr : World) : Prop :=
  ∃ k : Nat, v = .int .i64 k ∧ k ≤ n ∧ n - k ≤ gg ∧ Boxes w1 wr n (fillM n k) (fillM n k)
def TreeB (w1 : World) (n : Nat) (L : List Nat) (gg : Nat) (v : Value) (wr : World) : Prop :=
  ∃ k : Nat, v = .int .i64 k ∧ k ≤ L.length ∧ L.length - k ≤ gg ∧ Boxes w1 wr n (atL n (L.take k)) (List.replicate n (-1))

def TreeC (bs : List Blk) (L : List Nat) (w1 w2 : World) (gg : Nat) (v12 : Value) (wr : World) : Prop :=
  ∃ par c turned, v12 = .bool turned ∧ Inv L.length (SL bs L) (ppL bs L) c 1 par ∧ (turned = false → c = L.length ∧ FixP bs L c par L.length) ∧ 2 * phi L.length par L.length + (bif turned then 1 else 0) ≤ gg ∧
    OI wr (fun g => g = w1.heap.size + 1 + 1) (.slice (some ⟨w1.heap.size + 1 + 1, 0, none⟩) bs.length bs.length) (abL bs.length L par) ∧ Keeps w2 wr (fun g => g = w1.heap.size + 1 + 1)
def TreeD (bs : List Blk) (L : List Nat) (w1 w2 : World) (p0 gg : Nat) (v12 v62 : Value) (wr : World) : Prop :=
  ∃ par c turned, ∃ k : Nat, v12 = .bool turned ∧ v62 = .int .i64 k ∧ k + 1 ≤ L.length ∧ L.length - (k + 1) ≤ gg ∧ Inv L.length (SL bs L) (ppL bs L) c (k + 1) par ∧ (turned = false → FixP bs L c par (k + 1)) ∧
    phi L.length par L.length + (bif turned then 1 else 0) ≤ p0 ∧
    OI wr (fun g => g = w1.heap.size + 1 + 1) (.slice (some ⟨w1.heap.size + 1 + 1, 0, none⟩) bs.length bs.length) (abL bs.length L par) ∧ Keeps w2 wr (fun g => g = w1.heap.size + 1 + 1)

/-- What the inner loops read, in a world of theirs. -/
structure TFacts (bs : List Blk) (L : List Nat) (w1 W : World) (par : Nat → Option Nat) : Prop where
  at_ : OI W (fun g => g = w1.heap.size) (.slice (some ⟨w1.heap.size, 0, none⟩) bs.length bs.length) (atL bs.length L)
  ab : OI W (fun g => g = w1.heap.size + 1 + 1) (.slice (some ⟨w1.heap.size + 1 + 1, 0, none⟩) bs.length bs.length) (abL bs.length L par)
  c1 : W.cell? ⟨w1.heap.size + 1, 0, none⟩ = some (.slice (some ⟨w1.heap.size, 0, none⟩) bs.length bs.length)
  c3 : W.cell? ⟨w1.heap.size + 1 + 1 + 1, 0, none⟩ = some (.slice (some ⟨w1.heap.size + 1 + 1, 0, none⟩) bs.length bs.length)
theorem TFacts.of {bs : List Blk} {L : List Nat} {w1 w2 W : World} {par : Nat → Option Nat} {ys : List Int} (h : Boxes w1 w2 bs.length (atL bs.length L) ys) (hk : Keeps w2 W (fun g => g = w1.heap.size + 1 + 1))
    (ha : OI W (fun g => g = w1.heap.size + 1 + 1) (.slice (some ⟨w1.heap.size + 1 + 1, 0, none⟩) bs.length bs.length) (abL bs.length L par)) : TFacts bs L w1 W par :=
  ⟨Ow.keep h.at_ hk (fun g hg _ e => by omega), ha, hk.cell h.c1 (by simp), hk.cell h.c3 (by simp)⟩
theorem TFacts.cells {bs : List Blk} {L : List Nat} {w1 W : World} {par : Nat → Option Nat} (h : TFacts bs L w1 W par) (b : Nat) (hb : b < bs.length) :
    W.cell? ⟨w1.heap.size, b, none⟩ = some (.int .i64 (atV L b)) ∧ W.cell? ⟨w1.heap.size + 1 + 1, b, none⟩ = some (.int .i64 (abV L par b)) ∧ W.frozen? ⟨w1.heap.size + 1 + 1, b, none⟩ = false := by
  refine ⟨?_, ?_, Ow.frozen h.ab b⟩
  · have := h.at_.at b (by rw [atL_len]; exact hb)
    rw [this]; simp [atL]
  · have := h.ab.at b (by rw [abL_len]; exact hb)
    rw [this]; simp [abL]
def TreeE (L : List Nat) (W : World) (par : Nat → Option Nat) (c : Nat) (l : List Int) (gg : Nat) (v15 v71 : Value) (wr : World) : Prop :=
  ∃ (p q : Nat) (to : Int), v15 = .int .i64 to ∧ v71 = .int .i64 p ∧ p ≤ l.length ∧ l.length - p ≤ gg ∧ ToR L par c (nums L (l.take p)) to ∧ wr = W.drewN q

set_option maxHeartbeats 4000000 in
set_option maxRecDepth 100000 in
theorem tree_calls (F : Fn) (v : Value) (w : World) (h : RFn w v F) (hn : F.blocks.length ≤ 1000000) (h0 : 0 < F.blocks.length) :
    Calls Try.prog 62 #[v] w fun e w' => ∃ v1 v2 L par, e = .returned (.tuple #[v1, v2]) ∧ TreeR F.blocks L par ∧ OI w' (fun g => w.heap.size ≤ g) v1 (abL F.blocks.length L par) ∧ OI w' (fun g => w.heap.size ≤ g) v2 (atL F.blocks.length L) ∧ Below w.heap.size w w' := by
  obtain ⟨vb, rfl, hb⟩ := h
  unfold fnV
  obtain ⟨A, c, rfl, hc, hl⟩ := RL.form hb
  have HR : Hd (RBlks w (.slice A F.blocks.length c) F.blocks) := ⟨hb⟩
  have hOc := Order_calls F _ (boxFn w F A c) ⟨_, rfl, RBlks.below ((Keeps.refl w fun _ => False).alloc _).below0 hb⟩ hn h0
  have HOC := Hd.mk hOc
  clear hb hOc
  have hmk := run_make_row' (P := Try.prog) 27 3 (.int .i64 0) 8 Try.underlying27 info_int rfl .i64 .i64 F.blocks.length (by omega) (by omega)
  go_enter Try.func62, Try.ntmps62
  go_wp2_with fail
  refine HOC.out.mono ?_
  rintro e w1 ⟨v4, m, out, rfl, hD, hO4, hk1⟩
  have hk1' : Keeps (boxFn w F A c) w1 (fun _ => False) := Keeps.of_below hk1 _
  have hs1 := hk1'.size
  obtain ⟨q0, q1, q2, q3, q4⟩ := box_cells hk1' (fun hf => hf)
  have hsb : w.heap.size < w1.heap.size := by simp at hs1; omega
  have HK1 := Hd.mk hk1'
  have HO4 := Hd.mk hO4
  have HL := Hd.mk (ord_of hD h0)
  obtain ⟨A4, c4, rfl, _, _⟩ := Ow.form hO4
  clear hk1' hk1 hO4 hD HOC hs1
  generalize out.reverse = L at *
  have hLl : (ints L).length = L.length := by simp [ints]
  rw [hLl] at HO4
  rw [hLl]
  go_wp2
  go_loopg [30] F.blocks.length (fun gg v30 wr => TreeA w1 F.blocks.length gg v30 wr)
  case atStart =>
    exact ⟨0, rfl, Nat.zero_le _, Nat.sub_le _ _, boxes_start w1 _ hn⟩
  case round =>
    clear hmk
    obtain ⟨k, rfl, hk, hgg, hB⟩ := hrel
    have b1 := hB.c1
    have b3 := hB.c3
    have HB := Hd.mk hB
    have hz := hB.size
    have hp : (k : Int) < (F.blocks.length : Int) ∨ k = F.blocks.length := by omega
    clear hB
    by_cases hlt : k < F.blocks.length
    · have a1 := HB.out.at_.at k (by rw [fillM_len (by omega)]; exact hlt)
      have a2 := HB.out.ab.at k (by rw [fillM_len (by omega)]; exact hlt)
      have f1 := Ow.frozen HB.out.at_ k
      have f2 := Ow.frozen HB.out.ab k
      obtain ⟨z1, hz1⟩ : ∃ z, (fillM F.blocks.length k)[k]'(by rw [fillM_len (by omega)]; exact hlt) = z := ⟨_, rfl⟩
      rw [hz1] at a1 a2
      clear hz1 hp
      go_wp2
      go_region
      all_goals
        go_wp2
        go_roundg (F.blocks.length - (k + 1))
        case measure => omega
        case rel =>
          refine ⟨k + 1, by go_num, hlt, Nat.le_refl _, ?_⟩
          rw [← fillM_set hlt]
          first
            | exact ((HB.out.at_set k (-1)).ab_set k (-1)).later ((Keeps.refl _ _).drew)
            | exact ((HB.out.ab_set k (-1)).at_set k (-1)).later ((Keeps.refl _ _).drew)
    · obtain rfl : k = F.blocks.length := by omega
      have hB2 := HB.out
      rw [fillM_end] at hB2
      have HB2 := Hd.mk hB2
      clear HB hB2 hp
      go_wp2
      have hLm : L.length ≤ F.blocks.length := nodup_length _ _ HL.out.nodup HL.out.lt
      go_loopg [42] L.length (fun gg v42 wr => TreeB w1 F.blocks.length L gg v42 wr)
      case atStart => exact ⟨0, rfl, Nat.zero_le _, Nat.sub_le _ _, by rw [List.take_zero, atL_nil]; exact HB2.out⟩
      case round =>
        clear HB2 b1 b3 hz
        obtain ⟨k, rfl, hk, hgg, hB⟩ := hrel
        have b1 := hB.c1
        have b3 := hB.c3
        have hz := hB.size
        have HB := Hd.mk hB
        clear hB
        by_cases hlt : k < L.length
        · have hO5 := Ow.keep HO4.out HB.out.keeps (fun _ _ _ hf => hf)
          obtain ⟨g4, rfl, _, _⟩ := Ow.ptr hO5 (by omega)
          have hlt' : k < (ints L).length := by omega
          have a4 := OI.at hO5 k hlt'
          rw [show (ints L)[k] = ((L[k] : Nat) : Int) by simp [ints]] at a4
          have hb := HL.out.lt _ (List.getElem_mem hlt)
          have a1 := HB.out.at_.at L[k] (by rw [atL_len]; exact hb)
          have f1 := Ow.frozen HB.out.at_ L[k]
          have hnd : L[k] ∉ L.take k := fun hm => by
            obtain ⟨i, hi, he⟩ := List.mem_iff_getElem.1 hm
            rw [List.getElem_take] at he
            rw [List.length_take] at hi
            exact (List.pairwise_iff_getElem.1 HL.out.nodup i k (by omega) hlt (by omega)) he
          have HS := Hd.mk (atL_snoc (n := F.blocks.length) hnd)
          have HTK : Hd (L.take (k + 1) = L.take k ++ [L[k]]) := ⟨by rw [List.take_add_one, List.getElem?_eq_getElem hlt]; rfl⟩
          have hlk : (L.take k).length = k := by rw [List.length_take]; omega
          obtain ⟨z1, hz1⟩ : ∃ z, (atL F.blocks.length (L.take k))[L[k]]'(by rw [atL_len]; exact hb) = z := ⟨_, rfl⟩
          rw [hz1] at a1
          clear hz1 hO5 hnd
          generalize hx : L[k] = x at *
          clear hx
          go_wp2
          go_roundg (L.length - (k + 1))
          case measure => omega
          case rel =>
            refine ⟨k + 1, by go_num, hlt, Nat.le_refl _, ?_⟩
            have h9 := HS.out
            rw [hlk] at h9
            rw [HTK.out, ← h9]
            exact HB.out.at_set x (k : Int)
        · obtain rfl : k = L.length := by omega
          have hB3 := HB.out
          rw [List.take_length] at hB3
          have HB3 := Hd.mk hB3
          have hkb : Keeps (boxFn w F A c) wr (fun _ => False) := HK1.out.trans hB3.keeps (fun _ _ hf => hf)
          obtain ⟨wr2, hwr2⟩ : ∃ wr2, wr2 = wr := ⟨_, rfl⟩
          subst hwr2
          obtain ⟨q0, q1, q2, q3, q4⟩ := box_cells hkb (fun hf => hf)
          have HAll := Hd.mk (All_calls F _ wr2 ⟨_, rfl, RBlks.below (((Keeps.refl w fun _ => False).alloc _).trans hkb (fun _ _ hf => hf)).below0 HR.out⟩ hn)
          clear hB3 HB hkb
          go_wp2_with fail
          refine HAll.out.mono ?_
          rintro e w2 ⟨v10, col, rfl, hS, hk2⟩
          have hk2' : Keeps wr2 w2 (fun _ => False) := Keeps.of_below hk2 _
          have HS2 := Hd.mk hS
          have HB4 := Hd.mk (HB3.out.later hk2')
          have HK2 := Hd.mk hk2'
          have hz2 : w1.heap.size + 4 ≤ wr2.heap.size := HB3.out.size
          clear hS hk2 hk2' HB3 HAll q0 q1 q2 q3 q4
          obtain ⟨A10, c10, rfl, _, _⟩ := OLL.form HS2.out
          have hL1 := HL.out.gr.pos
          have hmin := fun ats ty W => run_min (P := Try.prog) ats ty .i64 1 (L.length : Int) 1 (by rw [if_neg (by omega)]) W
          obtain ⟨A6, hcut, hA6⟩ := cut_ints A4 L.length c4 1 (by omega)
          have HO6 : Hd (OI w2 (fun g => g < w1.heap.size) (.slice A4 L.length c4) (ints L)) := ⟨Ow.keep ⟨HO4.out.1, fun g hg => Ow.lt HO4.out g hg⟩ HB4.out.keeps (fun _ _ _ hf => hf)⟩
          have hcut1 : ∀ W : World, (Instr.slice 27 (.slice A4 L.length c4) (some (.int .i64 1)) none none).run Try.prog W = .ok (.slice A6 (L.length - 1) (c4 - 1)) W := hcut
          have HA6 := Hd.mk hA6
          have hsS : (allS F.blocks).length = F.blocks.length := by simp [allS]
          rw [hsS] at HS2
          rw [hsS]
          clear hA6 hsS hcut
          go_wp2
          go_loopg [12] (2 * phi L.length (fun _ => none) L.length + 1) (fun gg v12 wr => TreeC F.blocks L w1 w2 gg v12 wr)
          case atStart => exact ⟨_, _, true, rfl, Inv.start HL.out.gr, by simp, Nat.le_refl _, by rw [abL_none]; exact HB4.out.ab, Keeps.refl _ _⟩
          case round =>
            obtain ⟨par, c0, turned, rfl, hI, hf, hgg3, hAb, hK⟩ := hrel
            have HI := Hd.mk hI
            have HF := Hd.mk hf
            have HAb := Hd.mk hAb
            have HK := Hd.mk hK
            clear hI hf hAb hK
            cases turned with
            | false =>
              obtain ⟨rfl, hfx⟩ := HF.out rfl
              have HFX := Hd.mk hfx
              have HTF := Hd.mk (TFacts.of HB4.out HK.out HAb.out)
              have hkw : Keeps w w2 (fun _ => False) := (((Keeps.refl w (fun _ => False)).alloc _).trans HK1.out (fun _ _ hf => hf)).trans HB4.out.keeps (fun _ _ hf => hf)
              have HKW := Hd.mk (hkw.trans HK.out (fun i hi e => by omega))
              clear hfx HF hkw
              have hb1 := (TFacts.of HB4.out HK.out HAb.out).c1
              have hb3 := (TFacts.of HB4.out HK.out HAb.out).c3
              clear hmin hcut1 b1 b3
              go_wp2
              go_quiet (fail)
              go_wp2
              go_ret2
              exact ⟨_, _, L, par, rfl, ⟨HL.out, 1, HI.out, HFX.out⟩, OI.keep (HTF.out.ab.mono (fun g hg => by omega)) ((Keeps.refl wr (fun _ => False)).drewN _) (fun _ _ _ hf => hf), OI.keep (HTF.out.at_.mono (fun g hg => by omega)) ((Keeps.refl wr (fun _ => False)).drewN _) (fun _ _ _ hf => hf), (HKW.out.drewN _).below0⟩
            | true =>
              simp only [cond_true] at hgg3
              go_wp2
              go_loopg [12, 62] (L.length - 1) (fun gg v12 v62 wr => TreeD F.blocks L w1 w2 (phi L.length par L.length) gg v12 v62 wr)
              case atStart => exact ⟨par, c0, false, 0, rfl, rfl, by omega, by omega, HI.out, fun _ i q hi hq => by have := HI.out.lt i q hq; omega, by simp, HAb.out, HK.out⟩
              case round =>
                clear HI HF HAb HK
                obtain ⟨par1, c1, turned, k, rfl, rfl, hk, hgg4, hI, hf, hphi, hAb, hK⟩ := hrel
                have HI := Hd.mk hI
                have HF := Hd.mk hf
                have HT := Hd.mk (TFacts.of HB4.out hK hAb)
                have HK := Hd.mk hK
                clear hI hf hAb hK
                clear hmin hcut1 b1 b3
                by_cases hlt : k + 1 < L.length
                · have hRT : RInts wr (.slice A6 (L.length - 1) (c4 - 1)) ((ints L).drop 1) := HA6.out wr (ints L) hLl (OI.keep HO6.out HK.out (fun g hg _ e => by omega)).reads
                  have hRl : ((ints L).drop 1).length = L.length - 1 := by rw [List.length_drop, hLl]
                  obtain ⟨b6, o6, rfl⟩ := RL.ptr hRT (by omega)
                  have hk1 : k < ((ints L).drop 1).length := by omega
                  have cL := hRT.at k hk1
                  rw [show ((ints L).drop 1)[k] = ((L[k + 1] : Nat) : Int) by simp [ints]] at cL
                  have hb := HL.out.lt _ (List.getElem_mem hlt)
                  have HLk : Hd (L.getD (k + 1) 0 = L[k + 1]) := ⟨by rw [List.getD_eq_getElem?_getD, List.getElem?_eq_getElem hlt]; rfl⟩
                  have hsz2 : wr2.heap.size ≤ w2.heap.size := HK2.out.size
                  have hS := HS2.out.keep HK.out (fun g hg _ e => by omega)
                  obtain ⟨g10, rfl, _, _⟩ := OLL.ptr hS (by simp [allS]; omega)
                  have hbl : L[k + 1] < (allS F.blocks).length := by simp [allS]; omega
                  obtain ⟨u, cu, hu⟩ := hS.at L[k + 1] hbl
                  rw [show (allS F.blocks)[L[k + 1]] = src F.blocks ((L[k + 1] : Nat) : Int) by simp [allS]] at hu
                  have hRu := hu.reads
                  obtain ⟨Au, cu2, rfl, _, hlu⟩ := RL.form hRu
                  obtain ⟨ca, cb, fb⟩ := HT.out.cells L[k + 1] hb
                  have HRu := Hd.mk hRu
                  have hb1 := HT.out.c1
                  have hb3 := HT.out.c3
                  clear hRT hRl hS hu hRu hk1
                  have HX := Hd.mk hlt
                  have hdk : decide (k < L.length - 1) = true := decide_eq_true (by omega)
                  generalize hx : L[k + 1] = x at *
                  have HX2 := Hd.mk hx
                  clear hx
                  go_wp2
                  go_loopg [15, 71] (src F.blocks (x : Int)).length (fun gg v15 v71 wq => TreeE L wr par1 c1 (src F.blocks (x : Int)) gg v15 v71 wq)
                  case atStart => exact ⟨0, 0, -1, rfl, rfl, Nat.zero_le _, Nat.sub_le _ _, .inl ⟨rfl, by simp [nums]⟩, rfl⟩
                  case round =>
                    obtain ⟨p, q, to, rfl, rfl, hp, hgg5, hto, rfl⟩ := hrel
                    have HTo := Hd.mk hto
                    clear hto
                    by_cases hlp : p < (src F.blocks (x : Int)).length
                    · obtain ⟨sn, hsn, hsl, _⟩ := mem_src.1 (List.getElem_mem hlp)
                      obtain ⟨bu, ou, rfl⟩ := RL.ptr HRu.out (by omega)
                      have cs := HRu.out.at p hlp
                      rw [hsn] at cs
                      have HTK : Hd (nums L ((src F.blocks (x : Int)).take (p + 1)) = nums L ((src F.blocks (x : Int)).take p) ++ nums L [(sn : Int)]) := ⟨by
                        rw [List.take_add_one, List.getElem?_eq_getElem hlp, hsn]
                        simp [nums, List.filterMap_append]⟩
                      obtain ⟨sa, sb, _⟩ := HT.out.cells sn hsl
                      have hrd := src_read HL.out HI.out sn hsl
                      clear hsn
                      rcases hrd with ⟨hn1, ha1⟩ | ⟨kk, hn1, ha1, hz1, hn2⟩
                      · have HN := Hd.mk (ToR.skip HTo.out (s := sn) (fun k hk => by rw [hn1] at hk; cases hk))
                        rw [ha1] at sa
                        clear ha1 hn1
                        go_wp2
                        go_roundg ((src F.blocks (x : Int)).length - (p + 1))
                        case measure => omega
                        case rel => exact ⟨p + 1, q, to, rfl, by go_num, hlp, Nat.le_refl _, by rw [HTK.out]; exact HN.out, rfl⟩
                      · have HN1 := Hd.mk hn1
                        rw [ha1] at sa
                        clear ha1 hn1
                        rcases hn2 with ⟨hk0, hb0⟩ | ⟨hk0, hb0⟩
                        · by_cases hk1 : kk = 0
                          · obtain rfl : sn = 0 := hz1.2 hk1
                            have hkc : kk < c1 := by have := HI.out.c1; omega
                            rw [show ((0 : Nat) : Int) = 0 from rfl] at cs
                            clear hb0 sb hk0 hz1 hk1
                            have hto2 : to = -1 ∨ ∃ t : Nat, to = (t : Int) := by
                              rcases HTo.out with ⟨h1, _⟩ | ⟨t, h1, _⟩
                              · exact .inl h1
                              · exact .inr ⟨_, h1⟩
                            rcases hto2 with rfl | ⟨t, rfl⟩
                            · have HN := Hd.mk (ToR.first HTo.out HN1.out hkc)
                              go_wp2
                              go_roundg ((src F.blocks (x : Int)).length - (p + 1))
                              case measure => omega
                              case rel => exact ⟨p + 1, q, 0, rfl, by go_num, hlp, Nat.le_refl _, by rw [HTK.out]; exact HN.out, rfl⟩
                            · obtain ⟨nm, r, hm, htl, hr⟩ := ToR.next HL.out HI.out HTo.out HN1.out hkc
                              have HM := Hd.mk (meet_calls (wr.drewN q) (atL F.blocks.length L) (abL F.blocks.length L par1) nm t 0 r (w1.heap.size + 1) (w1.heap.size + 1 + 1 + 1) _ _ HT.out.c1 HT.out.c3 ((HT.out.at_.reads).below ((Keeps.refl _ _).drewN q).below0) ((HT.out.ab.reads).below ((Keeps.refl _ _).drewN q).below0) (by rw [atL_len, abL_len]) (by rw [atL_len]; exact htl) (by rw [atL_len]; exact hsl) hm)
                              have HN := Hd.mk hr
                              clear hm hr
                              go_wp2_with fail
                              refine HM.out.mono ?_
                              rintro e w5 ⟨rfl, q5, rfl⟩
                              go_wp2
                              go_roundg ((src F.blocks (x : Int)).length - (p + 1))
                              case measure => omega
                              case rel => exact ⟨p + 1, q + q5, r, rfl, by go_num, hlp, Nat.le_refl _, by rw [HTK.out]; exact HN.out, rfl⟩
                          · have hne : ((sn : Int) != 0) = true := by rw [bne_iff_ne]; omega
                            have HN := Hd.mk (ToR.skip HTo.out (s := sn) (fun k hk => by rw [HN1.out] at hk; injection hk; omega))
                            rw [hb0] at sb
                            clear hb0 hk0 hz1 hk1
                            go_wp2
                            go_roundg ((src F.blocks (x : Int)).length - (p + 1))
                            case measure => omega
                            case rel => exact ⟨p + 1, q, to, rfl, by go_num, hlp, Nat.le_refl _, by rw [HTK.out]; exact HN.out, rfl⟩
                        · have hne : ((sn : Int) != 0) = true := by rw [bne_iff_ne]; omega
                          have hkc : kk < c1 := hk0.2
                          obtain ⟨y, hy⟩ : ∃ y, abV L par1 sn = y := ⟨_, rfl⟩
                          rw [hy] at sb hb0
                          clear hy hz1 hk0
                          have hto2 : to = -1 ∨ ∃ t : Nat, to = (t : Int) := by
                            rcases HTo.out with ⟨h1, _⟩ | ⟨t, h1, _⟩
                            · exact .inl h1
                            · exact .inr ⟨_, h1⟩
                          rcases hto2 with rfl | ⟨t, rfl⟩
                          · have HN := Hd.mk (ToR.first HTo.out HN1.out hkc)
                            go_wp2
                            go_roundg ((src F.blocks (x : Int)).length - (p + 1))
                            case measure => omega
                            case rel => exact ⟨p + 1, q, sn, rfl, by go_num, hlp, Nat.le_refl _, by rw [HTK.out]; exact HN.out, rfl⟩
                          · obtain ⟨nm, r, hm, htl, hr⟩ := ToR.next HL.out HI.out HTo.out HN1.out hkc
                            have HM := Hd.mk (meet_calls (wr.drewN q) (atL F.blocks.length L) (abL F.blocks.length L par1) nm t sn r (w1.heap.size + 1) (w1.heap.size + 1 + 1 + 1) _ _ HT.out.c1 HT.out.c3 ((HT.out.at_.reads).below ((Keeps.refl _ _).drewN q).below0) ((HT.out.ab.reads).below ((Keeps.refl _ _).drewN q).below0) (by rw [atL_len, abL_len]) (by rw [atL_len]; exact htl) (by rw [atL_len]; exact hsl) hm)
                            have HN := Hd.mk hr
                            clear hm hr
                            go_wp2_with fail
                            refine HM.out.mono ?_
                            rintro e w5 ⟨rfl, q5, rfl⟩
                            go_wp2
                            go_roundg ((src F.blocks (x : Int)).length - (p + 1))
                            case measure => omega
                            case rel => exact ⟨p + 1, q + q5, r, rfl, by go_num, hlp, Nat.le_refl _, by rw [HTK.out]; exact HN.out, rfl⟩
                    · obtain rfl : p = (src F.blocks (x : Int)).length := by omega
                      have hSL : SL F.blocks L (k + 1) = nums L (src F.blocks (x : Int)) := by unfold SL; rw [HLk.out]
                      have hto := HTo.out
                      rw [List.take_length, ← hSL] at hto
                      obtain ⟨t, ht1, ht2, ht3⟩ := ToR.done HL.out HI.out hto (by omega) HX.out
                      have hvx : abV L par1 x = match par1 (k + 1) with | some q => ((L.getD q 0 : Nat) : Int) | none => -1 := by
                        rw [← HX2.out]; exact abV_at HL.out HX.out
                      have hiff : abV L par1 x = to ↔ par1 (k + 1) = some t := by
                        rw [hvx, ht1]
                        constructor
                        · intro h
                          cases hp : par1 (k + 1) with
                          | none => rw [hp] at h; simp only at h; omega
                          | some y =>
                            rw [hp] at h
                            simp only at h
                            have hy := HI.out.lt _ _ hp
                            have hcm := HI.out.cm
                            rw [getD_inj HL.out (i := y) (k := t) (by omega) ht2 (by omega)]
                        · intro h; rw [h]
                      have HT1 := Hd.mk ht1
                      have HT3 := Hd.mk ht3
                      have HIF := Hd.mk hiff
                      obtain ⟨y, hy⟩ : ∃ y, abV L par1 x = y := ⟨_, rfl⟩
                      rw [hy] at cb
                      have HY := Hd.mk hy
                      have HKq := Hd.mk (HK.out.drewN q)
                      have hph := HI.out.less HL.out.gr (by omega) HX.out (t := t) ht3
                      clear hto hSL hvx hiff ht1 ht3 hy
                      by_cases heq : y = to
                      · have hpt := HIF.out.1 (by rw [HY.out]; exact heq)
                        have HPT := Hd.mk hpt
                        have hb0 : (y != to) = false := by rw [heq]; simp
                        clear heq hpt hph
                        go_wp2
                        go_roundg (L.length - (k + 1 + 1))
                        case measure => omega
                        case rel =>
                          refine ⟨par1, c1, turned, k + 1, rfl, by go_num, by omega, Nat.le_refl _, HI.out.stay HL.out.gr (by omega) HX.out HT3.out HPT.out, fun ht i q2 hi hq2 => ?_, hphi, OI.keep HT.out.ab ((Keeps.refl wr (fun _ => False)).drewN q) (fun _ _ _ hf => hf), HKq.out⟩
                          by_cases hik : i = k + 1
                          · subst hik
                            rw [HPT.out] at hq2
                            injection hq2 with e
                            subst e
                            exact fun x' hx' => (HT3.out x').1 hx'
                          · exact HF.out ht i q2 (by omega) hq2
                      · have hpt : par1 (k + 1) ≠ some t := fun h => heq (by rw [← HY.out]; exact HIF.out.2 h)
                        have hb0 : (y != to) = true := by rw [bne_iff_ne]; exact heq
                        have hph2 := hph hpt
                        clear heq hpt hph
                        go_wp2
                        go_roundg (L.length - (k + 1 + 1))
                        case measure => omega
                        case rel =>
                          have hset := abL_set (bs := F.blocks) HL.out (par := par1) (i := k + 1) (t := t) HX.out
                          rw [HX2.out] at hset
                          refine ⟨upd par1 (k + 1) t, max c1 (k + 1 + 1), true, k + 1, rfl, by go_num, by omega, Nat.le_refl _, HI.out.turn HL.out.gr (by omega) HX.out HT3.out, (by simp), ?_, ?_, ?_⟩
                          · simp only [cond_true]
                            have : phi L.length par1 L.length ≤ phi L.length par L.length := Nat.le_trans (Nat.le_add_right _ _) hphi
                            omega
                          · rw [← hset, ← HT1.out]
                            have h8 := (HT.out.ab).set x to
                            exact OI.keep h8 ((Keeps.refl _ (fun _ => False)).drewN q) (fun _ _ _ hf => hf)
                          · exact (HK.out.drewN q).setCell (p := ⟨w1.heap.size + 1 + 1, x, none⟩) (fun _ => rfl) _
                · have hkl : k + 1 = L.length := by omega
                  have hcl : c1 = L.length := by have := HI.out.cm; have := HI.out.jc; omega
                  have HA := Hd.mk (HI.out.again hkl)
                  have HF2 : Hd (turned = false → FixP F.blocks L L.length par1 L.length) := ⟨fun ht => by have := HF.out ht; rw [hkl, hcl] at this; exact this⟩
                  clear hkl hcl
                  go_wp2
                  go_roundg (2 * phi L.length par1 L.length + (bif turned then 1 else 0))
                  case measure => cases turned <;> simp only [cond_true, cond_false] at hphi ⊢ <;> omega
                  case rel => exact ⟨par1, L.length, turned, rfl, HA.out, fun ht => ⟨rfl, HF2.out ht⟩, Nat.le_refl _, HT.out.ab, HK.out⟩
end Go.Proofs.Ytggbeehnmconmaa
