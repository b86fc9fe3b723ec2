/- The program's dom: Above, Edge. -/
import Derived.Test.YtggbeehnmconmaaDom7
import Derived.Test.YtggbeehnmconmaaEdgeP
namespace Go.Proofs.Ytggbeehnmconmaa
open Go.RowKit T

set_option maxHeartbeats 1000000 in
set_option maxRecDepth 100000 in
theorem Above_calls (F : Fn) (v : Value) (w : World) (h : RFn w v F) (hn : F.blocks.length ≤ 1000000) (h0 : 0 < F.blocks.length) :
    Calls Try.prog 24 #[v] w fun e w' => ∃ v1 L par, e = .returned v1 ∧ TreeR F.blocks L par ∧ OI w' (fun g => w.heap.size ≤ g) v1 (abL F.blocks.length L par) ∧ Below w.heap.size w w' := by
  obtain ⟨vb, rfl, hb⟩ := h
  unfold fnV
  obtain ⟨A, c, rfl, hc, hl⟩ := RL.form hb
  have HT := Hd.mk (tree_calls F _ (boxFn w F A c) ⟨_, rfl, RBlks.below ((Keeps.refl w fun _ => False).alloc _).below0 hb⟩ hn h0)
  clear hb
  go_enter Try.func24, Try.ntmps24
  go_wp2_with fail
  refine HT.out.mono ?_
  rintro e w1 ⟨v1, v2, L, par, rfl, hT, h1, h2, hk⟩
  have H1 := Hd.mk h1
  have HTR := Hd.mk hT
  have HK := Hd.mk hk
  clear h1 h2 hk hT HT
  go_wp2
  go_ret
  exact ⟨_, L, par, rfl, HTR.out, H1.out.mono (fun g hg => by simp at hg; omega), (((Keeps.refl w fun _ => False).alloc _).trans (Keeps.of_below HK.out _) (fun _ _ hf => hf)).below0⟩

/-- What Edge's loops read. -/
structure EFacts (bs : List Blk) (L : List Nat) (par : Nat → Option Nat) (col0 : Nat → Nat) (S : Nat → Prop) (v3 v4 v6 : Value) (w : World) : Prop where
  ab : OI w (fun g => ¬ S g) v3 (abL bs.length L par)
  at_ : OI w (fun g => ¬ S g) v4 (atL bs.length L)
  all : OLL w (fun g => ¬ S g) col0 v6 (allS bs)
theorem EFacts.later {bs : List Blk} {L : List Nat} {par : Nat → Option Nat} {col0 : Nat → Nat} {S : Nat → Prop} {v3 v4 v6 : Value} {w w1 : World} (h : EFacts bs L par col0 S v3 v4 v6 w) (hk : Keeps w w1 S) : EFacts bs L par col0 S v3 v4 v6 w1 :=
  ⟨h.ab.keep hk (fun _ hg _ => hg), h.at_.keep hk (fun _ hg _ => hg), h.all.keep hk (fun _ hg _ => hg)⟩

def EdgeA (bs : List Blk) (L : List Nat) (par : Nat → Option Nat) (S : Nat → Prop) (v5 : Value) (w3 : World) (gg : Nat) (v26 : Value) (wr : World) : Prop :=
  ∃ (b : Nat) (col : Nat → Nat), v26 = .int .i64 b ∧ b ≤ bs.length ∧ bs.length - b ≤ gg ∧ OLL wr S col v5 (eRow (inE bs L par) bs.length b (fun _ => false)) ∧ Keeps w3 wr S
def EdgeB (bs : List Blk) (L : List Nat) (par : Nat → Option Nat) (S : Nat → Prop) (v5 : Value) (w3 : World) (b gg : Nat) (v39 : Value) (wr : World) : Prop :=
  ∃ (p : Nat) (col : Nat → Nat) (D : Nat → Bool), v39 = .int .i64 p ∧ p ≤ (src bs (b : Int)).length ∧ (src bs (b : Int)).length - p ≤ gg ∧ OLL wr S col v5 (eRow (inE bs L par) bs.length b D) ∧ Keeps w3 wr S ∧
    (∀ d, D d = true ↔ ∃ s : Nat, (s : Int) ∈ (src bs (b : Int)).take p ∧ s ∈ L ∧ Pth L par b s d)
/-- The walk up from the source: it stands at i (none: it is over), what lies below is done. -/
def EdgeC (bs : List Blk) (L : List Nat) (par : Nat → Option Nat) (S : Nat → Prop) (v5 : Value) (w3 : World) (b j k : Nat) (D0 : Nat → Bool) (gg : Nat) (v10 : Value) (wr : World) : Prop :=
  ∃ (o : Option Nat) (col : Nat → Nat) (D : Nat → Bool) (z : Int), v10 = .int .i64 z ∧ (z = match o with | some i => ((L.getD i 0 : Nat) : Int) | none => -1) ∧ (∀ i, o = some i → i < L.length ∧ Anc par i k ∧ i + 1 ≤ gg ∧ ∀ q, par j = some q → q ≤ i) ∧ (o = none → par j = none) ∧
    OLL wr S col v5 (eRow (inE bs L par) bs.length b D) ∧ Keeps w3 wr S ∧
    (∀ d, D d = true ↔ D0 d = true ∨ ∃ x, x < L.length ∧ d = L.getD x 0 ∧ Anc par x k ∧ ∀ i, o = some i → i < x)

set_option maxHeartbeats 4000000 in
set_option maxRecDepth 100000 in
theorem Edge_calls (F : Fn) (v : Value) (w : World) (h : RFn w v F) (hn : F.blocks.length ≤ 1000000) (h0 : 0 < F.blocks.length) :
    Calls Try.prog 27 #[v] w fun e w' => ∃ v1 col L par, e = .returned v1 ∧ TreeR F.blocks L par ∧ OLL w' (fun g => w.heap.size ≤ g) col v1 (eRow (inE F.blocks L par) F.blocks.length F.blocks.length (fun _ => false)) ∧ Below w.heap.size w w' := by
  obtain ⟨vb, rfl, hb⟩ := h
  unfold fnV
  obtain ⟨A, c, rfl, hc, hl⟩ := RL.form hb
  have HR : Hd (RBlks w (.slice A F.blocks.length c) F.blocks) := ⟨hb⟩
  have HT := Hd.mk (tree_calls F _ (boxFn w F A c) ⟨_, rfl, RBlks.below ((Keeps.refl w fun _ => False).alloc _).below0 hb⟩ hn h0)
  clear hb
  have hmk := run_make_row' (P := Try.prog) 31 27 (.slice none 0 0) 24 Try.underlying31 info_ints rfl .i64 .i64 F.blocks.length (by omega) (by omega)
  go_enter Try.func27, Try.ntmps27
  go_wp2_with fail
  refine HT.out.mono ?_
  rintro e w1 ⟨v3, v4, L, par, rfl, hT, h3, h4, hk⟩
  have hk1 : Keeps (boxFn w F A c) w1 (fun _ => False) := Keeps.of_below hk _
  have hs1 := hk1.size
  have hsb : w.heap.size + 1 ≤ w1.heap.size := by simpa using hs1
  have hsb' : w.heap.size < w1.heap.size := hsb
  have H3 := Hd.mk (show OI w1 (fun g => w.heap.size + 1 ≤ g ∧ g < w1.heap.size) v3 _ from ⟨h3.1, fun g hg => ⟨by simpa using h3.2 g hg, Ow.lt h3 g hg⟩⟩)
  have H4 := Hd.mk (show OI w1 (fun g => w.heap.size + 1 ≤ g ∧ g < w1.heap.size) v4 _ from ⟨h4.1, fun g hg => ⟨by simpa using h4.2 g hg, Ow.lt h4 g hg⟩⟩)
  have HTR := Hd.mk hT
  have HK1 := Hd.mk hk1
  obtain ⟨q0, q1, q2, q3, q4⟩ := box_cells hk1 (fun hf => hf)
  have HAll := Hd.mk (All_calls F _ (w1.alloc (.cells (madeCells #[.slice none 0 0] F.blocks.length) 27)) ⟨_, rfl, RBlks.below (((((Keeps.refl w fun _ => False).alloc _).trans hk1 (fun _ _ hf => hf)).alloc _).below0) HR.out⟩ hn)
  clear h3 h4 hk hk1 hs1 hT HT
  go_wp2_with fail
  refine HAll.out.mono ?_
  rintro e w3 ⟨v6, col0, rfl, h6, hk3⟩
  have hk3' : Keeps (w1.alloc (.cells (madeCells #[.slice none 0 0] F.blocks.length) 27)) w3 (fun _ => False) := Keeps.of_below hk3 _
  have hs3 := hk3'.size
  have hs3b : w1.heap.size + 1 ≤ w3.heap.size := by simpa using hs3
  have hk13 : Keeps w1 w3 (fun _ => False) := ((Keeps.refl w1 (fun _ => False)).alloc _).trans hk3' (fun _ _ hf => hf)
  have HE0 : Hd (EFacts F.blocks L par col0 (fun g => g = w1.heap.size ∨ w3.heap.size ≤ g) v3 v4 v6 w3) :=
    ⟨⟨(H3.out.keep hk13 (fun _ _ _ hf => hf)).mono (fun g hg => by omega), (H4.out.keep hk13 (fun _ _ _ hf => hf)).mono (fun g hg => by omega), h6.bound.mono (fun g hg => by have := hg.1; simp at this; omega)⟩⟩
  have hO : OLL w3 (fun g => g = w1.heap.size ∨ w3.heap.size ≤ g) (fun _ => 0) (.slice (some ⟨w1.heap.size, 0, none⟩) F.blocks.length F.blocks.length) (List.replicate F.blocks.length []) := by
    have h7 := (OLL.made w1 (S := fun g => w1.heap.size ≤ g) F.blocks.length (fun k hk => hk) (by omega)).bound
    exact (h7.keep hk3' (fun _ _ _ hf => hf)).mono (fun g hg => by have := hg.2; simp at this; have := hg.1; omega)
  have HO := Hd.mk hO
  have HK3 := Hd.mk (HK1.out.trans hk13 (fun _ _ hf => hf))
  have hsS : (allS F.blocks).length = F.blocks.length := by simp [allS]
  obtain ⟨A6, c6, rfl, _, _⟩ := OLL.form h6
  obtain ⟨g6, rfl, _, _⟩ := OLL.ptr h6 (by omega)
  obtain ⟨A3, c3, rfl, _, _⟩ := Ow.form H3.out
  obtain ⟨g3, rfl, _, _⟩ := Ow.ptr H3.out (by rw [abL_len]; exact h0)
  obtain ⟨A4, c4, rfl, _, _⟩ := Ow.form H4.out
  obtain ⟨g4, rfl, _, _⟩ := Ow.ptr H4.out (by rw [atL_len]; exact h0)
  rw [hsS, abL_len, atL_len] at HE0
  rw [hsS, abL_len, atL_len]
  obtain ⟨S, hS⟩ : ∃ S : Nat → Prop, S = (fun g => g = w1.heap.size ∨ w3.heap.size ≤ g) := ⟨_, rfl⟩
  have hSw : ∀ g, w3.heap.size ≤ g → S g := fun g hg => by rw [hS]; exact .inr hg
  have hSb : ∀ g, S g → w.heap.size + 1 ≤ g := fun g hg => by rw [hS] at hg; omega
  have HSO : Hd (S w1.heap.size) := ⟨by rw [hS]; exact .inl rfl⟩
  have HG3 : Hd (¬ S g3) := ⟨by rw [hS]; omega⟩
  have HSW := Hd.mk hSw
  have HSB := Hd.mk hSb
  rw [← hS] at HE0 HO
  clear hS hSw hSb hk3' hk3 hs3 hk13 hO h6 hsS H3 H4 HAll hmk q0 q1 q2 q3 q4
  obtain ⟨q0, q1, q2, q3, q4⟩ := box_cells HK3.out (fun hf => hf)
  go_wp2
  go_loopg [26] F.blocks.length (fun gg v26 wr => EdgeA F.blocks L par S (.slice (some ⟨w1.heap.size, 0, none⟩) F.blocks.length F.blocks.length) w3 gg v26 wr)
  case atStart => exact ⟨0, fun _ => 0, rfl, Nat.zero_le _, Nat.sub_le _ _, by rw [eRow_zero]; exact HO.out, Keeps.refl _ _⟩
  case round =>
    clear HO
    obtain ⟨b, col, rfl, hb, hgg, hO, hK⟩ := hrel
    have HO := Hd.mk hO
    have HK := Hd.mk hK
    have HE := Hd.mk (HE0.out.later hK)
    clear hO hK
    by_cases hlt : b < F.blocks.length
    · have cat := HE.out.at_.at b (by rw [atL_len]; exact hlt)
      rw [show (atL F.blocks.length L)[b]'(by rw [atL_len]; exact hlt) = atV L b by simp [atL]] at cat
      have cab := HE.out.ab.at b (by rw [abL_len]; exact hlt)
      rw [show (abL F.blocks.length L par)[b]'(by rw [abL_len]; exact hlt) = abV L par b by simp [abL]] at cab
      cases hnb : num L b with
      | none =>
        have HN : Hd (∀ d, false = inE F.blocks L par b d) := ⟨fun d => by
          symm
          simp only [inE, decide_eq_false_iff_not]
          rintro ⟨h1, _⟩
          obtain ⟨i, hi⟩ := num_mem h1
          rw [hnb] at hi
          cases hi⟩
        rw [show atV L b = -1 by rw [atV, hnb]] at cat
        clear hnb
        go_wp2
        go_roundg (F.blocks.length - (b + 1))
        case measure => omega
        case rel => exact ⟨b + 1, col, by go_num, hlt, Nat.le_refl _, by rw [← eRow_next _ _ _ _ HN.out]; exact HO.out, HK.out⟩
      | some j =>
        have hbj := num_some hnb
        have hjm : j < L.length := (List.getElem?_eq_some_iff.1 hbj).1
        have HBJ : Hd (L.getD j 0 = b) := ⟨by rw [List.getD_eq_getElem?_getD, hbj]; rfl⟩
        have HBL : Hd (b ∈ L) := ⟨List.mem_of_getElem? hbj⟩
        have HNB : Hd (L[j]? = some b) := ⟨hbj⟩
        obtain ⟨hTO, j0, hTI, hTF⟩ := HTR.out
        have HTO := Hd.mk hTO
        have HTI := Hd.mk hTI
        have HTF := Hd.mk hTF
        have HAB : Hd (abV L par b = match par j with | some q => ((L.getD q 0 : Nat) : Int) | none => -1) := ⟨by rw [abV, hnb]; rfl⟩
        rw [show atV L b = (j : Int) by rw [atV, hnb]] at cat
        obtain ⟨y, hy⟩ : ∃ y, abV L par b = y := ⟨_, rfl⟩
        rw [hy] at cab HAB
        have HYB := Hd.mk hy
        have hbS : b < (allS F.blocks).length := by simp [allS]; exact hlt
        obtain ⟨us, cus0, hus⟩ := HE0.out.all.at b hbS
        rw [show (allS F.blocks)[b] = src F.blocks (b : Int) by simp [allS]] at hus
        obtain ⟨Au, cu, rfl, _, hlu⟩ := Ow.form hus
        have HUS := Hd.mk hus
        have hg6 : ¬ S g6 := by
          obtain ⟨_, e, h, _⟩ := OLL.ptr HE0.out.all (by omega)
          injection e with e
          injection e with e
          exact e ▸ h
        have HG6 := Hd.mk hg6
        have HCU := Hd.mk cus0
        have cus := HK.out.cell cus0 hg6
        have hdk : decide ((b : Int) < (F.blocks.length : Int)) = true := decide_eq_true (by omega)
        clear hnb hbj hTO hTI hTF hy hus hbS hg6 cus0
        go_wp2
        go_loopg [39] (src F.blocks (b : Int)).length (fun gg v39 wq => EdgeB F.blocks L par S (.slice (some ⟨w1.heap.size, 0, none⟩) F.blocks.length F.blocks.length) w3 b gg v39 wq)
        case atStart => exact ⟨0, col, fun _ => false, rfl, Nat.zero_le _, Nat.sub_le _ _, HO.out, HK.out, fun d => by simp⟩
        case round =>
          obtain ⟨p, col1, D, rfl, hp, hgg2, hO, hK, hD⟩ := hrel
          clear HO HK HE cat cab cus
          have HO := Hd.mk hO
          have HK := Hd.mk hK
          have HE := Hd.mk (HE0.out.later hK)
          have HDD := Hd.mk hD
          clear hO hK hD
          by_cases hplt : p < (src F.blocks (b : Int)).length
          · obtain ⟨gu, rfl, _, _⟩ := Ow.ptr HUS.out (by omega)
            obtain ⟨sn, hsn, hsm, hst⟩ : ∃ sn : Nat, (src F.blocks (b : Int))[p] = (sn : Int) ∧ sn < F.blocks.length ∧ b ∈ tg F.blocks sn := mem_src.1 (List.getElem_mem hplt)
            have csn := (HUS.out.keep HK.out (fun _ hg _ => hg.1)).at p hplt
            rw [hsn] at csn
            have HSN := Hd.mk hsn
            have HST := Hd.mk hst
            have cus := HK.out.cell HCU.out HG6.out
            have cat := HE.out.at_.at sn (by rw [atL_len]; exact hsm)
            rw [show (atL F.blocks.length L)[sn]'(by rw [atL_len]; exact hsm) = atV L sn by simp [atL]] at cat
            clear hsn hst
            cases hns : num L sn with
            | none =>
              have HX : Hd (sn ∉ L) := ⟨fun hm => by
                obtain ⟨i, hi⟩ := num_mem hm
                rw [hns] at hi
                cases hi⟩
              rw [show atV L sn = -1 by rw [atV, hns]] at cat
              clear hns
              go_wp2
              go_roundg ((src F.blocks (b : Int)).length - (p + 1))
              case measure => omega
              case rel =>
                refine ⟨p + 1, col1, D, by go_num, hplt, Nat.le_refl _, HO.out, HK.out, fun d => ?_⟩
                rw [HDD.out d, List.take_succ_eq_append_getElem hplt, HSN.out]
                simp only [List.mem_append, List.mem_singleton]
                constructor
                · rintro ⟨s, h1, h2, h3⟩
                  exact ⟨s, .inl h1, h2, h3⟩
                · rintro ⟨s, h1 | h1, h2, h3⟩
                  · exact ⟨s, h1, h2, h3⟩
                  · exact absurd h2 (by have : s = sn := by omega
                                        subst this; exact HX.out)
            | some k =>
              have hbk := num_some hns
              have hkm : k < L.length := (List.getElem?_eq_some_iff.1 hbk).1
              have HBK : Hd (L.getD k 0 = sn) := ⟨by rw [List.getD_eq_getElem?_getD, hbk]; rfl⟩
              have HSL : Hd (sn ∈ L) := ⟨List.mem_of_getElem? hbk⟩
              have HQ : Hd (∀ q, par j = some q → Anc par q k) := ⟨fun q hq => HTF.out j q hjm hq q (.refl q) k ((mem_SL HTO.out HNB.out).2 ⟨sn, hbk, HST.out⟩) hkm⟩
              rw [show atV L sn = (k : Int) by rw [atV, hns]] at cat
              clear hns hbk
              have HND : Hd (∀ (o : Option Nat) (D2 : Nat → Bool), par j = o → (∀ d, D2 d = true ↔ D d = true ∨ ∃ x, x < L.length ∧ d = L.getD x 0 ∧ Anc par x k ∧ ∀ i, o = some i → i < x) →
                  ∀ d, D2 d = true ↔ ∃ s : Nat, (s : Int) ∈ (src F.blocks (b : Int)).take (p + 1) ∧ s ∈ L ∧ Pth L par b s d) := ⟨fun o D2 ho h d => by
                rw [h d, edge_done HTO.out HTI.out hkm hjm o ho HQ.out d, HDD.out d, HBJ.out, HBK.out, List.take_succ_eq_append_getElem hplt, HSN.out]
                simp only [List.mem_append, List.mem_singleton]
                constructor
                · rintro (⟨s, h1, h2, h3⟩ | h3)
                  · exact ⟨s, .inl h1, h2, h3⟩
                  · exact ⟨sn, .inr rfl, HSL.out, h3⟩
                · rintro ⟨s, h1 | h1, h2, h3⟩
                  · exact .inl ⟨s, h1, h2, h3⟩
                  · obtain rfl : s = sn := by omega
                    exact .inr h3⟩
              have hdk2 : decide ((p : Int) < ((src F.blocks (b : Int)).length : Int)) = true := decide_eq_true (by omega)
              go_wp2
              go_loopg [10] (k + 1) (fun gg v10 wq => EdgeC F.blocks L par S (.slice (some ⟨w1.heap.size, 0, none⟩) F.blocks.length F.blocks.length) w3 b j k D gg v10 wq)
              case atStart => 
                refine ⟨some k, col1, D, _, rfl, by simp only [HBK.out], fun i hi => ?_, (fun h => by cases h), HO.out, HK.out, fun d => ?_⟩
                · injection hi with hi
                  subst hi
                  exact ⟨hkm, .refl _, Nat.le_refl _, fun q hq => (HQ.out q hq).le HTI.out.V'⟩
                · constructor
                  · exact .inl
                  · rintro (h | ⟨x, _, _, h3, h4⟩)
                    · exact h
                    · have := h3.le HTI.out.V'
                      have := h4 k rfl
                      omega
              case round =>
                clear HO HK HE cat cus csn
                obtain ⟨o, col2, D2, z, rfl, hz, hi, hno, hO, hK, hD2⟩ := hrel
                have HO := Hd.mk hO
                have HK := Hd.mk hK
                have HE := Hd.mk (HE0.out.later hK)
                have HD2 := Hd.mk hD2
                have HI := Hd.mk hi
                have HNO := Hd.mk hno
                clear hO hK hD2 hi hno
                have cab := HE.out.ab.at b (by rw [abL_len]; exact hlt)
                rw [show (abL F.blocks.length L par)[b]'(by rw [abL_len]; exact hlt) = abV L par b by simp [abL], HYB.out] at cab
                cases o with
                | none =>
                  have hpj := HNO.out rfl
                  obtain rfl : z = -1 := hz
                  go_wp2
                  go_roundg ((src F.blocks (b : Int)).length - (p + 1))
                  case measure => omega
                  case rel => exact ⟨p + 1, col2, D2, by go_num, hplt, Nat.le_refl _, HO.out, HK.out, HND.out none D2 hpj HD2.out⟩
                | some i =>
                  obtain ⟨hil, hia, hig, hiq⟩ := HI.out i rfl
                  have HIA := Hd.mk hia
                  have HIQ := Hd.mk hiq
                  obtain ⟨li, hli, hlin⟩ : ∃ li, L.getD i 0 = li ∧ li < F.blocks.length := ⟨_, rfl, HTO.out.lt _ (List.mem_of_getElem? (getD_at hil))⟩
                  obtain rfl : z = (li : Int) := by rw [hz]; simp only [hli]
                  have HLI := Hd.mk hli
                  clear hia hiq hli hz
                  have hdl : decide ((li : Int) ≥ 0) = true := decide_eq_true (by omega)
                  by_cases hly : (li : Int) = y
                  · have hpj : par j = some i := by
                      cases hpj : par j with
                      | none =>
                        have := HAB.out
                        rw [hpj] at this
                        simp only at this
                        omega
                      | some q =>
                        have := HAB.out
                        rw [hpj] at this
                        simp only at this
                        have hq := HTI.out.V' _ _ hpj
                        exact congrArg some (getD_inj HTO.out (by omega) hil (by rw [HLI.out]; omega))
                    subst hly
                    go_wp2
                    go_roundg ((src F.blocks (b : Int)).length - (p + 1))
                    case measure => omega
                    case rel => exact ⟨p + 1, col2, D2, by go_num, hplt, Nat.le_refl _, HO.out, HK.out, HND.out (some i) D2 hpj HD2.out⟩
                  · have HNE : Hd (∀ q, par j = some q → i ≠ q) := ⟨fun q hq he => by
                      subst he
                      have := HAB.out
                      rw [hq] at this
                      simp only [HLI.out] at this
                      omega⟩
                    have HST := Hd.mk (fun D' => edge_step HTI.out hil HIA.out HIQ.out HQ.out HNE.out D D2 D' (fun d => by rw [HD2.out d]; simp))
                    have cai := HE.out.ab.at li (by rw [abL_len]; exact hlin)
                    rw [show (abL F.blocks.length L par)[li]'(by rw [abL_len]; exact hlin) = abV L par li by simp [abL]] at cai
                    have HVI : Hd (abV L par li = match par i with | some q => ((L.getD q 0 : Nat) : Int) | none => -1) := ⟨by rw [abV, ← HLI.out, num_get HTO.out.nodup (getD_at hil)]; rfl⟩
                    obtain ⟨y2, hy2⟩ : ∃ y2, abV L par li = y2 := ⟨_, rfl⟩
                    rw [hy2] at cai HVI
                    have hll : li < (eRow (inE F.blocks L par) F.blocks.length b D2).length := by rw [eRow_len]; exact hlin
                    obtain ⟨ur, cr, hor⟩ := HO.out.at li hll
                    have hlast := eRow_last (inE F.blocks L par) D2 hll
                    obtain ⟨xs, hxs⟩ : ∃ xs, (eRow (inE F.blocks L par) F.blocks.length b D2)[li] = xs := ⟨_, rfl⟩
                    rw [hxs] at hor hlast
                    obtain ⟨Ar, cpr, rfl, _, _⟩ := Ow.form hor
                    have HOR := Hd.mk hor
                    have HLA := Hd.mk hlast
                    have HXS := Hd.mk hxs
                    have hxb : xs.length ≤ 1000000 := by have := hlast.1; omega
                    clear hor hlast hxs hy2
                    by_cases hx0 : xs.length = 0
                    · have hD0 : D2 li = false := by
                        cases h : D2 li with
                        | false => rfl
                        | true =>
                          have := HLA.out.2.1 h
                          rw [List.length_eq_zero_iff.1 hx0] at this
                          cases this
                      obtain rfl : xs = [] := List.length_eq_zero_iff.1 hx0
                      have HOR2 : Hd (OI wr (fun g => S g ∧ col2 g = li + 1) (.slice Ar 0 cpr) []) := HOR
                      have HD0 := Hd.mk hD0
                      clear hx0 hD0 HOR
                      go_wp2_with (at_builtin; refine append_int rfl (.tmp 87) (.tmp 89) rfl _ [] (b : Int) rfl HOR2.out _ _ rfl rfl hxb ?_; intro A2 c2 w2 hc2 ho2 hk2; obtain ⟨co2, fo2⟩ := HO.out.outer hk2 hll cr; have cai2 := ((hk2.mono (T := S) (fun g _ hg => hg.1)).setCell (p := ⟨w1.heap.size, li, none⟩) (fun _ => HSO.out) (.slice A2 (0 + 1) c2)).cell cai HG3.out; have HO2 := Hd.mk ho2; have HK2 := Hd.mk hk2; clear ho2 hk2)
                      go_roundg i
                      case measure => omega
                      case rel =>
                        have hD' := HST.out (fun x => if x = li then true else D2 x) (fun d => by rw [HLI.out]; by_cases h : d = li <;> simp [h])
                        have heq : (eRow (inE F.blocks L par) F.blocks.length b D2).set li ([] ++ [(b : Int)]) = _ := (congrArg (fun z => (eRow (inE F.blocks L par) F.blocks.length b D2).set li (z ++ [(b : Int)])) HXS.out.symm).trans (eRow_put _ D2 hll HD0.out)
                        have hput := HO.out.put (ys := [] ++ [(b : Int)]) (fun q hq => HSW.out q (Nat.le_trans HK.out.size hq)) li HO2.out HK2.out
                        rw [heq] at hput
                        exact ⟨par i, _, _, y2, by go_num, HVI.out, hD'.1, hD'.2.1, hput, (HK.out.trans HK2.out (fun g _ hg => hg.1)).setCell (fun _ => HSO.out) _, hD'.2.2⟩
                    · obtain ⟨m, hm⟩ : ∃ m, xs.length = m + 1 := ⟨xs.length - 1, by omega⟩
                      obtain ⟨l, hl2⟩ : ∃ l, xs[m]? = some l := ⟨_, List.getElem?_eq_getElem (by omega)⟩
                      have hlg : xs.getLast? = some l := by rw [List.getLast?_eq_getElem?, hm]; exact hl2
                      obtain ⟨gr, rfl, _, _⟩ := Ow.ptr HOR.out (by omega)
                      have cla := HOR.out.cell m (.int .i64 l) (by simp [nI, hl2])
                      have HOR2 : Hd (OI wr (fun g => S g ∧ col2 g = li + 1) (.slice (some ⟨gr, 0, none⟩) (m + 1) cpr) xs) := ⟨by have := HOR.out; rwa [hm] at this⟩
                      rw [hm] at cr
                      have HM := Hd.mk hm
                      have hmb : m ≤ 1000000 := by omega
                      clear hx0 hm hl2 HOR
                      cases hdl2 : D2 li with
                      | true =>
                        obtain rfl : l = (b : Int) := by
                          have := HLA.out.2.1 hdl2
                          rw [hlg] at this
                          injection this
                        have HDL := Hd.mk hdl2
                        clear hdl2 hlg
                        go_wp2
                        go_roundg i
                        case measure => omega
                        case rel =>
                          have hD' := HST.out D2 (fun d => ⟨.inl, fun h => h.elim id (fun e => by rw [e, HLI.out]; exact HDL.out)⟩)
                          exact ⟨par i, _, _, y2, by go_num, HVI.out, hD'.1, hD'.2.1, HO.out, HK.out, hD'.2.2⟩
                      | false =>
                        have hlb : ¬ l = (b : Int) := HLA.out.2.2 hdl2 l hlg
                        have hdlb : (l != (b : Int)) = true := by simpa using hlb
                        have HD0 := Hd.mk hdl2
                        clear hdl2 hlg
                        go_wp2_with (at_builtin; refine append_int rfl (.tmp 87) (.tmp 89) rfl _ xs (b : Int) rfl HOR2.out _ _ rfl rfl hxb ?_; intro A2 c2 w2 hc2 ho2 hk2; obtain ⟨co2, fo2⟩ := HO.out.outer hk2 hll cr; have cai2 := ((hk2.mono (T := S) (fun g _ hg => hg.1)).setCell (p := ⟨w1.heap.size, li, none⟩) (fun _ => HSO.out) (.slice A2 (xs.length + 1) c2)).cell cai HG3.out; have HO2 := Hd.mk ho2; have HK2 := Hd.mk hk2; clear ho2 hk2)
                        go_roundg i
                        case measure => omega
                        case rel =>
                          have hD' := HST.out (fun x => if x = li then true else D2 x) (fun d => by rw [HLI.out]; by_cases h : d = li <;> simp [h])
                          have heq : (eRow (inE F.blocks L par) F.blocks.length b D2).set li (xs ++ [(b : Int)]) = _ := (congrArg (fun z => (eRow (inE F.blocks L par) F.blocks.length b D2).set li (z ++ [(b : Int)])) HXS.out.symm).trans (eRow_put _ D2 hll HD0.out)
                          have hput := HO.out.put (ys := xs ++ [(b : Int)]) (fun q hq => HSW.out q (Nat.le_trans HK.out.size hq)) li HO2.out HK2.out
                          rw [heq] at hput
                          exact ⟨par i, _, _, y2, by go_num, HVI.out, hD'.1, hD'.2.1, hput, (HK.out.trans HK2.out (fun g _ hg => hg.1)).setCell (fun _ => HSO.out) _, hD'.2.2⟩
          · obtain rfl : p = (src F.blocks (b : Int)).length := by omega
            go_wp2
            go_roundg (F.blocks.length - (b + 1))
            case measure => omega
            case rel =>
              refine ⟨b + 1, col1, by go_num, hlt, Nat.le_refl _, ?_, HK.out⟩
              rw [← eRow_next _ _ _ D (fun d => ?_)]
              · exact HO.out
              · have h := HDD.out d
                rw [List.take_length] at h
                exact inE_of (fun hd => ⟨HBL.out, h.1 hd⟩) (fun hc => h.2 hc.2)
    · obtain rfl : b = F.blocks.length := by omega
      go_wp2
      go_ret
      exact ⟨_, col, L, par, rfl, HTR.out, HO.out.mono (fun g hg => by have := HSB.out g hg; omega), ((((Keeps.refl w fun _ => False).alloc _).trans HK3.out (fun _ _ hf => hf)).trans HK.out (fun i hi hs => by have := HSB.out i hs; omega)).below0⟩
end Go.Proofs.Ytggbeehnmconmaa
