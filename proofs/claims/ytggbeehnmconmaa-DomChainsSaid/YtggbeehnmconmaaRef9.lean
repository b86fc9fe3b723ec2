/- The document's answers: Order. -/
import Derived.Deep.RegionWith
import Derived.Deep.DrawnRows
import Derived.Test.YtggbeehnmconmaaRef8
namespace Go.Proofs.Ytggbeehnmconmaa
open Go.RowKit
attribute [local go_sem ↓] Go.wp_at_zero Go.wp_at_succ

def rv (l : List Int) (i : Nat) : List Int := (List.range l.length).map fun j => if j < i ∨ l.length - i ≤ j then l.getD (l.length - 1 - j) 0 else l.getD j 0
theorem rv_len (l : List Int) (i : Nat) : (rv l i).length = l.length := by simp [rv]
theorem rv_zero (l : List Int) : rv l 0 = l := by
  apply List.ext_getElem
  · simp [rv]
  · intro j h1 h2
    simp only [rv, List.getElem_map, List.getElem_range]
    rw [if_neg (by omega), List.getD_eq_getElem?_getD, List.getElem?_eq_getElem h2]
    rfl
theorem rv_at {l : List Int} {i j : Nat} (h : j < (rv l i).length) : (rv l i)[j] = if j < i ∨ l.length - i ≤ j then l.getD (l.length - 1 - j) 0 else l.getD j 0 := by simp [rv]
theorem rv_step {l : List Int} {i : Nat} (h : i < l.length / 2) : ((rv l i).set i (l.getD (l.length - 1 - i) 0)).set (l.length - 1 - i) (l.getD i 0) = rv l (i + 1) := by
  apply List.ext_getElem
  · simp [rv]
  · intro j h1 h2
    rw [rv_at, List.getElem_set, List.getElem_set]
    have hj : j < l.length := by simpa [rv] using h2
    by_cases e1 : l.length - 1 - i = j
    · rw [if_pos e1, if_pos (by omega)]
      congr 1
      omega
    · rw [if_neg e1]
      by_cases e2 : i = j
      · rw [if_pos e2, if_pos (by omega)]
        congr 1
        omega
      · rw [if_neg e2, rv_at]
        by_cases e3 : j < i ∨ l.length - i ≤ j
        · rw [if_pos e3, if_pos (by omega)]
        · rw [if_neg e3, if_neg (by omega)]
theorem rv_end (l : List Int) : rv l (l.length / 2) = l.reverse := by
  apply List.ext_getElem
  · simp [rv]
  · intro j h1 h2
    have hj : j < l.length := by simpa [rv] using h1
    rw [rv_at, List.getElem_reverse]
    have e : ∀ k (hk : k < l.length), l.getD k 0 = l[k] := fun k hk => by rw [List.getD_eq_getElem?_getD, List.getElem?_eq_getElem hk]; rfl
    split
    · rw [e _ (by omega)]
    · rw [e _ hj]
      have : l.length - 1 - j = j := by omega
      simp [this]

theorem cnt_le (m : Nat → Bool) (n : Nat) : cnt m n ≤ n := by
  induction n with
  | zero => exact Nat.le_refl _
  | succ n ih => simp only [cnt]; cases m n <;> simp <;> omega
theorem OB.made2 (X : World) (n : Nat) {g : Nat} (hg : g = X.heap.size) (hn : n ≤ 9223372036854775807) : OB (X.alloc (.cells (madeCells #[.bool false] n) 4)) (fun k => k = g) (.slice (some ⟨g, 0, none⟩) n n) (bl n fun _ => false) := by
  subst hg
  exact OB.made X n rfl hn

def RevRel (l : List Int) (gl c : Nat) (w5 : World) (gg : Nat) (v4 : Value) (wr : World) : Prop :=
  ∃ i : Nat, v4 = .int .i64 i ∧ i ≤ l.length / 2 ∧ l.length / 2 - i ≤ gg ∧ OI wr (fun g => g = gl) (.slice (some ⟨gl, 0, none⟩) l.length c) (rv l i) ∧ Keeps w5 wr (fun g => g = gl)

set_option maxHeartbeats 2000000 in
set_option maxRecDepth 100000 in
theorem rOrder_calls (F : Fn) (v : Value) (w : World) (h : RFn w v F) (hn : F.blocks.length ≤ 1000000) (h0 : 0 < F.blocks.length) :
    Calls Try.prog 23 #[v] w fun e w' => ∃ v' m out, e = .returned v' ∧ DReach (tg F.blocks) m out [] ∧ OI w' (fun g => w.heap.size ≤ g) v' (ints out.reverse) ∧ Below w.heap.size w w' := by
  have hF := h
  obtain ⟨vb, rfl, hb⟩ := h
  unfold fnV at *
  obtain ⟨A, c, rfl, hc, hl⟩ := RL.form hb
  have hmk := run_make_row' (P := Try.prog) 33 4 (.bool false) 1 Try.underlying33 info_bool rfl .i64 .i64 F.blocks.length (by omega) (by omega)
  have hne : ((F.blocks.length : Int) == 0) = false := beq_eq_false_iff_ne.2 (by omega)
  have HC := Hd.mk (fun (w1 : World) (bi : Nat) hB hbi hM => order_calls F _ w hF hn F.blocks.length w1 0 (fun _ => false) [] bi (.slice none 0 0) (fun _ => False)
    (by have := cnt_mono (m := fun _ => false) (m' := fun _ => false) (fun _ h => h) F.blocks.length; exact Nat.le_of_eq (by induction F.blocks.length with | zero => rfl | succ n ih => simp [cnt, ih])) h0 rfl
    (by simp only [List.length_nil, Nat.zero_add]; exact Nat.le_of_eq (by induction F.blocks.length with | zero => rfl | succ n ih => simp [cnt, ih])) hB hbi (fun _ hf => hf.elim) hM (Ow.nil _ _ _ _))
  clear hF hb
  go_enter Try.func23, Try.ntmps23
  go_wp2
  go_region_with ((go_at_call 61; refine (HC.out _ _ (Keeps.below0 (by repeat first | exact Keeps.refl _ _ | apply Keeps.alloc | apply Keeps.drew)) (by omega) (by first | exact OB.made2 _ _ (by simp) (by omega) | exact (OB.made2 _ _ (by simp) (by omega)).keep ((Keeps.refl _ (fun _ => False)).drew) (fun _ _ _ hf => hf))).mono ?_; rintro e w5 ⟨v5, m5, o5, rfl, h1, h2, h3, h4⟩))
  all_goals
    have hk5 : Keeps (boxFn w F A c) w5 (fun g => g = w.heap.size + 1) := Keeps.trans (by repeat first | exact Keeps.refl _ _ | apply Keeps.alloc | apply Keeps.drew) h4 (fun g _ h => h.elim id False.elim)
    have h3' : OI w5 (fun g => w.heap.size + 1 ≤ g) v5 (ints (o5 ++ [0])) := Ow.mono h3 (fun g hg => by simp at hg; omega)
    have HD := Hd.mk (DReach.pop (h1.reach [] .init) rfl)
    have hlb : (ints (o5 ++ [0])).length ≤ 1000000 := by
      have h5 := (h1.facts (fun b t ht => tg_mem ht)).2
      have h6 := cnt_put (m := fun _ => false) h0 rfl
      have h7 := cnt_le (fun _ => false) F.blocks.length
      simp [ints]
      simp at h5
      omega
    have hl0 : 0 < (ints (o5 ++ [0])).length := by simp [ints]
    have HRV : Hd (ints (o5 ++ [0]).reverse = (ints (o5 ++ [0])).reverse) := ⟨by simp [ints]⟩
    generalize ints (o5 ++ [0]) = l at *
    obtain ⟨A5, c5, rfl, _, _⟩ := Ow.form h3'
    obtain ⟨gl, rfl, hgl, _⟩ := Ow.ptr h3' hl0
    have H3 := Hd.mk (show OI w5 (fun g => g = gl) _ _ from ⟨h3'.1, fun g hg => by simp [Value.ownBlock] at hg; omega⟩)
    have HK5 := Hd.mk hk5
    clear h1 h2 h3 h4 h3' hk5
    go_wp2
    go_loopg [4] (l.length / 2) (fun gg v4 wr => RevRel l gl c5 w5 gg v4 wr)
    case atStart => exact ⟨0, rfl, Nat.zero_le _, Nat.le_refl _, by rw [rv_zero]; exact H3.out, Keeps.refl _ _⟩
    case round =>
      clear H3
      obtain ⟨i, rfl, hi, hgg, hO, hK⟩ := hrel
      have HO := Hd.mk hO
      have HK := Hd.mk hK
      clear hO hK
      by_cases hil : i < l.length / 2
      · have c1 := HO.out.at i (by rw [rv_len]; omega)
        have c2 := HO.out.at (l.length - 1 - i) (by rw [rv_len]; omega)
        have f1 := Ow.frozen HO.out i
        have f2 := Ow.frozen HO.out (l.length - 1 - i)
        rw [rv_at, if_neg (by omega)] at c1
        rw [rv_at, if_neg (by omega)] at c2
        have HS := Hd.mk (rv_step hil)
        have HO2 := Hd.mk ((HO.out.set i (l.getD (l.length - 1 - i) 0)).set (l.length - 1 - i) (l.getD i 0))
        rw [HS.out] at HO2
        have hij : i < l.length - 1 - i := by omega
        generalize l.getD i 0 = x at *
        generalize l.getD (l.length - 1 - i) 0 = y at *
        go_wp2
        go_roundg (l.length / 2 - (i + 1))
        case measure => omega
        case rel => exact ⟨i + 1, by go_num, hil, Nat.le_refl _, HO2.out, (HK.out.setCell (fun _ => rfl) _).setCell (fun _ => rfl) _⟩
      · obtain rfl : i = l.length / 2 := by omega
        go_wp2
        go_ret
        refine ⟨_, m5, o5 ++ [0], rfl, HD.out, ?_, ?_⟩
        · have := HO.out
          rw [rv_end] at this
          rw [HRV.out]
          unfold OI at this ⊢
          rw [List.length_reverse] at this ⊢
          exact Ow.mono this (fun g hg => by omega)
        · exact ((((Keeps.refl w (fun _ => False)).alloc _).trans HK5.out (fun g hg e => by omega)).trans HK.out (fun g hg e => by omega)).below0
end Go.Proofs.Ytggbeehnmconmaa
