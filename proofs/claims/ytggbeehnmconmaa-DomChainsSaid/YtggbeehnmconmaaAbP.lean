/- Plain: what stands above what, found by barring each block. -/
import Derived.Test.YtggbeehnmconmaaEdgeP
import Derived.Test.YtggbeehnmconmaaOrdP
namespace Go.Proofs.Ytggbeehnmconmaa
open T

/-- The blocks that are come to from block 0, without coming through one. -/
inductive Rch (bs : List Blk) (bar : Int) : Nat → Prop
  | zero : bar ≠ 0 → Rch bs bar 0
  | step {b t : Nat} : Rch bs bar b → t ∈ tg bs b → (t : Int) ≠ bar → Rch bs bar t
open Classical in
noncomputable def rch (bs : List Blk) (bar : Int) (x : Nat) : Bool := decide (Rch bs bar x)
theorem rch_iff {bs : List Blk} {bar : Int} {x : Nat} : rch bs bar x = true ↔ Rch bs bar x := by classical exact decide_eq_true_iff
noncomputable def overB (bs : List Blk) (d b : Nat) : Bool := rch bs (-1) d && (rch bs (-1) b && !rch bs (d : Int) b)

def bestStep (over : Nat → Nat → Bool) (b : Nat) (best : Int) (d : Nat) : Int := if d ≠ b ∧ over d b = true ∧ (best < 0 ∨ over best.toNat d = true) then (d : Int) else best
def bestTo (over : Nat → Nat → Bool) (b k : Nat) : Int := (List.range k).foldl (bestStep over b) (-1)
def aboveR (over : Nat → Nat → Bool) (n : Nat) : List Int := (List.range n).map fun b => bestTo over b n
def edgeC (over : Nat → Nat → Bool) (bs : List Blk) (b y : Nat) : Bool := (src bs (y : Int)).any (fun s => over b s.toNat) && (decide (y = b) || !over b y)
def edgeR (over : Nat → Nat → Bool) (bs : List Blk) (n : Nat) : List (List Int) := (List.range n).map fun b => ((List.range n).filter fun y => edgeC over bs b y).map fun y : Nat => (y : Int)

theorem bestTo_succ (over : Nat → Nat → Bool) (b k : Nat) : bestTo over b (k + 1) = bestStep over b (bestTo over b k) k := by
  unfold bestTo
  rw [List.range_succ, List.foldl_append]
  rfl

section
variable {bs : List Blk} {L : List Nat} (hO : Ord bs L)
include hO
theorem rch_mem' {bar : Int} {x : Nat} (h : Rch bs bar x) : x ∈ L := by
  induction h with
  | zero _ => exact List.mem_of_getElem? hO.zero
  | step _ ht _ ih => exact hO.shut _ ih _ ht
theorem rch_all : ∀ (k i x : Nat), i ≤ k → L[i]? = some x → Rch bs (-1) x := by
  intro k
  induction k with
  | zero =>
    intro i x hi hx
    obtain rfl : i = 0 := by omega
    rw [hO.zero] at hx
    injection hx with hx
    subst hx
    exact .zero (by omega)
  | succ k ih =>
    intro i x hi hx
    by_cases h0 : i = 0
    · exact ih i x (by omega) hx
    · obtain ⟨k', b, x', h1, h2, h3, h4⟩ := hO.pred i (by omega) (List.getElem?_eq_some_iff.1 hx).1
      rw [hx] at h3
      injection h3 with h3
      subst h3
      exact .step (ih k' b (by omega) h2) h4 (by omega)
theorem rch_mem {x : Nat} : Rch bs (-1) x ↔ x ∈ L :=
  ⟨rch_mem' hO, fun h => by
    obtain ⟨i, hi⟩ := num_mem h
    exact rch_all hO i i x (Nat.le_refl _) (num_some hi)⟩
theorem way_rch {d i : Nat} (hd : d < L.length) (hi : i < L.length) : Way (SL bs L) (fun x => x ≠ d) 0 i ↔ Rch bs ((L.getD d 0 : Nat) : Int) (L.getD i 0) := by
  have hz : L.getD 0 0 = 0 := by rw [List.getD_eq_getElem?_getD, hO.zero]; rfl
  have hpos : 0 < L.length := by omega
  constructor
  · intro h
    induction h with
    | here h0 =>
      rw [hz]
      refine .zero fun e => h0 ?_
      exact getD_inj hO hpos hd (by rw [hz]; omega)
    | @step s i _ hs hp ih =>
      have hsm := hO.gr.src _ _ hs
      obtain ⟨b, h1, h2⟩ := (mem_SL hO (getD_at hi)).1 hs
      have hb : L.getD s 0 = b := by rw [List.getD_eq_getElem?_getD, h1]; rfl
      refine .step (b := b) (hb ▸ ih hsm) h2 fun e => hp ?_
      exact getD_inj hO hi hd (by omega)
  · have key : ∀ x, Rch bs ((L.getD d 0 : Nat) : Int) x → ∀ i, i < L.length → x = L.getD i 0 → Way (SL bs L) (fun x => x ≠ d) 0 i := by
      intro x h
      induction h with
      | zero h0 =>
        intro i hi hx
        obtain rfl := getD_inj hO hpos hi (by rw [hz]; exact hx)
        exact .here fun e => by subst e; rw [hz] at h0; exact h0 rfl
      | @step b t hr ht hne ih =>
        intro i hi hx
        obtain ⟨k, hk⟩ := num_mem (rch_mem' hO hr)
        have hk' := num_some hk
        have hkl := (List.getElem?_eq_some_iff.1 hk').1
        have hb : b = L.getD k 0 := by rw [List.getD_eq_getElem?_getD, hk']; rfl
        refine .step (ih k hkl hb) ((mem_SL hO (getD_at hi)).2 ⟨b, hk', hx ▸ ht⟩) fun e => ?_
        subst e
        exact hne (by rw [hx])
    exact fun h => key _ h i hi rfl
end

section
variable {bs : List Blk} {L : List Nat} {par : Nat → Option Nat} (hT : TreeR bs L par)
include hT
theorem anc_rch {d i : Nat} (hd : d < L.length) (hi : i < L.length) : Anc par d i ↔ ¬ Rch bs ((L.getD d 0 : Nat) : Int) (L.getD i 0) := by
  obtain ⟨hO, j, hI, hF⟩ := hT
  rw [hI.fixed (fun i q hq x hx s hs => hF i q (hI.lt i q hq).2 hq x hx s hs (hO.gr.src _ _ hs)) d i hi, Dm, way_rch hO hd hi]
theorem ovr_over (d b : Nat) : Ovr L par d b ↔ overB bs d b = true := by
  have hO := hT.1
  unfold overB
  rw [Bool.and_eq_true, Bool.and_eq_true, rch_iff, rch_iff, rch_mem hO, rch_mem hO, Bool.not_eq_true', Bool.eq_false_iff, Ne, rch_iff]
  constructor
  · rintro ⟨i, k, h1, h2, h3⟩
    have e1 := num_some h1
    have e2 := num_some h2
    refine ⟨List.mem_of_getElem? e1, List.mem_of_getElem? e2, ?_⟩
    have := (anc_rch hT (List.getElem?_eq_some_iff.1 e1).1 (List.getElem?_eq_some_iff.1 e2).1).1 h3
    rwa [List.getD_eq_getElem?_getD, List.getD_eq_getElem?_getD, e1, e2] at this
  · rintro ⟨h1, h2, h3⟩
    obtain ⟨i, hi⟩ := num_mem h1
    obtain ⟨k, hk⟩ := num_mem h2
    have e1 := num_some hi
    have e2 := num_some hk
    refine ⟨i, k, hi, hk, (anc_rch hT (List.getElem?_eq_some_iff.1 e1).1 (List.getElem?_eq_some_iff.1 e2).1).2 ?_⟩
    rwa [List.getD_eq_getElem?_getD, List.getD_eq_getElem?_getD, e1, e2]
theorem over_at {i k : Nat} (hi : i < L.length) (hk : k < L.length) : overB bs (L.getD i 0) (L.getD k 0) = true ↔ Anc par i k := by
  rw [← ovr_over hT, ovr_at hT.1 hi hk]
theorem over_mem {d b : Nat} (h : overB bs d b = true) : ∃ i k, i < L.length ∧ k < L.length ∧ d = L.getD i 0 ∧ b = L.getD k 0 ∧ Anc par i k := by
  obtain ⟨i, k, h1, h2, h3⟩ := (ovr_over hT d b).2 h
  have e1 := num_some h1
  have e2 := num_some h2
  exact ⟨i, k, (List.getElem?_eq_some_iff.1 e1).1, (List.getElem?_eq_some_iff.1 e2).1, by rw [List.getD_eq_getElem?_getD, e1]; rfl, by rw [List.getD_eq_getElem?_getD, e2]; rfl, h3⟩

/-- What the search has found behind k blocks. -/
theorem best_inv {b q : Nat} (hb : b < L.length) (hq : par b = some q) (k : Nat) :
    (bestTo (overB bs) (L.getD b 0) k = -1 ∧ ∀ x, x < L.length → L.getD x 0 < k → ¬ Anc par x q) ∨
    ∃ i, i < L.length ∧ bestTo (overB bs) (L.getD b 0) k = ((L.getD i 0 : Nat) : Int) ∧ Anc par i q ∧ ∀ x, x < L.length → L.getD x 0 < k → Anc par x q → Anc par x i := by
  have hO := hT.1
  obtain ⟨j, hI, _⟩ := hT.2
  have hqb := hI.V' _ _ hq
  induction k with
  | zero => exact .inl ⟨rfl, fun x _ hx => by omega⟩
  | succ k ih =>
    rw [bestTo_succ, bestStep]
    have hstrict : ∀ x, x < L.length → ((L.getD x 0 ≠ L.getD b 0 ∧ overB bs (L.getD x 0) (L.getD b 0) = true) ↔ Anc par x q) := fun x hx => by
      rw [over_at hT hx hb]
      constructor
      · rintro ⟨h1, h2⟩
        cases h2 with
        | refl => exact absurd rfl h1
        | up h3 h4 =>
          rw [hq] at h3
          injection h3 with h3
          exact h3 ▸ h4
      · intro h
        refine ⟨fun e => ?_, .up hq h⟩
        have := getD_inj hO hx hb e
        have := h.le hI.V'
        omega
    by_cases hs : ∃ x, x < L.length ∧ L.getD x 0 = k ∧ Anc par x q
    · obtain ⟨x, hx, hxk, ha⟩ := hs
      have h1 := (hstrict x hx).2 ha
      rw [hxk] at h1
      rcases ih with ⟨h2, h3⟩ | ⟨i, h2, h3, h4, h5⟩
      · rw [if_pos ⟨h1.1, h1.2, .inl (by omega)⟩]
        refine .inr ⟨x, hx, by rw [hxk], ha, fun y hy hyk hay => ?_⟩
        by_cases hyx : L.getD y 0 = k
        · rw [getD_inj hO hy hx (by omega)]
          exact .refl _
        · exact absurd hay (h3 y hy (by omega))
      · by_cases hix : Anc par i x
        · rw [if_pos ⟨h1.1, h1.2, .inr (by rw [h3, Int.toNat_natCast, ← hxk, over_at hT h2 hx]; exact hix)⟩]
          refine .inr ⟨x, hx, by rw [hxk], ha, fun y hy hyk hay => ?_⟩
          by_cases hyx : L.getD y 0 = k
          · rw [getD_inj hO hy hx (by omega)]
            exact .refl _
          · exact (h5 y hy (by omega) hay).trans hix
        · rw [if_neg (by
            rintro ⟨_, _, h6 | h6⟩
            · omega
            · rw [h3, Int.toNat_natCast, ← hxk, over_at hT h2 hx] at h6
              exact hix h6)]
          refine .inr ⟨i, h2, h3, h4, fun y hy hyk hay => ?_⟩
          by_cases hyx : L.getD y 0 = k
          · rw [getD_inj hO hy hx (by omega)]
            rcases Nat.le_total i x with hle | hle
            · exact absurd (Anc.linear hI.V' h4 ha hle) hix
            · exact Anc.linear hI.V' ha h4 hle
          · exact h5 y hy (by omega) hay
    · have hns : ∀ y, y < L.length → L.getD y 0 < k + 1 → Anc par y q → L.getD y 0 < k := fun y hy hyk hay => by
        by_cases hyx : L.getD y 0 = k
        · exact absurd ⟨y, hy, hyx, hay⟩ hs
        · omega
      rw [if_neg (by
        rintro ⟨h1, h2, _⟩
        obtain ⟨x, b', hx, hb', e1, e2, ha⟩ := over_mem hT h2
        exact hs ⟨x, hx, e1.symm, (hstrict x hx).1 ⟨e1 ▸ h1, e1 ▸ h2⟩⟩)]
      rcases ih with ⟨h2, h3⟩ | ⟨i, h2, h3, h4, h5⟩
      · exact .inl ⟨h2, fun y hy hyk hay => h3 y hy (hns y hy hyk hay) hay⟩
      · exact .inr ⟨i, h2, h3, h4, fun y hy hyk hay => h5 y hy (hns y hy hyk hay) hay⟩

omit hT in
theorem best_none {b : Nat} (h : ∀ d, d ≠ b → overB bs d b = false) (k : Nat) : bestTo (overB bs) b k = -1 := by
  induction k with
  | zero => rfl
  | succ k ih =>
    rw [bestTo_succ, bestStep, if_neg, ih]
    rintro ⟨h1, h2, _⟩
    rw [h k h1] at h2
    cases h2

/-- 18.2. -/
theorem above_eq : abL bs.length L par = aboveR (overB bs) bs.length := by
  have hO := hT.1
  obtain ⟨j, hI, _⟩ := hT.2
  apply List.ext_getElem?
  intro b
  by_cases hb : b < bs.length
  · rw [abL_get L par hb, aboveR, List.getElem?_map, List.getElem?_range hb, Option.map_some]
    congr 1
    cases hn : num L b with
    | none =>
      rw [abV, hn]
      refine (best_none (fun d _ => ?_) _).symm
      cases h : overB bs d b with
      | false => rfl
      | true =>
        obtain ⟨i, k, hi, hk, e1, e2, _⟩ := over_mem hT h
        rw [e2, num_get hO.nodup (getD_at hk)] at hn
        cases hn
    | some k =>
      have hk := num_some hn
      have hkl := (List.getElem?_eq_some_iff.1 hk).1
      have hbk : b = L.getD k 0 := by rw [List.getD_eq_getElem?_getD, hk]; rfl
      rw [abV, hn]
      cases hp : par k with
      | none =>
        simp only [hp]
        refine (best_none (fun d hd => ?_) _).symm
        cases h : overB bs d b with
        | false => rfl
        | true =>
          obtain ⟨i, k', hi, hk', e1, e2, ha⟩ := over_mem hT h
          have : k' = k := getD_inj hO hk' hkl (by omega)
          subst this
          cases ha with
          | refl => exact absurd (e1.trans e2.symm) hd
          | up h1 _ => rw [hp] at h1; cases h1
      | some q =>
        simp only [hp]
        have hqk := hI.V' _ _ hp
        rw [hbk]
        have hqn := hO.lt _ (List.mem_of_getElem? (getD_at (L := L) (i := q) (by omega)))
        rcases best_inv hT hkl hp bs.length with ⟨_, h2⟩ | ⟨i, h1, h2, h3, h4⟩
        · exact absurd (.refl q) (h2 q (by omega) hqn)
        · rw [h2]
          have := (h4 q (by omega) hqn (.refl q)).le hI.V'
          have := h3.le hI.V'
          obtain rfl : i = q := by omega
          rfl
  · rw [List.getElem?_eq_none (by rw [abL_len]; omega), List.getElem?_eq_none (by simp [aboveR]; omega)]

/-- 18.3. -/
theorem edge_eq : eRow (inE bs L par) bs.length bs.length (fun _ => false) = edgeR (overB bs) bs bs.length := by
  have hO := hT.1
  unfold eRow edgeR
  apply List.map_congr_left
  intro d _
  simp only [Bool.false_eq_true, if_false, List.append_nil]
  congr 1
  apply List.filter_congr
  intro y _
  rw [Bool.eq_iff_iff, inE_iff]
  unfold InE edgeC Pth
  rw [Bool.and_eq_true, List.any_eq_true, Bool.or_eq_true, decide_eq_true_iff, Bool.not_eq_true', Bool.eq_false_iff, Ne, ← ovr_over hT]
  constructor
  · rintro ⟨h1, s, h2, h3, h4, h5⟩
    refine ⟨⟨s, h2, ?_⟩, h5.elim (fun e => .inl e.symm) .inr⟩
    rw [Int.toNat_natCast, ← ovr_over hT]
    exact h4
  · rintro ⟨⟨s, h2, h3⟩, h5⟩
    obtain ⟨k, rfl, hk, hy⟩ := mem_src.1 h2
    rw [Int.toNat_natCast] at h3
    obtain ⟨i, k', _, hk', _, e2, _⟩ := over_mem hT h3
    have hm : k ∈ L := e2 ▸ List.mem_of_getElem? (getD_at hk')
    refine ⟨hO.shut _ hm _ hy, k, h2, hm, (ovr_over hT _ _).2 h3, h5.elim (fun e => .inl e.symm) .inr⟩
end
end Go.Proofs.Ytggbeehnmconmaa
