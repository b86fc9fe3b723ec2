/- Plain: the targets, sources, and the way through the blocks that Order goes. -/
import Derived.Test.YtggbeehnmconmaaD0
namespace Go.Proofs.Ytggbeehnmconmaa

/-- The targets of a block, as the document has them. -/
def tgtL (x : Blk) : List Int := if x.fin = 0 then [x.a] else if x.fin = 1 then (if x.a = x.b then [x.a] else [x.a, x.b]) else []
def tgt (bs : List Blk) (b : Int) : List Int := if b < 0 ∨ b ≥ bs.length then [] else (tgtL bs[b.toNat]!).filter fun t => !(decide (t < 0) || decide (t ≥ bs.length))

/-- Sources below k. -/
def srcTo (bs : List Blk) (b : Int) (k : Nat) : List Int := ((List.range k).filter fun i : Nat => (tgt bs (i : Int)).contains b).map fun i : Nat => (i : Int)
def src (bs : List Blk) (b : Int) : List Int := srcTo bs b bs.length
theorem srcTo_succ (bs : List Blk) (b : Int) (k : Nat) : srcTo bs b (k + 1) = srcTo bs b k ++ (if (tgt bs (k : Int)).contains b then [(k : Int)] else []) := by
  unfold srcTo
  rw [List.range_succ, List.filter_append, List.map_append]
  congr 1
  by_cases h : (tgt bs (k : Int)).contains b = true
  · rw [if_pos h]
    simp at h
    simp [h]
  · rw [if_neg h]
    simp at h
    simp [h]
theorem srcTo_len (bs : List Blk) (b : Int) (k : Nat) : (srcTo bs b k).length ≤ k := by
  unfold srcTo
  rw [List.length_map]
  exact Nat.le_trans (List.length_filter_le _ _) (by simp)

theorem tgt_mem {bs : List Blk} {b t : Int} (h : t ∈ tgt bs b) : 0 ≤ t ∧ t < bs.length := by
  unfold tgt at h
  split at h
  · simp at h
  · rw [List.mem_filter] at h
    have := h.2
    simp at this
    omega
theorem tgt_nodup (bs : List Blk) (b : Int) : (tgt bs b).Nodup := by
  unfold tgt
  split
  · simp
  · refine List.Pairwise.filter _ ?_
    unfold tgtL
    split
    · simp
    · split
      · split <;> simp_all
      · simp
theorem tgt_len (bs : List Blk) (b : Int) : (tgt bs b).length ≤ 2 := by
  unfold tgt
  split
  · simp
  · refine Nat.le_trans (List.length_filter_le _ _) ?_
    unfold tgtL
    split
    · simp
    · split
      · split <;> simp
      · simp

/-- What All has come to behind k blocks and the targets l of the next. -/
def allRow (bs : List Blk) (k : Nat) (l : List Int) : List (List Int) := (List.range bs.length).map fun b : Nat => srcTo bs b k ++ (if l.contains (b : Int) then [(k : Int)] else [])
def allS (bs : List Blk) : List (List Int) := (List.range bs.length).map fun b : Nat => src bs b
theorem allRow_len (bs : List Blk) (k : Nat) (l : List Int) : (allRow bs k l).length = bs.length := by simp [allRow]
theorem allRow_zero (bs : List Blk) : allRow bs 0 [] = List.replicate bs.length [] := by
  apply List.ext_getElem
  · simp [allRow]
  · intro i _ _
    simp [allRow, srcTo]
theorem allRow_next (bs : List Blk) (k : Nat) : allRow bs k (tgt bs k) = allRow bs (k + 1) [] := by
  unfold allRow
  apply List.map_congr_left
  intro b _
  rw [srcTo_succ]
  simp
theorem allRow_all (bs : List Blk) : allRow bs bs.length [] = allS bs := by
  unfold allRow allS src
  apply List.map_congr_left
  intro b _
  simp
theorem allRow_step (bs : List Blk) (k : Nat) (l : List Int) (t : Nat) (ht : t < bs.length) (hn : l.contains (t : Int) = false) (h : t < (allRow bs k l).length) :
    (allRow bs k l)[t] = srcTo bs t k ∧ (allRow bs k l).set t ((allRow bs k l)[t] ++ [(k : Int)]) = allRow bs k (l ++ [(t : Int)]) := by
  have h0 : (allRow bs k l)[t] = srcTo bs t k := by
    simp [allRow] at hn ⊢
    exact hn
  refine ⟨h0, ?_⟩
  rw [h0]
  apply List.ext_getElem
  · simp [allRow]
  · intro i hi1 hi2
    by_cases hi : i = t
    · subst hi
      simp [allRow]
    · rw [List.getElem_set_ne (by omega)]
      simp [allRow]
      have : ¬ (i : Int) = (t : Int) := by omega
      simp [this]


/-! ### Order's way: a stack of blocks, and how many of each one's targets were looked at -/
def tg (bs : List Blk) (b : Nat) : List Nat := (tgt bs (b : Int)).map Int.toNat
theorem tg_mem {bs : List Blk} {b t : Nat} (h : t ∈ tg bs b) : t < bs.length := by
  obtain ⟨x, hx, rfl⟩ := List.mem_map.1 h
  have := tgt_mem hx
  omega
theorem tgt_get {bs : List Blk} {b k : Nat} (h : k < (tg bs b).length) (h' : k < (tgt bs (b : Int)).length) : (tgt bs (b : Int))[k] = (((tg bs b)[k] : Nat) : Int) := by
  have := tgt_mem (List.getElem_mem h')
  simp [tg]
  omega
theorem tg_length (bs : List Blk) (b : Nat) : (tg bs b).length = (tgt bs (b : Int)).length := by simp [tg]

/-- What Order's loop comes to: the blocks that were met, those that were left, the stack (its top last). -/
inductive DReach (g : Nat → List Nat) : (Nat → Bool) → List Nat → List (Nat × Nat) → Prop
  | init : DReach g (fun j => decide (j = 0)) [] [(0, 0)]
  | pop {m out way b k} : DReach g m out (way ++ [(b, k)]) → k = (g b).length → DReach g m (out ++ [b]) way
  | skip {m out way b k} (h : k < (g b).length) : DReach g m out (way ++ [(b, k)]) → m (g b)[k] = true → DReach g m out (way ++ [(b, k + 1)])
  | push {m out way b k} (h : k < (g b).length) : DReach g m out (way ++ [(b, k)]) → m (g b)[k] = false →
      DReach g (fun j => if j = (g b)[k] then true else m j) out (way ++ [(b, k + 1), ((g b)[k], 0)])

def unmet (g : Nat → List Nat) (m : Nat → Bool) : Nat → Nat
  | 0 => 0
  | n + 1 => unmet g m n + bif m n then 0 else (g n).length + 2
def wayM (g : Nat → List Nat) (way : List (Nat × Nat)) : Nat := (way.map fun x => (g x.1).length - x.2 + 1).sum
theorem unmet_set (g : Nat → List Nat) (m : Nat → Bool) (t : Nat) (n : Nat) : unmet g (fun j => if j = t then true else m j) n + (if t < n ∧ m t = false then (g t).length + 2 else 0) = unmet g m n := by
  induction n with
  | zero => simp [unmet]
  | succ n ih =>
    simp only [unmet]
    by_cases h : t = n
    · subst h
      have h4 : ¬ t < t := by omega
      simp only [h4, false_and, if_false] at ih
      cases hm : m t <;> simp only [if_true, cond_true, cond_false, show t < t + 1 by omega, true_and, Bool.true_eq_false, if_false] <;> omega
    · have h2 : ¬ n = t := fun e => h e.symm
      simp only [h2, if_false]
      by_cases h3 : t < n
      · simp only [h3, true_and] at ih
        simp only [show t < n + 1 by omega, true_and]
        omega
      · have : ¬ t < n + 1 := by omega
        simp only [h3, this, false_and, if_false] at ih ⊢
        omega
theorem wayM_snoc (g : Nat → List Nat) (way : List (Nat × Nat)) (b k : Nat) : wayM g (way ++ [(b, k)]) = wayM g way + ((g b).length - k + 1) := by
  simp [wayM]
/-- Blocks on the stack and among those that were left are blocks; no more were looked at than there are. -/
theorem DReach.bounds {g : Nat → List Nat} {n : Nat} (hg : ∀ b t, t ∈ g b → t < n) (hn : 0 < n) {m out way} (h : DReach g m out way) :
    (∀ x ∈ way, x.1 < n ∧ x.2 ≤ (g x.1).length) ∧ (∀ x ∈ out, x < n) ∧ (∀ j, m j = true → j < n) := by
  induction h with
  | init => simp; omega
  | pop _ _ ih =>
    obtain ⟨h1, h2, h3⟩ := ih
    refine ⟨fun x hx => h1 x (by simp [hx]), fun x hx => ?_, h3⟩
    rcases List.mem_append.1 hx with hx | hx
    · exact h2 x hx
    · simp at hx; subst hx; exact (h1 (_, _) (List.mem_append_right _ (List.mem_singleton.2 rfl))).1
  | skip h _ _ ih =>
    obtain ⟨h1, h2, h3⟩ := ih
    refine ⟨fun x hx => ?_, h2, h3⟩
    rcases List.mem_append.1 hx with hx | hx
    · exact h1 x (by simp [hx])
    · simp at hx; subst hx; exact ⟨(h1 (_, _) (List.mem_append_right _ (List.mem_singleton.2 rfl))).1, h⟩
  | push h _ _ ih =>
    obtain ⟨h1, h2, h3⟩ := ih
    refine ⟨fun x hx => ?_, h2, fun j hj => ?_⟩
    · rcases List.mem_append.1 hx with hx | hx
      · exact h1 x (by simp [hx])
      · simp at hx
        rcases hx with rfl | rfl
        · exact ⟨(h1 (_, _) (List.mem_append_right _ (List.mem_singleton.2 rfl))).1, h⟩
        · exact ⟨hg _ _ (List.getElem_mem h), Nat.zero_le _⟩
    · simp only at hj
      split at hj
      · next hj2 => rw [hj2]; exact hg _ _ (List.getElem_mem h)
      · exact h3 j hj
theorem nodup_length : ∀ (n : Nat) (l : List Nat), l.Nodup → (∀ x ∈ l, x < n) → l.length ≤ n
  | 0, l, _, h => by
    cases l with
    | nil => simp
    | cons x xs => exact absurd (h x (by simp)) (by omega)
  | n + 1, l, hn, h => by
    have h1 := nodup_length n (l.erase n) (hn.erase n) (fun x hx => by
      have h2 := h x (List.mem_of_mem_erase hx)
      have h3 : x ≠ n := fun e => by
        subst e
        exact (List.Nodup.not_mem_erase hn) hx
      omega)
    have := List.length_erase_le (a := n) (l := l)
    rw [List.length_erase] at h1
    split at h1 <;> omega
theorem DReach.nodup {g : Nat → List Nat} {m out way} (h : DReach g m out way) : (out ++ way.map Prod.fst).Nodup ∧ ∀ x, x ∈ out ++ way.map Prod.fst → m x = true := by
  induction h with
  | init => simp
  | @pop m out way b k _ _ ih =>
    have hp : (out ++ [b] ++ way.map Prod.fst).Perm (out ++ (way ++ [(b, k)]).map Prod.fst) := by
      rw [List.map_append, List.append_assoc]
      exact List.Perm.append_left _ List.perm_append_comm
    exact ⟨hp.nodup_iff.2 ih.1, fun x hx => ih.2 x (hp.mem_iff.1 hx)⟩
  | skip _ _ _ ih => simpa using ih
  | @push m out way b k h hd hm ih =>
    obtain ⟨h1, h2⟩ := ih
    have hmap : (way ++ [(b, k + 1), ((g b)[k], 0)]).map Prod.fst = (way ++ [(b, k)]).map Prod.fst ++ [(g b)[k]] := by simp
    rw [hmap, ← List.append_assoc]
    refine ⟨?_, fun x hx => ?_⟩
    · rw [List.nodup_append]
      refine ⟨h1, by simp, fun a ha b' hb' e => ?_⟩
      simp at hb'
      subst hb' e
      rw [h2 _ ha] at hm
      exact absurd hm (by simp)
    · rcases List.mem_append.1 hx with hx | hx
      · simp only
        split
        · rfl
        · exact h2 x hx
      · simp at hx
        simp [hx]
theorem DReach.lengths {g : Nat → List Nat} {n : Nat} (hg : ∀ b t, t ∈ g b → t < n) (hn : 0 < n) {m out way} (h : DReach g m out way) : out.length + way.length ≤ n := by
  have h1 := h.nodup
  have h2 := h.bounds hg hn
  have := nodup_length n _ h1.1 (fun x hx => h2.2.2 x (h1.2 x hx))
  simpa using this

end Go.Proofs.Ytggbeehnmconmaa
