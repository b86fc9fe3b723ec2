/- Plain: where Order's loop ends it has an order of all that are reached. -/
import Derived.Test.YtggbeehnmconmaaTreeQ
namespace Go.Proofs.Ytggbeehnmconmaa

structure DInv (g : Nat → List Nat) (m : Nat → Bool) (out : List Nat) (way : List (Nat × Nat)) : Prop where
  bottom : (way = [] ∧ ∃ o, out = o ++ [0]) ∨ ∃ k rest, way = (0, k) :: rest
  stk : ∀ ws x y rest, way.map Prod.fst = ws ++ x :: y :: rest → y ∈ g x
  scan : ∀ x ∈ way, ∀ i (h : i < (g x.1).length), i < x.2 → m (g x.1)[i] = true
  outmet : ∀ b ∈ out, ∀ t ∈ g b, m t = true
  metin : ∀ x, m x = true → x ∈ out ∨ x ∈ way.map Prod.fst
  pred : ∀ pre x post, out = pre ++ x :: post → x = 0 ∨ (∃ b ∈ post, x ∈ g b) ∨ ∃ b ∈ way.map Prod.fst, x ∈ g b

theorem snoc_cases {α : Type} {a : List α} {x : α} {pre post : List α} {y : α} (h : a ++ [x] = pre ++ y :: post) : (post = [] ∧ y = x ∧ a = pre) ∨ ∃ post', post = post' ++ [x] ∧ a = pre ++ y :: post' := by
  rcases List.eq_nil_or_concat post with rfl | ⟨p, z, rfl⟩
  · have h1 := List.append_inj' h rfl
    left
    simp at h1
    exact ⟨rfl, h1.2.symm, h1.1⟩
  · right
    rw [List.concat_eq_append] at h ⊢
    have h2 : a ++ [x] = (pre ++ y :: p) ++ [z] := by rw [h]; simp
    have h1 := List.append_inj' h2 rfl
    simp at h1
    exact ⟨p, by rw [h1.2], h1.1⟩

theorem DReach.inv {g : Nat → List Nat} {m out way} (h : DReach g m out way) : DInv g m out way := by
  induction h with
  | init =>
    refine ⟨.inr ⟨0, [], rfl⟩, fun ws x y rest h => ?_, ?_, ?_, ?_, ?_⟩
    · have := congrArg List.length h
      simp at this
      omega
    · intro x hx i _ hi
      simp at hx
      subst hx
      simp at hi
    · simp
    · intro x hx
      simp at hx
      simp [hx]
    · intro pre x post h
      simp at h
  | @pop m out way b k hd hk ih =>
    have hb : way = [] → b = 0 := fun e => by
      subst e
      rcases ih.bottom with ⟨h1, _⟩ | ⟨k', rest, h1⟩
      · simp at h1
      · simp at h1; exact h1.1.1
    refine ⟨?_, fun ws x y rest h => ih.stk ws x y (rest ++ [b]) (by simp [h]), fun x hx => ih.scan x (by simp [hx]), fun b' hb' t ht => ?_, fun x hx => ?_, fun pre x post h => ?_⟩
    · cases way with
      | nil => exact .inl ⟨rfl, out, by rw [hb rfl]⟩
      | cons w ws =>
        rcases ih.bottom with ⟨h1, _⟩ | ⟨k', rest, h1⟩
        · simp at h1
        · simp at h1
          exact .inr ⟨k', ws, by rw [h1.1]⟩
    · rcases List.mem_append.1 hb' with hb' | hb'
      · exact ih.outmet b' hb' t ht
      · simp at hb'
        subst hb'
        obtain ⟨i, hi, rfl⟩ := List.mem_iff_getElem.1 ht
        exact ih.scan (b', k) (by simp) i hi (by simp; omega)
    · rcases ih.metin x hx with h1 | h1
      · exact .inl (by simp [h1])
      · simp at h1
        rcases h1 with h1 | h1
        · exact .inr (by simp [h1])
        · exact .inl (by simp [h1])
    · rcases snoc_cases h with ⟨rfl, rfl, rfl⟩ | ⟨post', rfl, h1⟩
      · rcases List.eq_nil_or_concat way with e | ⟨ws, z, e⟩
        · exact .inl (hb e)
        · rw [List.concat_eq_append] at e
          subst e
          exact .inr (.inr ⟨z.1, by simp, ih.stk (ws.map Prod.fst) z.1 x [] (by simp)⟩)
      · rcases ih.pred pre x post' h1 with h2 | ⟨b', h2, h3⟩ | ⟨b', h2, h3⟩
        · exact .inl h2
        · exact .inr (.inl ⟨b', by simp [h2], h3⟩)
        · rw [List.map_append, List.mem_append] at h2
          rcases h2 with h2 | h2
          · exact .inr (.inr ⟨b', h2, h3⟩)
          · simp at h2
            exact .inr (.inl ⟨b', by simp [h2], h3⟩)
  | @skip m out way b k hk hd hm ih =>
    have e : (way ++ [(b, k + 1)]).map Prod.fst = (way ++ [(b, k)]).map Prod.fst := by simp
    refine ⟨?_, by rw [e]; exact ih.stk, fun x hx i hi hlt => ?_, ih.outmet, by rw [e]; exact ih.metin, by rw [e]; exact ih.pred⟩
    · right
      rcases ih.bottom with ⟨h1, _⟩ | ⟨k', rest, h1⟩
      · simp at h1
      · cases way with
        | nil => simp at h1; exact ⟨k + 1, [], by simp [h1.1.1]⟩
        | cons w ws => simp at h1; exact ⟨k', ws ++ [(b, k + 1)], by simp [h1.1]⟩
    · rcases List.mem_append.1 hx with hx | hx
      · exact ih.scan x (by simp [hx]) i hi hlt
      · simp at hx
        subst hx
        simp only at hi hlt ⊢
        by_cases e : i = k
        · subst e; exact hm
        · exact ih.scan (b, k) (by simp) i hi (by simp only; omega)
  | @push m out way b k hk hd hm ih =>
    have e : (way ++ [(b, k + 1), ((g b)[k], 0)]).map Prod.fst = (way ++ [(b, k)]).map Prod.fst ++ [(g b)[k]] := by simp
    have hmono : ∀ j, m j = true → (if j = (g b)[k] then true else m j) = true := fun j hj => by split <;> simp_all
    refine ⟨?_, fun ws x y rest h => ?_, fun x hx i hi hlt => ?_, fun b' hb' t ht => hmono _ (ih.outmet b' hb' t ht), fun x hx => ?_, fun pre x post h => ?_⟩
    · right
      rcases ih.bottom with ⟨h1, _⟩ | ⟨k', rest, h1⟩
      · simp at h1
      · cases way with
        | nil => simp at h1; exact ⟨k + 1, [((g b)[k], 0)], by simp [h1.1.1]⟩
        | cons w ws => simp at h1; exact ⟨k', ws ++ [(b, k + 1), ((g b)[k], 0)], by simp [h1.1]⟩
    · rw [e] at h
      have h' : (way ++ [(b, k)]).map Prod.fst ++ [(g b)[k]] = (ws ++ [x]) ++ y :: rest := by rw [h]; simp
      rcases snoc_cases h' with ⟨rfl, rfl, h1⟩ | ⟨rest', rfl, h1⟩
      · rw [List.map_append] at h1
        have h2 := List.append_inj' h1 rfl
        simp at h2
        rw [← h2.2]
        exact List.getElem_mem hk
      · exact ih.stk ws x y rest' (by rw [h1]; simp)
    · have hx' : x ∈ way ∨ x = (b, k + 1) ∨ x = ((g b)[k], 0) := by simpa using hx
      rcases hx' with hx | rfl | rfl
      · exact hmono _ (ih.scan x (by simp [hx]) i hi hlt)
      · simp only at hi hlt ⊢
        by_cases e : i = k
        · subst e; simp
        · exact hmono _ (ih.scan (b, k) (by simp) i hi (by simp only; omega))
      · simp at hlt
    · rw [e]
      by_cases h1 : x = (g b)[k]
      · exact .inr (by simp [h1])
      · simp only [h1, if_false] at hx
        rcases ih.metin x hx with h2 | h2
        · exact .inl h2
        · exact .inr (List.mem_append_left _ h2)
    · rw [e]
      rcases ih.pred pre x post h with h2 | h2 | ⟨b', h2, h3⟩
      · exact .inl h2
      · exact .inr (.inl h2)
      · exact .inr (.inr ⟨b', List.mem_append_left _ h2, h3⟩)

theorem ord_of {bs : List Blk} {m out} (h : DReach (tg bs) m out []) (h0 : 0 < bs.length) : Ord bs out.reverse := by
  have hi := h.inv
  have hb := h.bounds (fun b t ht => tg_mem ht) h0
  obtain ⟨o, ho⟩ : ∃ o, out = o ++ [0] := by
    rcases hi.bottom with ⟨_, h1⟩ | ⟨k, rest, h1⟩
    · exact h1
    · simp at h1
  have hnd : out.Nodup := by simpa using h.nodup.1
  refine ⟨(List.reverse_perm out).nodup_iff.2 hnd, fun x hx => hb.2.1 x (List.mem_reverse.1 hx), by rw [ho]; simp, fun i h1 h2 => ?_, fun b hb' t ht => ?_⟩
  · rw [List.length_reverse] at h2
    have h3 : out.length - 1 - i < out.length := by omega
    have e : out = out.take (out.length - 1 - i) ++ out[out.length - 1 - i] :: out.drop (out.length - 1 - i + 1) := by
      rw [← List.drop_eq_getElem_cons h3, List.take_append_drop]
    have hx : out.reverse[i]? = some out[out.length - 1 - i] := by
      rw [List.getElem?_reverse (by omega), List.getElem?_eq_getElem h3]
    rcases hi.pred _ _ _ e with h4 | ⟨b, h4, h5⟩ | ⟨b, h4, h5⟩
    · exfalso
      -- 0 is the last of out alone
      have h6 : out[out.length - 1]? = some 0 := by rw [ho]; simp
      have h7 : out[out.length - 1 - i]? = some 0 := by rw [List.getElem?_eq_getElem h3, h4]
      have h8 := num_get hnd h6
      have h9 := num_get hnd h7
      rw [h8] at h9
      injection h9
      omega
    · obtain ⟨k, hk, rfl⟩ := List.mem_iff_getElem.1 h4
      rw [List.length_drop] at hk
      refine ⟨out.length - 1 - (out.length - 1 - i + 1 + k), _, _, by omega, ?_, hx, h5⟩
      rw [List.getElem?_reverse (by omega), show out.length - 1 - (out.length - 1 - (out.length - 1 - i + 1 + k)) = out.length - 1 - i + 1 + k by omega, List.getElem_drop, List.getElem?_eq_getElem]
    · simp at h4
  · rw [List.mem_reverse] at hb' ⊢
    have := hi.metin t (hi.outmet b hb' t ht)
    simpa using this
end Go.Proofs.Ytggbeehnmconmaa
