/- A function of SSA that came in is read as one: the data of a row, opened. -/
import Derived.Test.YtggbeehnmconmaaB0
import Derived.Test.YtggbeehnmconmaaRows
import Derived.ProofKit
import Derived.Deep.Slices
import Derived.Deep.Fields
import Derived.ChangeSame
namespace Go.Proofs.Ytggbeehnmconmaa
open Go.RowKit Go.ChangeShapes Go.WideShapes Go.Deep

section
variable {H : Type} {enc : TypeId × Value → H} {w : World} {base : Nat} {spare : Nat → Bool} {held : Bool}

/-- A slice that came in, each element's cells read as R has it. -/
theorem open_RL {α : Type} {R : α → List Value → Prop} {t e : TypeId} {fuel : Nat} {cs : List Value} {x : DataW H × List MemPlace} (sz : Nat) (ht : Try.prog.underlying t = some (.slice e)) (hsz : Try.prog.cellsOf e = sz) (h0 : 0 < sz)
    (hR : ∀ n cs x, DataW.trod enc Try.prog w base spare held n e cs = some x → ∃ a, R a cs)
    (h : DataW.trod enc Try.prog w base spare held fuel t cs = some x) : ∃ v xs, cs = [v] ∧ RL R sz w v xs := by
  rcases open_slice ht h with ⟨rfl, _⟩ | ⟨a, len, cap, m, n, D, Pl, rfl, hb, hl, hm, hmm, hx, hi⟩
  · exact ⟨_, [], rfl, none, 0, rfl, by simp, by simp, .inl rfl⟩
  · have hle : len ≤ m := by rw [hmm]; split <;> omega
    have hel : ∀ i : Fin len, ∃ a' : α, ∃ cs, cs.length = sz ∧ R a' cs ∧ ∀ j u, cs[j]? = some u → w.cell? (a.add (i.1 * sz + j)) = some u := fun i => by
      obtain ⟨cs', h1, h2⟩ := hi i.1 (by omega)
      obtain ⟨a', h3⟩ := hR _ _ _ h2
      obtain ⟨_, h4, h5⟩ := World.cells?_some h1
      rw [hsz] at h4 h5
      refine ⟨a', cs', h4, h3, fun j u hj => ?_⟩
      have hjl := (List.getElem?_eq_some_iff.1 hj).1
      rw [← Go.Deep.add_add, h5 j (by omega), hj]
    unfold maxLen at hm
    refine ⟨_, List.ofFn fun i => (hel i).choose, rfl, some a, cap, by simp, by simpa using hl, by simp; omega, ?_⟩
    rcases Nat.eq_zero_or_pos len with hz | hz
    · left
      subst hz
      simp
    · right
      obtain ⟨cs0, h1, _, h3⟩ := (hel ⟨0, hz⟩).choose_spec
      have hc0 : cs0[0]? = some (cs0[0]'(by omega)) := List.getElem?_eq_getElem (by omega)
      have hsp := World.cell?_spot (h3 0 _ hc0)
      have hspot : a.spot = none := by simpa [Addr.add] using hsp
      obtain ⟨b, o, sp⟩ := a
      simp only at hspot
      subst hspot
      refine ⟨b, o, rfl, fun i hi' => ?_⟩
      simp only [List.length_ofFn] at hi'
      obtain ⟨cs1, k1, k2, k3⟩ := (hel ⟨i, hi'⟩).choose_spec
      refine ⟨cs1, k1, by simpa using k2, fun j u hj => ?_⟩
      have := k3 j u hj
      rwa [show (⟨b, o, none⟩ : Addr).add (i * sz + j) = ⟨b, o + i * sz + j, none⟩ from by unfold Addr.add; split <;> simp_all; omega] at this

theorem open_ints_R {fuel : Nat} {cs : List Value} {x : DataW H × List MemPlace} (h : DataW.trod enc Try.prog w base spare held fuel 27 cs = some x) : ∃ v xs, cs = [v] ∧ RInts w v xs :=
  open_RL 1 Try.underlying27 (by kernel_rfl) (by decide) (fun n cs x h => by
    obtain ⟨k, rfl, _⟩ := DataW.trod_int Try.underlying3 h
    exact ⟨k, rfl⟩) h

/-- A struct whose fields have one cell each: the cells, field by field. -/
theorem open_fields {t : TypeId} {fs : Array Field} {fuel : Nat} {cs : List Value} {x : DataW H × List MemPlace} (ht : Try.prog.underlying t = some (.struct fs)) (hone : oneCellFields Try.prog fs = true) (hC : Try.prog.cellsOf t = fs.size)
    (h : DataW.trod enc Try.prog w base spare held fuel t cs = some x) : cs.length = fs.size ∧ ∀ (j : Nat) (f : Field), fs[j]? = some f → ∃ v, cs[j]? = some v ∧ ∃ n y, DataW.trod enc Try.prog w base spare held n f.type [v] = some y := by
  obtain ⟨ys, n', hn', hy, hlen, hyl, hf⟩ := DataW.trod_struct ht h
  rw [hC] at hlen
  refine ⟨hlen, fun j f hj => ?_⟩
  obtain ⟨ho, hk⟩ := hone_of hone j f hj
  have hjl : j < fs.size := (Array.getElem?_eq_some_iff.1 hj).1
  have h1 := hf j f hj
  rw [ho, hk] at h1
  have hone' : (cs.drop j).take 1 = [cs[j]'(by omega)] := by
    rw [List.drop_eq_getElem_cons (by omega)]
    rfl
  rw [hone'] at h1
  have hys : ys[j]? = some (ys[j]'(by omega)) := List.getElem?_eq_getElem (by omega)
  exact ⟨_, List.getElem?_eq_getElem (by omega), _, _, h1.trans hys⟩
theorem list2 {cs : List Value} {a b : Value} (hl : cs.length = 2) (h0 : cs[0]? = some a) (h1 : cs[1]? = some b) : cs = [a, b] := by
  match cs, hl with
  | [x, y], _ => simp at h0 h1; simp [h0, h1]
theorem list5 {cs : List Value} {a b c d e : Value} (hl : cs.length = 5) (h0 : cs[0]? = some a) (h1 : cs[1]? = some b) (h2 : cs[2]? = some c) (h3 : cs[3]? = some d) (h4 : cs[4]? = some e) : cs = [a, b, c, d, e] := by
  match cs, hl with
  | [_, _, _, _, _], _ => simp at h0 h1 h2 h3 h4; simp [h0, h1, h2, h3, h4]
theorem list6 {cs : List Value} {a b c d e f : Value} (hl : cs.length = 6) (h0 : cs[0]? = some a) (h1 : cs[1]? = some b) (h2 : cs[2]? = some c) (h3 : cs[3]? = some d) (h4 : cs[4]? = some e) (h5 : cs[5]? = some f) : cs = [a, b, c, d, e, f] := by
  match cs, hl with
  | [_, _, _, _, _, _], _ => simp at h0 h1 h2 h3 h4 h5; simp [h0, h1, h2, h3, h4, h5]

theorem open_phi {n : Nat} {cs : List Value} {x : DataW H × List MemPlace} (h : DataW.trod enc Try.prog w base spare held n 100 cs = some x) : ∃ p : Phi, ePhi w p cs := by
  obtain ⟨hl, hf⟩ := open_fields Try.underlying100 (by kernel_rfl) (by kernel_rfl) h
  obtain ⟨v0, c0, n0, y0, t0⟩ := hf 0 _ rfl
  obtain ⟨v1, c1, n1, y1, t1⟩ := hf 1 _ rfl
  obtain ⟨d, e0, _⟩ := DataW.trod_int Try.underlying3 t0
  obtain ⟨va, xs, e1, hr⟩ := open_ints_R t1
  injection e0 with e0
  injection e1 with e1
  subst e0 e1
  exact ⟨⟨d, xs⟩, v1, list2 hl c0 c1, hr⟩
theorem open_inst {n : Nat} {cs : List Value} {x : DataW H × List MemPlace} (h : DataW.trod enc Try.prog w base spare held n 49 cs = some x) : ∃ p : Inst, eInst w p cs := by
  obtain ⟨hl, hf⟩ := open_fields Try.underlying49 (by kernel_rfl) (by kernel_rfl) h
  obtain ⟨v0, c0, n0, y0, t0⟩ := hf 0 _ rfl
  obtain ⟨v1, c1, n1, y1, t1⟩ := hf 1 _ rfl
  obtain ⟨v2, c2, n2, y2, t2⟩ := hf 2 _ rfl
  obtain ⟨v3, c3, n3, y3, t3⟩ := hf 3 _ rfl
  obtain ⟨v4, c4, n4, y4, t4⟩ := hf 4 _ rfl
  obtain ⟨d0, e0, _⟩ := DataW.trod_int Try.underlying3 t0
  obtain ⟨d1, e1, _⟩ := DataW.trod_int Try.underlying3 t1
  obtain ⟨d2, e2, _⟩ := DataW.trod_int Try.underlying2 t2
  obtain ⟨s, e3, _⟩ := DataW.trod_string Try.underlying9 t3
  obtain ⟨va, xs, e4, hr⟩ := open_ints_R t4
  injection e0 with e0
  injection e1 with e1
  injection e2 with e2
  injection e3 with e3
  injection e4 with e4
  subst e0 e1 e2 e3 e4
  exact ⟨⟨d0, d1, d2, s, xs⟩, v4, list5 hl c0 c1 c2 c3 c4, hr⟩
theorem open_blk {n : Nat} {cs : List Value} {x : DataW H × List MemPlace} (h : DataW.trod enc Try.prog w base spare held n 38 cs = some x) : ∃ p : Blk, eBlk w p cs := by
  obtain ⟨hl, hf⟩ := open_fields Try.underlying38 (by kernel_rfl) (by kernel_rfl) h
  obtain ⟨v0, c0, n0, y0, t0⟩ := hf 0 _ rfl
  obtain ⟨v1, c1, n1, y1, t1⟩ := hf 1 _ rfl
  obtain ⟨v2, c2, n2, y2, t2⟩ := hf 2 _ rfl
  obtain ⟨v3, c3, n3, y3, t3⟩ := hf 3 _ rfl
  obtain ⟨v4, c4, n4, y4, t4⟩ := hf 4 _ rfl
  obtain ⟨v5, c5, n5, y5, t5⟩ := hf 5 _ rfl
  obtain ⟨vp, ps, e0, hp⟩ := open_RL (R := ePhi w) 2 Try.underlying35 (by kernel_rfl) (by decide) (fun _ _ _ h => open_phi h) t0
  obtain ⟨vi, is, e1, hi⟩ := open_RL (R := eInst w) 5 Try.underlying36 (by kernel_rfl) (by decide) (fun _ _ _ h => open_inst h) t1
  obtain ⟨d2, e2, _⟩ := DataW.trod_int Try.underlying3 t2
  obtain ⟨d3, e3, _⟩ := DataW.trod_int Try.underlying3 t3
  obtain ⟨d4, e4, _⟩ := DataW.trod_int Try.underlying3 t4
  obtain ⟨d5, e5, _⟩ := DataW.trod_int Try.underlying3 t5
  injection e0 with e0
  injection e1 with e1
  injection e2 with e2
  injection e3 with e3
  injection e4 with e4
  injection e5 with e5
  subst e0 e1 e2 e3 e4 e5
  exact ⟨⟨ps, is, d2, d3, d4, d5⟩, v0, v1, list6 hl c0 c1 c2 c3 c4 c5, hp, hi⟩
set_option maxRecDepth 100000 in
theorem open_fn {r : Reach} {b0 : Nat} {v : Value} {d : DataW H} {p : List MemPlace} (hv : Value.okWide Try.prog w r b0 24 v) (h : DataW.Trod enc Try.prog w base spare held 24 v d p) : ∃ F : Fn, RFn w v F := by
  obtain ⟨cs, rfl, hsz⟩ := okWide_struct Try.underlying24 hv
  obtain ⟨fuel, hf0⟩ := h
  obtain ⟨hl, hf⟩ := open_fields Try.underlying24 (by kernel_rfl) (by kernel_rfl) hf0
  obtain ⟨v0, c0, n0, y0, t0⟩ := hf 0 _ rfl
  obtain ⟨v1, c1, n1, y1, t1⟩ := hf 1 _ rfl
  obtain ⟨v2, c2, n2, y2, t2⟩ := hf 2 _ rfl
  obtain ⟨v3, c3, n3, y3, t3⟩ := hf 3 _ rfl
  obtain ⟨v4, c4, n4, y4, t4⟩ := hf 4 _ rfl
  obtain ⟨s, e0, _⟩ := DataW.trod_string Try.underlying9 t0
  obtain ⟨b, e1, _⟩ := DataW.trod_bool Try.underlying4 t1
  obtain ⟨d2, e2, _⟩ := DataW.trod_int Try.underlying3 t2
  obtain ⟨d3, e3, _⟩ := DataW.trod_int Try.underlying3 t3
  obtain ⟨vb, bs, e4, hb⟩ := open_RL (R := eBlk w) 6 Try.underlying22 (by kernel_rfl) (by decide) (fun _ _ _ h => open_blk h) t4
  injection e0 with e0
  injection e1 with e1
  injection e2 with e2
  injection e3 with e3
  injection e4 with e4
  subst e0 e1 e2 e3 e4
  obtain ⟨l⟩ := cs
  have hl' : l.length = 5 := hl
  have := list5 (cs := l) hl' c0 c1 c2 c3 c4
  subst this
  exact ⟨⟨s, b, d2, d3, bs⟩, _, rfl, hb⟩
end
section
variable {H : Type} {enc : TypeId × Value → H} {P : Program}
/-- The row's last step, where the call leaves what was there as it was. -/
theorem post_of_below {f : Func} {s : ChangeSpec} {apart fresh handsOn again : Bool} {W W' : World} {args : Array Value} {v : Value} {ds gs : List (DataW H)} {before pa pv : List MemPlace}
    (hW : DataW.Whole enc P f.params.toList s.vars apart W args.toList ds gs before)
    (hres : ∀ (b : Nat) (sp : Nat → Bool) (hd : Bool), DataW.TrodAll enc P W' b sp hd f.resultTypes.toList (v.resultList f.resultTypes.size) (s.fn H (ds ++ gs)).results [])
    (hargs : ∀ sp : Nat → Bool, (∀ p ∈ before, sp p.block = true) → DataW.TrodAll enc P W' 0 sp true f.params.toList args.toList (s.fn H (ds ++ gs)).args pa)
    (hvars : ∀ sp : Nat → Bool, (∀ p ∈ before, sp p.block = true) → DataW.TrodVars enc P W' sp s.vars (s.fn H (ds ++ gs)).vars pv)
    (hps : before = pa ++ pv) (hb : Below W.heap.size W W')
    (hok : ∀ (j : Nat) (t : TypeId) (r : Value), f.resultTypes[j]? = some t → (v.resultList f.resultTypes.size)[j]? = some r → Value.okWide P W' .any 0 t r) :
    s.post enc P f apart fresh handsOn again W args v W' := by
  have hlt : ∀ p ∈ before, p.block < W.heap.size := fun p hp => hW.lt p hp
  have hold : ∀ p ∈ before, (fun b => decide (b < W.heap.size)) p.block = true := fun p hp => by simpa using hlt p hp
  refine ⟨ds, gs, before, [], pa, pv, hW, hres _ _ _, hargs _ hold, hvars _ hold, World.keptBut_mono (fun p hp => ⟨hp, ?_⟩) (hb.frame (· ∈ before)), fun _ => ?_⟩
  · rw [hps, List.mem_append] at hp
    exact Or.inr hp
  · obtain ⟨_, _, _, _, _, hz, hn⟩ := hW
    refine ⟨hok, _, _, ([] ++ pa) ++ pv, ⟨[] ++ pa, pv, trodAll_append (hargs _ (fun _ _ => rfl)) (hres _ _ _), hvars _ (fun _ _ => rfl), rfl, ?_, ?_⟩, ?_⟩
    · intro b off hp
      have hin : MemPlace.cell b off ∈ before := by rw [hps]; simpa using hp
      rw [hb.frozen (hlt _ hin)]
      exact hz b off hin
    · intro ha
      have := hn ha
      rw [hps] at this
      simpa using this
    · intro p hp _
      rw [hps]
      simpa using hp
end
theorem Try.own : ownKnob Try.prog.godebug = none := by kernel_rfl
theorem Try.laidOut : laidOutB Try.prog = true := by kernel_rfl
theorem rec_fn : Try.prog.readableRec 24 = true := by kernel_rfl
theorem row_fn : 24 < Try.prog.types.size := of_decide_eq_true (by kernel_rfl)
end Go.Proofs.Ytggbeehnmconmaa
