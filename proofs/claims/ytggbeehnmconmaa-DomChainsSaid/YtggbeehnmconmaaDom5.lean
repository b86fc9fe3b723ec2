/- The program's dom: Order. -/
import Derived.Test.YtggbeehnmconmaaDom4
import Derived.StillTailTactics
namespace Go.Proofs.Ytggbeehnmconmaa
open Go.RowKit

def stepC (way : List (Nat × Nat)) : List Value := way.flatMap fun x => [.int .i64 (x.1 : Int), .int .i64 (x.2 : Int)]
theorem stepC_len (way : List (Nat × Nat)) : (stepC way).length = way.length * 2 := by
  induction way with
  | nil => rfl
  | cons x xs ih =>
    have e : stepC (x :: xs) = .int .i64 (x.1 : Int) :: .int .i64 (x.2 : Int) :: stepC xs := rfl
    rw [e]
    simp only [List.length_cons]
    omega
theorem stepC_append (a b : List (Nat × Nat)) : stepC (a ++ b) = stepC a ++ stepC b := by simp [stepC]
theorem stepC_last (ws : List (Nat × Nat)) (b k : Nat) : (stepC (ws ++ [(b, k)]))[ws.length * 2]? = some (.int .i64 (b : Int)) ∧ (stepC (ws ++ [(b, k)]))[ws.length * 2 + 1]? = some (.int .i64 (k : Int)) ∧
    (stepC (ws ++ [(b, k)])).set (ws.length * 2 + 1) (.int .i64 ((k + 1 : Nat) : Int)) = stepC (ws ++ [(b, k + 1)]) := by
  rw [stepC_append, stepC_append, ← stepC_len ws]
  refine ⟨by rw [List.getElem?_append_right (Nat.le_refl _)]; simp [stepC], by rw [List.getElem?_append_right (by omega)]; simp [stepC], ?_⟩
  rw [List.set_append_right _ _ (by omega)]
  simp [stepC]
def OSteps (w : World) (S : Nat → Prop) (v : Value) (way : List (Nat × Nat)) : Prop := Ow w S 56 2 v way.length (stepC way)
def ints (l : List Nat) : List Int := l.map fun x : Nat => (x : Int)

/-- Blocks of unlike types are not one. -/
theorem Ow.own {w : World} {S : Nat → Prop} {e sz : Nat} {v : Value} {n : Nat} {cs : List Value} (h : Ow w S e sz v n cs) : Ow w (fun g => S g ∧ ∃ cur, w.heap[g]? = some (.cells cur e (0, 0))) e sz v n cs := by
  refine ⟨h.1, fun g hg => ⟨h.2 g hg, ?_⟩⟩
  rcases h.1.2 with ⟨rfl, _⟩ | ⟨g', cap, cur, rfl, _, hh, _⟩
  · simp [Value.ownBlock] at hg
  · simp [Value.ownBlock] at hg
    subst hg
    exact ⟨cur, hh⟩
theorem typed_ne {w : World} {e e' g : Nat} (hne : e ≠ e') (h : ∃ cur, w.heap[g]? = some (.cells cur e (0, 0))) (h' : ∃ cur, w.heap[g]? = some (.cells cur e' (0, 0))) : False := by
  obtain ⟨c, h⟩ := h
  obtain ⟨c', h'⟩ := h'
  rw [h] at h'
  injection h' with h'
  injection h' with _ h'
  exact hne h'

theorem OBits.own {w : World} {S : Nat → Prop} {v : Value} {n : Nat} {m : Nat → Bool} (h : OBits w S v n m) : OBits w (fun g => S g ∧ ∃ cur, w.heap[g]? = some (.cells cur 113 (0, 0))) v n m := by
  obtain ⟨xs, h1, h2, h3, h4⟩ := h
  exact ⟨xs, h1, h2, h3, h4.own⟩
theorem Ow.take {w : World} {S : Nat → Prop} {e sz : Nat} {A : Option Addr} {n m c : Nat} {cs : List Value} (h : Ow w S e sz (.slice A n c) n cs) (hn : 0 < n) (hm : m ≤ n) : Ow w S e sz (.slice A m c) m (cs.take (m * sz)) := by
  have hS := h.2
  rcases h.1.2 with ⟨_, h0⟩ | ⟨g, cap, cur, h0, _, h1, h2, h3, h4, h5⟩
  · omega
  · injection h0 with h0 _ hc
    subst h0 hc
    exact Ow.of_obj h1 (hS g (by simp [Value.ownBlock])) (by omega) (by simp only [maxLen] at h3; omega) h4 (by rw [← h5, List.take_take, Nat.min_eq_left (Nat.mul_le_mul_right _ hm)])
theorem stepC_take (ws : List (Nat × Nat)) (x : Nat × Nat) : (stepC (ws ++ [x])).take (ws.length * 2) = stepC ws := by
  rw [stepC_append, ← stepC_len ws]
  exact List.take_left

theorem info_step : (Try.prog.info? 56).map (fun i => (i.zero, i.size, i.bytes)) = some (some (.agg #[.int .i64 0, .int .i64 0]), 2, 16) := by kernel_rfl

/-- What Order's loop keeps. -/
def OrderRel (w : World) (F : Fn) (A : Option Addr) (c gg : Nat) (v3 v4 v5 : Value) (wr : World) : Prop :=
  ∃ m out way, DReach (tg F.blocks) m out way ∧ unmet (tg F.blocks) m F.blocks.length + wayM (tg F.blocks) way ≤ gg ∧
    OBits wr (fun g => w.heap.size + 1 ≤ g) v3 F.blocks.length m ∧ OI wr (fun g => w.heap.size + 1 ≤ g) v4 (ints out) ∧ OSteps wr (fun g => w.heap.size + 1 ≤ g) v5 way ∧ Keeps (boxFn w F A c) wr (fun _ => False)

set_option maxHeartbeats 1000000 in
set_option maxRecDepth 100000 in
theorem Order_calls (F : Fn) (v : Value) (w : World) (h : RFn w v F) (hn : F.blocks.length ≤ 1000000) (h0 : 0 < F.blocks.length) :
    Calls Try.prog 22 #[v] w fun e w' => ∃ v' m out, e = .returned v' ∧ DReach (tg F.blocks) m out [] ∧ OI w' (fun g => w.heap.size ≤ g) v' (ints out.reverse) ∧ Below w.heap.size w w' := by
  obtain ⟨vb, rfl, hb⟩ := h
  unfold fnV
  obtain ⟨A, c, rfl, hc, hl⟩ := RL.form hb
  have HR : Hd (RBlks w (.slice A F.blocks.length c) F.blocks) := ⟨hb⟩
  clear hb
  have hne : ((F.blocks.length : Int) == 0) = false := beq_eq_false_iff_ne.2 (by omega)
  go_enter Try.func22, Try.ntmps22
  go_wp2_with fail
  refine (newBits_calls _ F.blocks.length hn).mono ?_
  rintro e w1 ⟨v1, rfl, hb1, hk1⟩
  have HB1 := Hd.mk hb1
  have HK1 := Hd.mk hk1
  clear hb1 hk1
  go_wp2_with fail
  refine (put_calls HB1.out 0 h0 hn).mono ?_
  rintro e w2 ⟨rfl, hb2, hk2⟩
  have HB2 := Hd.mk hb2
  have HK2 := Hd.mk hk2
  clear hb2 hk2
  go_wp2
  go_loopg [4, 5] (unmet (tg F.blocks) (fun j => decide (j = 0)) F.blocks.length + wayM (tg F.blocks) [(0, 0)]) (fun gg v4 v5 wr => OrderRel w F A c gg v1 v4 v5 wr)
  case atStart =>
    have hs1 := HK1.out.size
    have hs2 := HK2.out.size
    simp at hs1
    refine ⟨_, _, _, DReach.init, Nat.le_refl _, ?_, Ow.nil _ _ _ _, ?_, ?_⟩
    · have h5 := (HB2.out.mono (T := fun g => w.heap.size + 1 ≤ g) (fun g hg => by simpa using hg)).keep (w1 := w2.alloc (.cells #[.int .i64 0, .int .i64 0] 56)) ((Keeps.refl _ (fun _ => False)).alloc _) (fun _ _ _ hf => hf)
      have e : (fun j => if j = 0 then true else (fun _ : Nat => false) j) = fun j : Nat => decide (j = 0) := by funext j; simp
      rw [e] at h5
      exact h5
    · exact Ow.of_obj (obj_new rfl) (by omega) (Nat.le_refl _) (by decide) rfl rfl
    · exact ((Keeps.of_below HK1.out _).trans HK2.out (fun i hi hs => by simp at hi hs; omega)).alloc _
  case round =>
    obtain ⟨m, out, way, HD, hgg, hB, hO, hW, hK⟩ := hrel
    have hbd := HD.bounds (fun b t ht => tg_mem ht) h0
    have HD' := Hd.mk HD
    have hlens := HD.lengths (fun b t ht => tg_mem ht) h0
    clear HB1 HK1 HB2 HK2 HD
    rcases List.eq_nil_or_concat way with rfl | ⟨ws, x, hx⟩
    · obtain ⟨Aw, cw, rfl, _, _⟩ := Ow.form hW
      have HO := Hd.mk hO
      have HK := Hd.mk hK
      clear hW hB hO hK hbd
      go_wp2_with fail
      refine (Reverse_calls HO.out).mono ?_
      rintro e w1 ⟨rfl, hO2, hK2⟩
      have HO2 := Hd.mk hO2
      have HK2 := Hd.mk hK2
      clear hO2 hK2
      go_wp2
      go_ret
      refine ⟨_, m, out, rfl, HD'.out, ?_, ?_⟩
      · have e : ints out.reverse = (ints out).reverse := by simp [ints]
        rw [e]
        exact HO2.out.mono (fun g hg => by omega)
      · exact ((((Keeps.refl w (fun _ => False)).alloc _).trans HK.out (fun _ _ hf => hf)).trans HK2.out (fun i hi hs => by omega)).below0
    · obtain ⟨b, k⟩ := x
      rw [List.concat_eq_append] at hx
      subst hx
      obtain ⟨hb1, hb2⟩ := hbd.1 (b, k) (List.mem_append_right _ (List.mem_singleton.2 rfl))
      have hlen : (ws ++ [(b, k)]).length = ws.length + 1 := by simp
      obtain ⟨Aw, cw, rfl, hcw, hlw⟩ := Ow.form hW
      obtain ⟨gw, rfl, hgw, hgw2⟩ := Ow.ptr hW (by omega)
      obtain ⟨e1, e2, e3⟩ := stepC_last ws b k
      have c1 := hW.cell _ _ e1
      have c2 := hW.cell _ _ e2
      have f2 := hW.frozen (ws.length * 2 + 1)
      obtain ⟨q0, q1, q2, q3, q4⟩ := box_cells hK (fun hf => hf)
      have hT := Targets_calls F _ (b : Int) wr.drew ⟨_, rfl, RBlks.below (((Keeps.refl w fun _ => False).alloc _).trans hK (fun _ _ hf => hf)).drew.below0 HR.out⟩
      unfold OSteps at hW
      rw [hlen] at hW hcw hlw
      rw [hlen]
      have HT := Hd.mk hT
      have HB := Hd.mk hB
      have HO := Hd.mk hO
      have HW := Hd.mk hW
      have HK := Hd.mk hK
      have HE := Hd.mk e3
      have HBD := Hd.mk hbd
      clear hT hB hO hW hK e1 e2 e3 hlen hbd
      go_wp2
      go_still_tail 5, (by kernel_rfl)
      change wpList _ _ _ _ _ wr.drew
      go_wp2_with fail
      refine HT.out.mono ?_
      rintro e w3 ⟨vt, rfl, ht, hk3⟩
      have hk3' : Keeps wr w3 (fun _ => False) := ((Keeps.refl wr _).drew).trans (Keeps.of_below hk3 _) (fun _ _ hf => hf)
      have hsz := HK.out.size
      simp at hsz
      have hkw : w.heap.size + 1 ≤ w3.heap.size := by have := hk3'.size; omega
      have HB3 := Hd.mk (HB.out.keep hk3' (fun _ _ _ hf => hf))
      have HO3 := Hd.mk (Ow.keep HO.out hk3' (fun _ _ _ hf => hf))
      have HW3 := Hd.mk (Ow.keep HW.out hk3' (fun _ _ _ hf => hf))
      have HK3 := Hd.mk (HK.out.trans hk3' (fun _ _ hf => hf))
      have c13 := hk3'.cell c1 (fun hf => hf)
      have c23 := hk3'.cell c2 (fun hf => hf)
      have f23 := HW3.out.frozen (ws.length * 2 + 1)
      obtain ⟨At, ct, rfl, hct, hlt⟩ := Ow.form ht
      have HTT := Hd.mk ht
      have htl := tg_length F.blocks b
      have htl2 := tgt_len F.blocks (b : Int)
      clear HB HO HW HK hk3 hk3' c1 c2 f2 q0 q1 q2 q3 q4 ht HT hsz
      simp only [List.length_append, List.length_cons, List.length_nil, Nat.zero_add] at hlens
      rw [wayM_snoc] at hgg
      by_cases hkk : k = (tg F.blocks b).length
      · have HDD := Hd.mk (DReach.pop HD'.out hkk)
        have hlo : (ints out).length ≤ 1000000 := by simp [ints]; omega
        have HHK := Hd.mk hkk
        have hkt : ((k : Int) == ((tgt F.blocks (b : Int)).length : Int)) = true := beq_iff_eq.2 (by omega)
        clear hkk HTT
        have HOo := Hd.mk (show OI w3 _ _ (ints out) from Ow.own HO3.out)
        go_wp2_with (at_builtin; refine append_int rfl (.tmp 42) (.tmp 47) rfl _ (ints out) (b : Int) rfl HOo.out _ _ rfl rfl hlo ?_; intro A4 c4 w4 hc4 ho4 hk4; have HO4 := Hd.mk ho4; have HK4 := Hd.mk hk4; clear ho4 hk4)
        go_roundg (unmet (tg F.blocks) m F.blocks.length + wayM (tg F.blocks) ws)
        case measure => omega
        case rel =>
          refine ⟨m, out ++ [b], ws, HDD.out, Nat.le_refl _, ?_, ?_, ?_, ?_⟩
          · exact (HB3.out.own.keep HK4.out (fun g hg _ ht => typed_ne (by decide) hg.2 ht.2)).mono (fun g hg => hg.1)
          · have e : ints (out ++ [b]) = ints out ++ [(b : Int)] := by simp [ints]
            rw [e]
            have h6 : OI w4 _ (.slice A4 ((ints out).length + 1) c4) (ints out ++ [(b : Int)]) := HO4.out
            exact Ow.mono h6 (fun g hg => by rcases hg with hg | hg; exact hg.1; omega)
          · have h7 := (Ow.take (m := ws.length) HW3.out (by omega) (by omega)).own
            rw [stepC_take] at h7
            exact (h7.keep HK4.out (fun g hg _ ht => typed_ne (by decide) hg.2 ht.2)).mono (fun g hg => hg.1)
          · exact HK3.out.trans HK4.out (fun i hi hs => by simp at hi; have := hs.1; omega)
      · have hk4 : k < (tg F.blocks b).length := by omega
        have hkt : ((k : Int) == ((tgt F.blocks (b : Int)).length : Int)) = false := beq_eq_false_iff_ne.2 (by omega)
        have hk5 : k < (tgt F.blocks (b : Int)).length := by omega
        obtain ⟨gt, rfl, _, _⟩ := Ow.ptr HTT.out (by omega)
        have ct := Ow.cell HTT.out k (.int .i64 (((tg F.blocks b)[k] : Nat) : Int)) (by rw [nI, List.getElem?_map, List.getElem?_eq_getElem hk5, tgt_get hk4]; rfl)
        have htn := tg_mem (List.getElem_mem hk4)
        have ev : Value.int .i64 (((k + 1 : Nat)) : Int) = .int .i64 ((k : Int) + 1) := by congr 1
        obtain ⟨W4, hW4⟩ : ∃ W4, W4 = w3.setCell ⟨gw, ws.length * 2 + 1, none⟩ (.int .i64 ((k : Int) + 1)) := ⟨_, rfl⟩
        have hty : ∃ cur, w3.heap[gw]? = some (.cells cur 56 (0, 0)) := (Ow.own HW3.out).2 gw (by simp [Value.ownBlock]) |>.2
        have k34 : Keeps w3 W4 (fun g => g = gw) := by rw [hW4]; exact (Keeps.refl w3 (fun g => g = gw)).setCell (fun _ => rfl) _
        have HB4 := Hd.mk ((HB3.out.own.keep k34 (fun g hg _ e => typed_ne (by decide) hg.2 (e ▸ hty))).mono (T := fun g => w.heap.size + 1 ≤ g) (fun g hg => hg.1))
        have HO4 := Hd.mk ((Ow.own HO3.out).keep k34 (fun g hg _ e => typed_ne (by decide) hg.2 (e ▸ hty)) |>.mono (T := fun g => w.heap.size + 1 ≤ g) (fun g hg => hg.1))
        have HW4 : Hd (Ow W4 (fun g => w.heap.size + 1 ≤ g) 56 2 (.slice (some ⟨gw, 0, none⟩) (ws.length + 1) cw) (ws.length + 1) (stepC (ws ++ [(b, k + 1)]))) := ⟨by rw [hW4, ← HE.out, ev]; exact HW3.out.set _ _⟩
        have HK4 := Hd.mk (HK3.out.trans k34 (fun i hi e => by simp at hi; omega))
        have hk4w : w.heap.size + 1 ≤ W4.heap.size := by have := k34.size; omega
        have HW := Hd.mk hW4.symm
        clear hW4 k34 ev hty
        cases hm : m (tg F.blocks b)[k] with
        | true =>
          have HDD := Hd.mk (DReach.skip hk4 HD'.out hm)
          have HHM := Hd.mk hm
          clear hkk hm HB3 HO3 HW3 HK3
          generalize hgt : (tg F.blocks b)[k] = t at *
          clear hgt
          have HC := Hd.mk (has_calls HB4.out t htn hn)
          rw [HHM.out] at HC
          go_wp2_with fail
          rw [HW.out]
          refine HC.out.mono ?_
          rintro e w' ⟨rfl, rfl⟩
          go_wp2
          go_roundg (unmet (tg F.blocks) m F.blocks.length + wayM (tg F.blocks) (ws ++ [(b, k + 1)]))
          case measure => rw [wayM_snoc]; omega
          case rel =>
            refine ⟨m, out, _, HDD.out, Nat.le_refl _, HB4.out, HO4.out, ?_, HK4.out⟩
            unfold OSteps
            rw [List.length_append]
            exact HW4.out
        | false =>
          have HDD := Hd.mk (DReach.push hk4 HD'.out hm)
          have hum := unmet_set (tg F.blocks) m (tg F.blocks b)[k] F.blocks.length
          rw [if_pos ⟨htn, hm⟩] at hum
          have HHM := Hd.mk hm
          clear hkk hm HB3 HO3 HW3 HK3
          generalize hgt : (tg F.blocks b)[k] = t at *
          clear hgt
          have HC := Hd.mk (has_calls HB4.out t htn hn)
          rw [HHM.out] at HC
          go_wp2_with fail
          rw [HW.out]
          refine HC.out.mono ?_
          rintro e w' ⟨rfl, rfl⟩
          go_wp2_with fail
          refine (put_calls HB4.out.own t htn hn).mono ?_
          rintro e w5 ⟨rfl, hB5, hK5⟩
          have HB5 := Hd.mk hB5
          have HK5 := Hd.mk hK5
          have HO5 := Hd.mk ((Ow.own HO4.out).keep hK5 (fun g hg _ ht => typed_ne (by decide) hg.2 ht.2) |>.mono (T := fun g => w.heap.size + 1 ≤ g) (fun g hg => hg.1))
          have HW5 := Hd.mk ((Ow.own HW4.out).keep hK5 (fun g hg _ ht => typed_ne (by decide) hg.2 ht.2) |>.mono (T := fun g => w.heap.size + 1 ≤ g) (fun g hg => hg.1) |>.own)
          have hs5 := hK5.size
          clear hB5 hK5
          go_wp2_with (at_builtin; refine append1 rfl (.tmp 75) (.tmp 78) 57 56 _ 2 16 rfl Try.underlying57 info_step rfl (by omega) _ (ws.length + 1) _ [.int .i64 (t : Int), .int .i64 0] rfl HW5.out _ _ rfl rfl rfl (by simp [Value.oneCell']) (by omega) (by omega) _ rfl ?_; intro v6 w6 ho6 hk6; obtain ⟨A6, c6, rfl, _, _⟩ := Ow.form ho6; have HW6 := Hd.mk ho6; have HK6 := Hd.mk hk6; clear ho6 hk6)
          go_roundg (unmet (tg F.blocks) (fun j => if j = t then true else m j) F.blocks.length + wayM (tg F.blocks) (ws ++ [(b, k + 1), (t, 0)]))
          case measure =>
            have e : ws ++ [(b, k + 1), (t, 0)] = (ws ++ [(b, k + 1)]) ++ [(t, 0)] := by simp
            rw [e, wayM_snoc, wayM_snoc]
            omega
          case rel =>
            refine ⟨_, out, _, HDD.out, Nat.le_refl _, ?_, ?_, ?_, ?_⟩
            · exact (HB5.out.own.keep HK6.out (fun g hg _ ht => typed_ne (by decide) hg.2 ht.2)).mono (fun g hg => hg.1.1)
            · exact ((Ow.own HO5.out).keep HK6.out (fun g hg _ ht => typed_ne (by decide) hg.2 ht.2)).mono (fun g hg => hg.1)
            · have e : ws ++ [(b, k + 1), (t, 0)] = (ws ++ [(b, k + 1)]) ++ [(t, 0)] := by simp
              unfold OSteps
              rw [e, stepC_append, List.length_append, List.length_append]
              exact HW6.out.mono (fun g hg => by rcases hg with hg | hg; exact hg.1; omega)
            · exact (HK4.out.trans HK5.out (fun i hi hs => by simp at hi; have := hs.1; omega)).trans HK6.out (fun i hi hs => by simp at hi; have := hs.1; omega)
end Go.Proofs.Ytggbeehnmconmaa
