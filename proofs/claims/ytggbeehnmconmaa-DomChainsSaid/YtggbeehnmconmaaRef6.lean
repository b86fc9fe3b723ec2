/- The document's answers: AboveOf, Above. -/
import Derived.Test.YtggbeehnmconmaaRef5
namespace Go.Proofs.Ytggbeehnmconmaa
open Go.RowKit

theorem bestTo_form (over : Nat → Nat → Bool) (b k : Nat) : bestTo over b k = -1 ∨ ∃ x : Nat, x < k ∧ bestTo over b k = (x : Int) := by
  induction k with
  | zero => exact .inl rfl
  | succ k ih =>
    rw [bestTo_succ, bestStep]
    split
    · exact .inr ⟨k, by omega, rfl⟩
    · rcases ih with h | ⟨x, h1, h2⟩
      · exact .inl h
      · exact .inr ⟨x, by omega, h2⟩
theorem aboveR_take (over : Nat → Nat → Bool) (n : Nat) {b : Nat} (hb : b < n) : (aboveR over n).take (b + 1) = (aboveR over n).take b ++ [bestTo over b n] := by
  rw [List.take_succ_eq_append_getElem (by simp [aboveR]; exact hb)]
  simp [aboveR]
theorem aboveR_len (over : Nat → Nat → Bool) (n : Nat) : (aboveR over n).length = n := by simp [aboveR]

/-- A row of Over's answer, and a place in it. -/
theorem over_read {w : World} {b o m c : Nat} {bs : List Blk} (h : RBoolss w (.slice (some ⟨b, o, none⟩) m c) (overRows bs bs.length)) {d x : Nat} (hd : d < bs.length) (hx : x < bs.length) :
    ∃ p q cc, w.cell? ⟨b, o + d, none⟩ = some (.slice (some ⟨p, q, none⟩) bs.length cc) ∧ w.cell? ⟨p, q + x, none⟩ = some (.bool (overB bs d x)) := by
  obtain ⟨b', o', c', e, _, h4⟩ := RL.addr h (by rw [overRows_len]; omega)
  injection e with e1 e2 e3
  injection e1 with e1
  injection e1 with e1 e4
  subst e1 e4
  obtain ⟨cs, hc1, ⟨u, rfl, hu⟩, hc3⟩ := h4 d (by rw [overRows_len]; exact hd)
  have e5 : (overRows bs bs.length)[d]'(by rw [overRows_len]; exact hd) = bl bs.length (overB bs d) := by simp [overRows]
  rw [e5] at hu
  obtain ⟨p, q, cc, rfl, _, _⟩ := RL.addr hu (by rw [bl_len]; omega)
  refine ⟨p, q, cc, ?_, ?_⟩
  · have := hc3 0 _ rfl
    rwa [bl_len, Nat.mul_one, Nat.add_zero] at this
  · have := RBools.at hu x (by rw [bl_len]; exact hx)
    rwa [bl_at] at this

def AbA (bs : List Blk) (w : World) (gg : Nat) (v3 v4 : Value) (wr : World) : Prop :=
  ∃ b : Nat, v4 = .int .i64 b ∧ b ≤ bs.length ∧ bs.length - b ≤ gg ∧ OI wr (fun g => w.heap.size ≤ g) v3 ((aboveR (overB bs) bs.length).take b) ∧ Keeps w wr (fun _ => False)
def AbB (bs : List Blk) (w : World) (b gg : Nat) (v5 v6 : Value) (wr : World) : Prop :=
  ∃ d : Nat, v6 = .int .i64 d ∧ d ≤ bs.length ∧ bs.length - d ≤ gg ∧ v5 = .int .i64 (bestTo (overB bs) b d) ∧ wr = w

set_option maxHeartbeats 2000000 in
set_option maxRecDepth 100000 in
theorem AboveOf_calls (bs : List Blk) (v : Value) (w : World) (h : RBoolss w v (overRows bs bs.length)) (hn : bs.length ≤ 1000000) :
    Calls Try.prog 63 #[v] w fun e w' => ∃ v', e = .returned v' ∧ OI w' (fun g => w.heap.size ≤ g) v' (aboveR (overB bs) bs.length) ∧ Below w.heap.size w w' := by
  obtain ⟨A, c, rfl, hc, hl⟩ := RL.form h
  rw [overRows_len] at *
  have HR := Hd.mk h
  clear h
  go_enter Try.func63, Try.ntmps63
  go_wp2
  go_loopg [3, 4] bs.length (fun gg v3 v4 wr => AbA bs w gg v3 v4 wr)
  case atStart => exact ⟨0, rfl, Nat.zero_le _, Nat.le_refl _, Ow.nil _ _ _ _, Keeps.refl _ _⟩
  case round =>
    obtain ⟨b, rfl, hb, hgg, hO, hK⟩ := hrel
    have HO := Hd.mk hO
    have HK := Hd.mk hK
    obtain ⟨A3, c3, rfl, _, _⟩ := Ow.form hO
    have hlen : ((aboveR (overB bs) bs.length).take b).length = b := by rw [List.length_take, aboveR_len]; omega
    rw [hlen] at HO
    rw [hlen]
    clear hO hK
    by_cases hlt : b < bs.length
    · obtain ⟨gb, ob, rfl⟩ := RL.ptr HR.out (by rw [overRows_len]; omega)
      have HRr := Hd.mk (RBoolss.below HK.out.below0 HR.out)
      go_wp2
      go_loopg [5, 6] bs.length (fun gg v5 v6 wq => AbB bs wr b gg v5 v6 wq)
      case atStart => exact ⟨0, rfl, Nat.zero_le _, Nat.le_refl _, rfl, rfl⟩
      case round =>
        obtain ⟨d, rfl, hd, hgg2, rfl, rfl⟩ := hrel
        obtain ⟨z, hz⟩ : ∃ z, bestTo (overB bs) b d = z := ⟨_, rfl⟩
        by_cases hdl : d < bs.length
        · have hnx := bestTo_succ (overB bs) b d
          have hzf := bestTo_form (overB bs) b d
          rw [hz] at hnx hzf ⊢
          have HZ := Hd.mk hz
          clear hz
          obtain ⟨p1, r1, cc1, e1, e2⟩ := over_read HRr.out hdl hlt
          unfold bestStep at hnx
          by_cases hdb : d = b
          · have hnx' : bestTo (overB bs) b (d + 1) = z := by rw [hnx, if_neg (fun h => h.1 hdb)]
            have hdb' : ((d : Int) != (b : Int)) = false := by simp [hdb]
            have HN := Hd.mk hnx'
            have HDB := Hd.mk hdb
            clear hnx hnx' hdb hzf
            go_wp2
            go_roundg (bs.length - (d + 1))
            case measure => omega
            case rel => exact ⟨d + 1, by go_num, hdl, Nat.le_refl _, by rw [HN.out], rfl⟩
          · have hdb' : ((d : Int) != (b : Int)) = true := by simpa using fun h => hdb (by omega)
            cases hov : overB bs d b with
            | false =>
              rw [hov] at e2
              have hnx' : bestTo (overB bs) b (d + 1) = z := by rw [hnx, if_neg (fun h => by rw [hov] at h; exact Bool.false_ne_true h.2.1)]
              have HN := Hd.mk hnx'
              have HDB := Hd.mk hdb
              clear hnx hnx' hdb hzf hov
              go_wp2
              go_roundg (bs.length - (d + 1))
              case measure => omega
              case rel => exact ⟨d + 1, by go_num, hdl, Nat.le_refl _, by rw [HN.out], rfl⟩
            | true =>
              rw [hov] at e2
              rcases hzf with rfl | ⟨x, hx, rfl⟩
              · have hnx' : bestTo (overB bs) b (d + 1) = (d : Int) := by rw [hnx, if_pos ⟨hdb, hov, .inl (by omega)⟩]
                have HN := Hd.mk hnx'
                have HDB := Hd.mk hdb
                clear hnx hnx' hdb hov
                go_wp2
                go_roundg (bs.length - (d + 1))
                case measure => omega
                case rel => exact ⟨d + 1, by go_num, hdl, Nat.le_refl _, by rw [HN.out], rfl⟩
              · obtain ⟨p2, r2, cc2, e3, e4⟩ := over_read HRr.out (Nat.lt_trans hx hdl) hdl
                have hx0 : decide ((x : Int) < 0) = false := decide_eq_false (by omega)
                cases hxo : overB bs x d with
                | false =>
                  rw [hxo] at e4
                  have hnx' : bestTo (overB bs) b (d + 1) = (x : Int) := by rw [hnx, if_neg (fun h => h.2.2.elim (fun h => by omega) (fun h => by rw [Int.toNat_natCast, hxo] at h; exact Bool.false_ne_true h))]
                  have HN := Hd.mk hnx'
                  have HDB := Hd.mk hdb
                  clear hnx hnx' hdb hov hxo
                  go_wp2
                  go_roundg (bs.length - (d + 1))
                  case measure => omega
                  case rel => exact ⟨d + 1, by go_num, hdl, Nat.le_refl _, by rw [HN.out], rfl⟩
                | true =>
                  rw [hxo] at e4
                  have hnx' : bestTo (overB bs) b (d + 1) = (d : Int) := by rw [hnx, if_pos ⟨hdb, hov, .inr (by rw [Int.toNat_natCast]; exact hxo)⟩]
                  have HN := Hd.mk hnx'
                  have HDB := Hd.mk hdb
                  clear hnx hnx' hdb hov hxo
                  go_wp2
                  go_roundg (bs.length - (d + 1))
                  case measure => omega
                  case rel => exact ⟨d + 1, by go_num, hdl, Nat.le_refl _, by rw [HN.out], rfl⟩
        · obtain rfl : d = bs.length := by omega
          have HT := Hd.mk (aboveR_take (overB bs) bs.length hlt)
          rw [hz]
          rw [hz] at HT
          have hb2 : ((aboveR (overB bs) bs.length).take b).length ≤ 1000000 := by omega
          clear hz
          go_wp2_with (at_builtin; refine append_int rfl (.tmp 45) (.tmp 47) rfl _ ((aboveR (overB bs) bs.length).take b) z rfl HO.out _ _ rfl rfl hb2 ?_; intro A2 c2 w2 hc2 ho2 hk2; have HO2 := Hd.mk ho2; have HK2 := Hd.mk hk2; clear ho2 hk2)
          go_roundg (bs.length - (b + 1))
          case measure => omega
          case rel =>
            have hs := HK.out.size
            refine ⟨b + 1, by go_num, hlt, Nat.le_refl _, ?_, HK.out.trans HK2.out (fun g hg h => by omega)⟩
            rw [HT.out]
            have h := HO2.out
            rw [hlen] at h
            exact Ow.mono h (fun g hg => hg.elim id (fun h => by omega))
    · obtain rfl : b = bs.length := by omega
      go_wp2
      go_ret
      exact ⟨_, rfl, by have := HO.out; rwa [List.take_of_length_le (by rw [aboveR_len]; exact Nat.le_refl _)] at this, HK.out.below0⟩

set_option maxHeartbeats 1000000 in
set_option maxRecDepth 100000 in
theorem rAbove_calls (F : Fn) (v : Value) (w : World) (h : RFn w v F) (hn : F.blocks.length ≤ 1000000) :
    Calls Try.prog 25 #[v] w fun e w' => ∃ v', e = .returned v' ∧ OI w' (fun g => w.heap.size ≤ g) v' (aboveR (overB F.blocks) F.blocks.length) ∧ Below w.heap.size w w' := by
  obtain ⟨vb, rfl, hb⟩ := h
  unfold fnV
  obtain ⟨A, c, rfl, hc, hl⟩ := RL.form hb
  have HT := Hd.mk (Over_calls F _ (boxFn w F A c) ⟨_, rfl, RBlks.below ((Keeps.refl w fun _ => False).alloc _).below0 hb⟩ hn)
  clear hb
  go_enter Try.func25, Try.ntmps25
  go_wp2_with fail
  refine HT.out.mono ?_
  rintro e w1 ⟨v1, rfl, h1, hk⟩
  have HA := Hd.mk (AboveOf_calls F.blocks v1 w1 (OBB.reads h1) hn)
  have hk1 : Keeps w w1 (fun _ => False) := ((Keeps.refl w fun _ => False).alloc _).trans (Keeps.of_below hk _) (fun _ _ hf => hf)
  have HK := Hd.mk hk1
  have hs := hk1.size
  clear h1 hk hk1 HT
  go_wp2_with fail
  refine HA.out.mono ?_
  rintro e w2 ⟨v2, rfl, h2, hk2⟩
  have H2 := Hd.mk h2
  have HK2 := Hd.mk hk2
  clear h2 hk2
  go_wp2
  go_ret
  exact ⟨_, rfl, Ow.mono H2.out (fun g hg => by omega), (HK.out.trans (Keeps.of_below HK2.out _) (fun _ _ hf => hf)).below0⟩
end Go.Proofs.Ytggbeehnmconmaa
