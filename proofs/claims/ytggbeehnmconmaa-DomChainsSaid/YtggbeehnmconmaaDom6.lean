/- The program's dom: meet, the nearest block above two. -/
import Derived.Test.YtggbeehnmconmaaDom5
import Derived.Test.YtggbeehnmconmaaTreeW
namespace Go.Proofs.Ytggbeehnmconmaa
open Go.RowKit

theorem drewN_add (w : World) (a b : Nat) : (w.drewN a).drewN b = w.drewN (a + b) := by simp [World.drewN, Nat.add_assoc]

def MeetO (w : World) (at_ ab : List Int) (r gg : Nat) (v0 v1 : Value) (wr : World) : Prop :=
  ∃ n a b q : Nat, v0 = .int .i64 a ∧ v1 = .int .i64 b ∧ a < at_.length ∧ b < at_.length ∧ Meets0 at_ ab n a b r ∧ n ≤ gg ∧ wr = w.drewN q
def MeetL (w : World) (at_ ab : List Int) (r n0 a0 b gg : Nat) (v0 : Value) (wr : World) : Prop :=
  ∃ n a q : Nat, v0 = .int .i64 a ∧ a < at_.length ∧ Meets0 at_ ab n a b r ∧ n ≤ gg ∧ wr = w.drewN q ∧ (n < n0 ∨ (n = n0 ∧ a = a0))
def MeetR (w : World) (at_ ab : List Int) (r n0 a b0 gg : Nat) (P : Prop) (v1 : Value) (wr : World) : Prop :=
  ∃ n b q : Nat, v1 = .int .i64 b ∧ b < at_.length ∧ Meets0 at_ ab n a b r ∧ n ≤ gg ∧ wr = w.drewN q ∧ (n < n0 ∨ (n = n0 ∧ b = b0 ∧ P))

set_option maxHeartbeats 1000000 in
set_option maxRecDepth 100000 in
theorem meet_calls (w : World) (at_ ab : List Int) (n a b r g1 g2 : Nat) (u1 u2 : Value) (h1 : w.cell? ⟨g1, 0, none⟩ = some u1) (h2 : w.cell? ⟨g2, 0, none⟩ = some u2) (r1 : RInts w u1 at_) (r2 : RInts w u2 ab) (hl : ab.length = at_.length)
    (ha : a < at_.length) (hb : b < at_.length) (hm : Meets0 at_ ab n a b r) :
    Calls Try.prog 103 #[.int .i64 a, .int .i64 b, .pointer (some ⟨g1, 0, none⟩), .pointer (some ⟨g2, 0, none⟩)] w fun e w' => e = .returned (.int .i64 r) ∧ ∃ q, w' = w.drewN q := by
  obtain ⟨A1, c1, rfl, _, hll⟩ := RL.form r1
  obtain ⟨A2, c2, rfl, _, _⟩ := RL.form r2
  obtain ⟨b1, o1, rfl⟩ := RL.ptr r1 (by omega)
  obtain ⟨b2, o2, rfl⟩ := RL.ptr r2 (by omega)
  have R1 := Hd.mk r1
  have R2 := Hd.mk r2
  have HL := Hd.mk hl
  have HM := Hd.mk hm
  clear r1 r2 hl hm
  have get1 : ∀ i, i < at_.length → w.cell? ⟨b1, o1 + i, none⟩ = some (.int .i64 (at_.getD i 0)) := fun i hi => by
    rw [List.getD_eq_getElem?_getD, List.getElem?_eq_getElem hi]
    exact R1.out.at i hi
  have get2 : ∀ i, i < at_.length → w.cell? ⟨b2, o2 + i, none⟩ = some (.int .i64 (ab.getD i 0)) := fun i hi => by
    have := HL.out
    rw [List.getD_eq_getElem?_getD, List.getElem?_eq_getElem (by omega)]
    exact R2.out.at i (by omega)
  have G1 := Hd.mk get1
  have G2 := Hd.mk get2
  clear get1 get2
  rw [HL.out] at h2
  go_enter Try.func103, Try.ntmps103
  go_wp2
  go_loopg [0, 1] n (fun gg v0 v1 wr => MeetO w at_ ab r gg v0 v1 wr)
  case atStart => exact ⟨n, a, b, 0, rfl, rfl, ha, hb, HM.out, Nat.le_refl _, rfl⟩
  case round =>
    clear HM
    obtain ⟨n1, a1, b1, q1, rfl, rfl, ha1, hb1, hm1, hg1, rfl⟩ := hrel
    have HM1 := Hd.mk hm1
    clear hm1
    by_cases hab : a1 = b1
    · subst hab
      have HE := Hd.mk HM1.out.eq
      go_wp2
      go_ret
      exact ⟨by rw [HE.out]; rfl, q1, rfl⟩
    · have hne : ((a1 : Int) != (b1 : Int)) = true := by rw [bne_iff_ne]; omega
      go_wp2
      go_loopg [0] n1 (fun gg v0 wr => MeetL w at_ ab r n1 a1 b1 gg v0 wr)
      case atStart => exact ⟨n1, a1, q1, rfl, ha1, HM1.out, Nat.le_refl _, rfl, .inr ⟨rfl, rfl⟩⟩
      case round =>
        obtain ⟨n2, a2, q2, rfl, ha2, hm2, hg2, rfl, hd2⟩ := hrel
        have ca := G1.out a2 ha2
        have cb := G1.out b1 hb1
        have cc := G2.out a2 ha2
        have HM2 := Hd.mk hm2
        have HD2 := Hd.mk hd2
        have pa : (a2 : Int) < (at_.length : Int) := by omega
        have pb : (b1 : Int) < (at_.length : Int) := by omega
        clear hm2 hd2
        obtain ⟨xa, hxa⟩ : ∃ x, at_.getD a2 0 = x := ⟨_, rfl⟩
        obtain ⟨xb, hxb⟩ : ∃ x, at_.getD b1 0 = x := ⟨_, rfl⟩
        rw [hxa] at ca
        rw [hxb] at cb
        have XA := Hd.mk hxa
        have XB := Hd.mk hxb
        clear hxa hxb
        by_cases hgt : xa > xb
        · obtain ⟨n3, a3, hn3, he3, hl3, hm3⟩ : ∃ n3 a3 : Nat, n2 = n3 + 1 ∧ ab.getD a2 0 = (a3 : Int) ∧ a3 < at_.length ∧ Meets0 at_ ab n3 a3 b1 r := by
            have := HM2.out
            have := XA.out
            have := XB.out
            cases HM2.out with
            | done => omega
            | left _ h2 h3 h4 => exact ⟨_, _, rfl, h2, h3, h4⟩
            | right h => omega
          rw [he3] at cc
          have HM3 := Hd.mk hm3
          clear hm3 he3
          go_wp2
          go_quiet (fail)
          go_wp2
          go_roundg n3
          case measure => omega
          case rel => exact ⟨n3, a3, q2 + nq, rfl, hl3, HM3.out, Nat.le_refl _, rfl, .inl (by have := HD2.out; omega)⟩
        · clear cc
          go_wp2
          go_quiet (fail)
          go_wp2
          go_loopg [1] n2 (fun gg v1 wr => MeetR w at_ ab r n1 a2 b1 gg (a2 = a1 ∧ ¬ at_.getD a1 0 > at_.getD b1 0) v1 wr)
          case atStart => exact ⟨n2, b1, q2 + nq, rfl, hb1, HM2.out, Nat.le_refl _, drewN_add _ _ _, HD2.out.elim .inl (fun h => .inr ⟨h.1, rfl, h.2, by have := h.2; subst this; have := XA.out; have := XB.out; omega⟩)⟩
          case round =>
            obtain ⟨n4, b4, q4, rfl, hb4, hm4, hg4, rfl, hd4⟩ := hrel
            have ca4 := G1.out a2 ha2
            have cb4 := G1.out b4 hb4
            have cc4 := G2.out b4 hb4
            have HM4 := Hd.mk hm4
            have HD4 := Hd.mk hd4
            have pb4 : (b4 : Int) < (at_.length : Int) := by omega
            clear hm4 hd4 ca cb hgt
            obtain ⟨xc, hxc⟩ : ∃ x, at_.getD b4 0 = x := ⟨_, rfl⟩
            rw [hxc] at cb4
            rw [XA.out] at ca4
            have XC := Hd.mk hxc
            clear hxc
            by_cases hgt : xc > xa
            · obtain ⟨n5, b5, hn5, he5, hl5, hm5⟩ : ∃ n5 b5 : Nat, n4 = n5 + 1 ∧ ab.getD b4 0 = (b5 : Int) ∧ b5 < at_.length ∧ Meets0 at_ ab n5 a2 b5 r := by
                have := XA.out
                have := XC.out
                cases HM4.out with
                | done => omega
                | right _ h2 h3 h4 => exact ⟨_, _, rfl, h2, h3, h4⟩
                | left h => omega
              rw [he5] at cc4
              have HM5 := Hd.mk hm5
              clear hm5 he5
              go_wp2
              go_quiet (fail)
              go_wp2
              go_roundg n5
              case measure => omega
              case rel => exact ⟨n5, b5, q4 + nq, rfl, hl5, HM5.out, Nat.le_refl _, rfl, .inl (by have := HD4.out; omega)⟩
            · clear cc4
              go_wp2
              go_quiet (fail)
              go_wp2
              go_roundg n4
              case measure =>
                rcases HD4.out with h | ⟨rfl, rfl, rfl, h⟩
                · omega
                · have := HM4.out.ne hab; have := XA.out; have := XC.out; have := XB.out; omega
              case rel => exact ⟨n4, a2, b4, q4 + nq, rfl, rfl, ha2, hb4, HM4.out, Nat.le_refl _, drewN_add _ _ _⟩
end Go.Proofs.Ytggbeehnmconmaa
