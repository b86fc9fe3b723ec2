/- Plain: the tree of the blocks that stand above one another, in the numbers of the order: what a pass keeps, and that it comes to the dominators. -/
namespace Go.Proofs.Ytggbeehnmconmaa.T

/-- x is i, or stands above i in the tree. -/
inductive Anc (par : Nat → Option Nat) : Nat → Nat → Prop
  | refl (i : Nat) : Anc par i i
  | up {i q x : Nat} : par i = some q → Anc par x q → Anc par x i

/-- Ways of a graph (s is a source of i); all blocks of a way meet P. -/
inductive Way (S : Nat → List Nat) (P : Nat → Prop) : Nat → Nat → Prop
  | here {a : Nat} : P a → Way S P a a
  | step {a s i : Nat} : Way S P a s → s ∈ S i → P i → Way S P a i

section
variable {S : Nat → List Nat} {P Q : Nat → Prop}
theorem Way.mono (hPQ : ∀ x, P x → Q x) {a i : Nat} (h : Way S P a i) : Way S Q a i := by
  induction h with
  | here h => exact .here (hPQ _ h)
  | step _ hs hp ih => exact .step ih hs (hPQ _ hp)
theorem Way.trans {a b c : Nat} (h : Way S P a b) (k : Way S P b c) : Way S P a c := by
  induction k with
  | here _ => exact h
  | step _ hs hp ih => exact .step ih hs hp
theorem Way.last {a i : Nat} (h : Way S P a i) : P i := by cases h <;> assumption
end

/-- d stands above i: no way from 0 to i leaves d out. -/
def Dm (S : Nat → List Nat) (d i : Nat) : Prop := ¬ Way S (fun x => x ≠ d) 0 i
theorem Dm.self (S : Nat → List Nat) (i : Nat) : Dm S i i := fun h => h.last rfl
theorem Dm.src {S : Nat → List Nat} {d i s : Nat} (h : Dm S d i) (hne : d ≠ i) (hs : s ∈ S i) : Dm S d s := fun hw => h (.step hw hs (Ne.symm hne))

section
variable {par : Nat → Option Nat}
theorem Anc.trans {x y z : Nat} (h : Anc par x y) (k : Anc par y z) : Anc par x z := by
  induction k with
  | refl => exact h
  | up hq _ ih => exact .up hq (ih h)
theorem Anc.le (hV : ∀ i q, par i = some q → q < i) {x i : Nat} (h : Anc par x i) : x ≤ i := by
  induction h with
  | refl => exact Nat.le_refl _
  | up hq _ ih => have := hV _ _ hq; omega
theorem Anc.linear (hV : ∀ i q, par i = some q → q < i) {x y i : Nat} (hx : Anc par x i) (hy : Anc par y i) (hle : x ≤ y) : Anc par x y := by
  induction hy with
  | refl => exact hx
  | @up i q y hq hy ih =>
    cases hx with
    | refl => have := hy.le hV; have := hV _ _ hq; omega
    | up hq' hx' =>
      rw [hq] at hq'
      injection hq' with e
      subst e
      exact ih hx' hle

/-- Two blocks' nearest common one, one step at a time. -/
inductive MeetN (par : Nat → Option Nat) : Nat → Nat → Nat → Nat → Prop
  | done (a : Nat) : MeetN par 0 a a a
  | left {n a b a' r : Nat} : b < a → par a = some a' → MeetN par n a' b r → MeetN par (n + 1) a b r
  | right {n a b b' r : Nat} : a < b → par b = some b' → MeetN par n a b' r → MeetN par (n + 1) a b r
end

/-- What is known of the graph: m blocks, each but the first has a source ahead of it. -/
structure Gr (m : Nat) (S : Nat → List Nat) (pp : Nat → Nat) : Prop where
  pos : 0 < m
  src : ∀ i s, s ∈ S i → s < m
  pp : ∀ i, 0 < i → i < m → pp i ∈ S i ∧ pp i < i

/-- What holds in a pass that stands at j; c are done at least once. -/
structure Inv (m : Nat) (S : Nat → List Nat) (pp : Nat → Nat) (c j : Nat) (par : Nat → Option Nat) : Prop where
  cm : c ≤ m
  jc : j ≤ c
  c1 : 1 ≤ c
  non : ∀ i, i = 0 ∨ c ≤ i → par i = none
  V : ∀ i, 0 < i → i < c → ∃ q, par i = some q ∧ q < i
  CA : ∀ i q, par i = some q → ∀ x, (∀ s ∈ S i, s < c → Anc par x s) → x ≤ q
  P1 : ∀ i q, i < j → par i = some q → Anc par q (pp i)
  P2 : ∀ i q, j ≤ i → par i = some q → (j ≤ q → Anc par q (pp i)) ∧ (q < j → ∀ x, Anc par x (pp i) → x ≤ q → Anc par x q)
  I : ∀ i d, i < c → Dm S d i → Anc par d i
  Q : ∀ i q, par i = some q → Way S (fun x => q ≤ x) q i

section
variable {m : Nat} {S : Nat → List Nat} {pp : Nat → Nat} {c j : Nat} {par : Nat → Option Nat}

theorem Inv.lt (h : Inv m S pp c j par) : ∀ i q, par i = some q → q < i ∧ i < c := by
  intro i q hq
  have h1 : ¬ (i = 0 ∨ c ≤ i) := fun hn => by rw [h.non i hn] at hq; cases hq
  obtain ⟨q', hq', hlt⟩ := h.V i (by omega) (by omega)
  rw [hq] at hq'
  injection hq' with e
  omega
theorem Inv.V' (h : Inv m S pp c j par) : ∀ i q, par i = some q → q < i := fun i q hq => (h.lt i q hq).1

/-- The nearest common one of two that are done. -/
theorem Inv.meet (h : Inv m S pp c j par) : ∀ (k a b : Nat), a + b ≤ k → a < c → b < c → ∃ n r, MeetN par n a b r ∧ r < c ∧ (∀ x, Anc par x r ↔ Anc par x a ∧ Anc par x b) := by
  intro k
  induction k with
  | zero =>
    intro a b hk ha hb
    obtain rfl : a = 0 := by omega
    obtain rfl : b = 0 := by omega
    exact ⟨0, 0, .done 0, ha, fun x => by simp⟩
  | succ k ih =>
    intro a b hk ha hb
    rcases Nat.lt_trichotomy a b with hab | rfl | hab
    · obtain ⟨b', hb', hlt⟩ := h.V b (by omega) hb
      obtain ⟨n, r, h1, h2, h3⟩ := ih a b' (by omega) ha (by omega)
      refine ⟨n + 1, r, .right hab hb' h1, h2, fun x => ?_⟩
      rw [h3 x]
      refine ⟨fun ⟨k1, k2⟩ => ⟨k1, .up hb' k2⟩, fun ⟨k1, k2⟩ => ⟨k1, ?_⟩⟩
      cases k2 with
      | refl => have := k1.le h.V'; omega
      | up hq k3 =>
        rw [hb'] at hq
        injection hq with e
        subst e
        exact k3
    · exact ⟨0, a, .done a, ha, fun x => by simp⟩
    · obtain ⟨a', ha', hlt⟩ := h.V a (by omega) ha
      obtain ⟨n, r, h1, h2, h3⟩ := ih a' b (by omega) (by omega) hb
      refine ⟨n + 1, r, .left hab ha' h1, h2, fun x => ?_⟩
      rw [h3 x]
      refine ⟨fun ⟨k1, k2⟩ => ⟨.up ha' k1, k2⟩, fun ⟨k1, k2⟩ => ⟨?_, k2⟩⟩
      cases k1 with
      | refl => have := k2.le h.V'; omega
      | up hq k3 =>
        rw [ha'] at hq
        injection hq with e
        subst e
        exact k3

theorem Inv.start (hG : Gr m S pp) : Inv m S pp 1 1 (fun _ => none) where
  cm := hG.pos
  jc := Nat.le_refl _
  c1 := Nat.le_refl _
  non := fun _ _ => rfl
  V := fun i h0 h1 => by omega
  CA := fun i q h => by cases h
  P1 := fun i q _ h => by cases h
  P2 := fun i q _ h => by cases h
  I := fun i d hi hd => by
    obtain rfl : i = 0 := by omega
    by_cases e : d = 0
    · subst e; exact .refl _
    · exact absurd (Way.here (S := S) (P := fun x => x ≠ d) (fun h => e h.symm)) hd
  Q := fun i q h => by cases h

/-- A pass is over: the next begins. -/
theorem Inv.again (h : Inv m S pp c j par) (hj : j = m) : Inv m S pp m 1 par := by
  have hc : c = m := by have := h.cm; have := h.jc; omega
  subst hc hj
  exact {
    cm := Nat.le_refl _
    jc := h.c1
    c1 := h.c1
    non := h.non
    V := h.V
    CA := h.CA
    P1 := fun i q hi hq => by have := h.lt i q hq; omega
    P2 := fun i q hi hq => ⟨fun _ => h.P1 i q (h.lt i q hq).2 hq, fun hq1 => fun x hx hle => by
      obtain rfl : q = 0 := by omega
      obtain rfl : x = 0 := by omega
      exact .refl _⟩
    I := h.I
    Q := h.Q }

/-- A block whose turn it is: what its sources have in common. -/
theorem Inv.common (h : Inv m S pp c j par) (hG : Gr m S pp) (h0 : 0 < j) (hm : j < m) {t : Nat} (ht : ∀ x, Anc par x t ↔ ∀ s ∈ S j, s < c → Anc par x s) :
    Anc par t (pp j) ∧ t < j := by
  have h1 := (ht t).1 (.refl t) (pp j) (hG.pp j h0 hm).1 (by have := (hG.pp j h0 hm).2; have := h.jc; omega)
  have := h1.le h.V'
  have := (hG.pp j h0 hm).2
  exact ⟨h1, by omega⟩

/-- .. it stays as it is. -/
theorem Inv.stay (h : Inv m S pp c j par) (hG : Gr m S pp) (h0 : 0 < j) (hm : j < m) {t : Nat} (ht : ∀ x, Anc par x t ↔ ∀ s ∈ S j, s < c → Anc par x s) (hp : par j = some t) : Inv m S pp c (j + 1) par := by
  obtain ⟨h1, h2⟩ := h.common hG h0 hm ht
  have hjc := (h.lt j t hp).2
  exact {
    cm := h.cm
    jc := hjc
    c1 := h.c1
    non := h.non
    V := h.V
    CA := h.CA
    P1 := fun i q hi hq => by
      by_cases e : i = j
      · subst e
        rw [hp] at hq
        injection hq with e
        subst e
        exact h1
      · exact h.P1 i q (by omega) hq
    P2 := fun i q hi hq => by
      obtain ⟨k1, k2⟩ := h.P2 i q (by omega) hq
      refine ⟨fun hq2 => k1 (by omega), fun hq2 => ?_⟩
      by_cases e : q = j
      · subst e
        exact fun x hx hle => hx.linear h.V' (k1 (Nat.le_refl _)) hle
      · exact k2 (by omega)
    I := h.I
    Q := h.Q }

/-- The tree with another one above j. -/
def upd (par : Nat → Option Nat) (j t : Nat) : Nat → Option Nat := fun i => if i = j then some t else par i
theorem upd_self (par : Nat → Option Nat) (j t : Nat) : upd par j t j = some t := if_pos rfl
theorem upd_ne (par : Nat → Option Nat) {j t i : Nat} (h : i ≠ j) : upd par j t i = par i := if_neg h

/-- What lies below j is as it was. -/
theorem anc_below (hV : ∀ i q, par i = some q → q < i) {t : Nat} {x i : Nat} (hi : i < j) : Anc (upd par j t) x i ↔ Anc par x i := by
  constructor
  · intro h
    induction h with
    | refl => exact .refl _
    | @up i q x hq _ ih =>
      rw [upd_ne par (by omega)] at hq
      exact .up hq (ih (by have := hV _ _ hq; omega))
  · intro h
    induction h with
    | refl => exact .refl _
    | @up i q x hq _ ih => exact .up (by rw [upd_ne par (by omega)]; exact hq) (ih (by have := hV _ _ hq; omega))
/-- What is not below j stays above what it stood above. -/
theorem anc_above (hV : ∀ i q, par i = some q → q < i) {t : Nat} {x i : Nat} (hx : j ≤ x) (h : Anc par x i) : Anc (upd par j t) x i := by
  induction h with
  | refl => exact .refl _
  | @up i q x hq h ih =>
    have h1 := h.le hV
    have h2 := hV _ _ hq
    exact .up (by rw [upd_ne par (by omega)]; exact hq) (ih hx)
/-- Where j does not stand above, all is as it was. -/
theorem anc_aside {t : Nat} {x i : Nat} (hn : ¬ Anc par j i) (h : Anc par x i) : Anc (upd par j t) x i := by
  induction h with
  | refl => exact .refl _
  | @up i q x hq h ih => exact .up (by rw [upd_ne par (fun e => hn (by subst e; exact .refl _))]; exact hq) (ih (fun hh => hn (.up hq hh)))
theorem chain_way (h : Inv m S pp c j par) {x i : Nat} (ha : Anc par x i) : Way S (fun y => x ≤ y) x i := by
  induction ha with
  | refl => exact .here (Nat.le_refl _)
  | up hq hx ih => exact ih.trans ((h.Q _ _ hq).mono (fun y hy => Nat.le_trans (hx.le h.V') hy))

/-- .. it is another one now. -/
theorem Inv.turn (h : Inv m S pp c j par) (hG : Gr m S pp) (h0 : 0 < j) (hm : j < m) {t : Nat} (ht : ∀ x, Anc par x t ↔ ∀ s ∈ S j, s < c → Anc par x s) :
    Inv m S pp (max c (j + 1)) (j + 1) (upd par j t) := by
  obtain ⟨h1, h2⟩ := h.common hG h0 hm ht
  have hV := h.V'
  have hV' : ∀ i q, upd par j t i = some q → q < i := fun i q hq => by
    by_cases e : i = j
    · subst e; rw [upd_self] at hq; injection hq with e; omega
    · rw [upd_ne par e] at hq; exact hV _ _ hq
  have hcj := h.jc
  have hcm := h.cm
  -- what stood above is what stands above, but for j
  have shrink : ∀ x i, i < c → Anc (upd par j t) x i → Anc par x i := by
    intro x i hi ha
    induction ha with
    | refl => exact .refl _
    | @up i q x hq _ ih =>
      by_cases e : i = j
      · subst e
        rw [upd_self] at hq
        injection hq with e
        subst e
        have hx := ih (by omega)
        obtain ⟨y, hy, hlt⟩ := h.V i h0 hi
        have hty : t ≤ y := h.CA i y hy t (fun s hs hsc => (ht t).1 (.refl t) s hs hsc)
        exact .up hy (hx.trans ((h.P2 i y (Nat.le_refl _) hy).2 hlt t h1 hty))
      · rw [upd_ne par e] at hq
        exact .up hq (ih (by have := h.lt i q hq; omega))
  have hone : ∀ i, i < c → i ≠ j → ∀ x, Anc (upd par j t) x i → Anc par x i := fun i hi _ x => shrink x i hi
  have hmax : ∀ s, s < max c (j + 1) → s < c ∨ s = j := fun s hs => by omega
  exact {
    cm := by omega
    jc := by omega
    c1 := by omega
    non := fun i hi => by
      rw [upd_ne par (by omega)]
      exact h.non i (by omega)
    V := fun i hi0 hi => by
      by_cases e : i = j
      · subst e; exact ⟨t, upd_self _ _ _, h2⟩
      · rw [upd_ne par e]; exact h.V i hi0 (by omega)
    CA := fun i q hq x hx => by
      by_cases e : i = j
      · subst e
        rw [upd_self] at hq
        injection hq with e
        subst e
        exact ((ht x).2 (fun s hs hsc => shrink x s hsc (hx s hs (by omega)))).le hV
      · rw [upd_ne par e] at hq
        exact h.CA i q hq x (fun s hs hsc => shrink x s hsc (hx s hs (by omega)))
    P1 := fun i q hi hq => by
      by_cases e : i = j
      · subst e
        rw [upd_self] at hq
        injection hq with e
        subst e
        exact (anc_below hV (hG.pp i h0 hm).2).2 h1
      · rw [upd_ne par e] at hq
        have hi2 := h.lt i q hq
        exact (anc_below hV (by have := (hG.pp i (by omega) (by omega)).2; omega)).2 (h.P1 i q (by omega) hq)
    P2 := fun i q hi hq => by
      rw [upd_ne par (by omega)] at hq
      have hic := h.lt i q hq
      obtain ⟨k1, k2⟩ := h.P2 i q (by omega) hq
      refine ⟨fun hq2 => anc_above hV (by omega) (k1 (by omega)), fun hq2 x hx hle => ?_⟩
      by_cases e : q = j
      · subst e
        exact hx.linear hV' (anc_above hV (Nat.le_refl _) (k1 (Nat.le_refl _))) hle
      · have hpi : pp i < c := by have := (hG.pp i (by omega) (by omega)).2; omega
        exact (anc_below hV (by omega)).2 (k2 (by omega) x (shrink x _ hpi hx) hle)
    I := fun i d hi hd => by
      -- j's own dominators
      have hj : ∀ d, Dm S d j → Anc (upd par j t) d j := fun d hd => by
        by_cases e : d = j
        · subst e; exact .refl _
        · have h5 : Anc par d t := (ht d).2 (fun s hs hsc => h.I s d hsc (hd.src e hs))
          exact .up (upd_self _ _ _) ((anc_below hV h2).2 h5)
      rcases hmax i hi with hic | rfl
      · have h5 := h.I i d hic hd
        by_cases hji : Anc par j i
        · by_cases hdj : j ≤ d
          · exact anc_above hV hdj h5
          · have hw := chain_way h hji
            have hdj2 : Dm S d j := fun hw0 => hd (hw0.trans (hw.mono (fun y hy => by omega)))
            exact (hj d hdj2).trans (anc_above hV (Nat.le_refl _) hji)
        · exact anc_aside hji h5
      · exact hj d hd
    Q := fun i q hq => by
      by_cases e : i = j
      · subst e
        rw [upd_self] at hq
        injection hq with e
        subst e
        exact .step (chain_way h h1) (hG.pp i h0 hm).1 (by omega)
      · rw [upd_ne par e] at hq
        exact h.Q i q hq }

/-- How far the tree is from the ground: each turn makes it less. -/
def val (m : Nat) (o : Option Nat) : Nat := o.getD m
def phi (m : Nat) (par : Nat → Option Nat) : Nat → Nat
  | 0 => 0
  | n + 1 => phi m par n + val m (par n)
theorem phi_upd (m : Nat) (par : Nat → Option Nat) (j t n : Nat) : phi m (upd par j t) n + (if j < n then val m (par j) else 0) = phi m par n + (if j < n then t else 0) := by
  induction n with
  | zero => simp [phi]
  | succ n ih =>
    simp only [phi]
    by_cases e : n = j
    · subst e
      have : ¬ n < n := by omega
      simp only [this, if_false] at ih
      simp only [show n < n + 1 by omega, if_true, upd_self]
      simp only [val, Option.getD_some]
      omega
    · rw [upd_ne par e]
      by_cases h : j < n
      · simp only [h, if_true] at ih
        simp only [show j < n + 1 by omega, if_true]
        omega
      · simp only [h, if_false] at ih
        simp only [show ¬ j < n + 1 by omega, if_false]
        omega
theorem Inv.less (h : Inv m S pp c j par) (hG : Gr m S pp) (h0 : 0 < j) (hm : j < m) {t : Nat} (ht : ∀ x, Anc par x t ↔ ∀ s ∈ S j, s < c → Anc par x s) (hne : par j ≠ some t) : phi m (upd par j t) m < phi m par m := by
  have h1 := phi_upd m par j t m
  rw [if_pos hm, if_pos hm] at h1
  obtain ⟨h2, h3⟩ := h.common hG h0 hm ht
  have : t < val m (par j) := by
    cases hp : par j with
    | none => simp only [val, Option.getD_none]; omega
    | some y =>
      simp only [val, Option.getD_some]
      have hty : t ≤ y := h.CA j y hp t (fun s hs hsc => (ht t).1 (.refl t) s hs hsc)
      have : t ≠ y := fun e => hne (by rw [hp, e])
      omega
  omega

/-- Where no block turns in a whole pass the tree tells who stands above whom. -/
theorem Inv.fixed (h : Inv m S pp m j par) (hfix : ∀ i q, par i = some q → ∀ x, Anc par x q → ∀ s ∈ S i, Anc par x s) (d i : Nat) (hi : i < m) : Anc par d i ↔ Dm S d i := by
  refine ⟨fun ha hw => ?_, h.I i d hi⟩
  have key : ∀ i, Way S (fun x => x ≠ d) 0 i → Anc par d i → False := by
    intro i hw
    induction hw with
    | here h0 =>
      intro ha
      have := ha.le h.V'
      exact h0 (by omega)
    | @step s i _ hs hp ih =>
      intro ha
      cases ha with
      | refl => exact hp rfl
      | up hq ha' => exact ih (hfix _ _ hq d ha' _ hs)
  exact key i hw ha
end
end Go.Proofs.Ytggbeehnmconmaa.T
