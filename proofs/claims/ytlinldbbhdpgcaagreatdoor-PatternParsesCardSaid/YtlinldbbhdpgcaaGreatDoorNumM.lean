namespace Go.Proofs.YtlinldbbhdpgcaaGreatDoor

/-- Valid fractions: P1.1. -/
def vld (n d : Int) : Bool := decide (1 ≤ d ∧ d ≤ 1048576 ∧ -1099511627776 ≤ n ∧ n ≤ 1099511627776 ∧ Nat.gcd n.natAbs d.natAbs = 1)

theorem vld_iff {n d : Int} : vld n d = true ↔ 1 ≤ d ∧ d ≤ 1048576 ∧ -1099511627776 ≤ n ∧ n ≤ 1099511627776 ∧ Nat.gcd n.natAbs d.natAbs = 1 := by
  simp [vld]

/-- What Make returns: numerator, denominator, error. -/
def mk (n d : Int) : Int × Int × Int :=
  if d = 0 then (0, 0, 1)
  else if 1099511627776 < n.natAbs / Nat.gcd n.natAbs d.natAbs ∨ 1048576 < d.natAbs / Nat.gcd n.natAbs d.natAbs then (0, 0, 4)
  else if (decide (n < 0) != decide (d < 0)) = true then (-((n.natAbs / Nat.gcd n.natAbs d.natAbs : Nat) : Int), ((d.natAbs / Nat.gcd n.natAbs d.natAbs : Nat) : Int), 0)
  else (((n.natAbs / Nat.gcd n.natAbs d.natAbs : Nat) : Int), ((d.natAbs / Nat.gcd n.natAbs d.natAbs : Nat) : Int), 0)

theorem mk_zero (n : Int) : mk n 0 = (0, 0, 1) := rfl

/-- Two valid fractions of one value are one. -/
theorem vld_unique {p q r s : Int} (h1 : vld p q = true) (h2 : vld r s = true) (h : p * s = r * q) : p = r ∧ q = s := by
  rw [vld_iff] at h1 h2
  obtain ⟨a1, a2, a3, a4, a5⟩ := h1
  obtain ⟨b1, b2, b3, b4, b5⟩ := h2
  have hn : p.natAbs * s.natAbs = r.natAbs * q.natAbs := by
    rw [← Int.natAbs_mul, h, Int.natAbs_mul]
  have c1 : Nat.Coprime p.natAbs q.natAbs := a5
  have c2 : Nat.Coprime r.natAbs s.natAbs := b5
  have d1 : q.natAbs ∣ s.natAbs := c1.symm.dvd_of_dvd_mul_left ⟨r.natAbs, by rw [hn, Nat.mul_comm]⟩
  have d2 : s.natAbs ∣ q.natAbs := c2.symm.dvd_of_dvd_mul_left ⟨p.natAbs, by rw [← hn, Nat.mul_comm]⟩
  have e : q.natAbs = s.natAbs := Nat.dvd_antisymm d1 d2
  have e' : q = s := by omega
  subst e'
  refine ⟨?_, rfl⟩
  exact Int.eq_of_mul_eq_mul_right (by omega) h

theorem natAbs_sign (n : Int) : (n.natAbs : Int) = if n < 0 then -n else n := by
  split <;> omega

theorem mk_ok {n d p q : Int} (h : mk n d = (p, q, 0)) : d ≠ 0 ∧ vld p q = true ∧ p * d = n * q := by
  unfold mk at h
  by_cases hd : d = 0
  · simp [hd] at h
  · rw [if_neg hd] at h
    have hg : 0 < Nat.gcd n.natAbs d.natAbs := Nat.gcd_pos_of_pos_right _ (by omega)
    have cop : Nat.Coprime (n.natAbs / Nat.gcd n.natAbs d.natAbs) (d.natAbs / Nat.gcd n.natAbs d.natAbs) := Nat.coprime_div_gcd_div_gcd hg
    have hn1 : n.natAbs / Nat.gcd n.natAbs d.natAbs * Nat.gcd n.natAbs d.natAbs = n.natAbs := Nat.div_mul_cancel (Nat.gcd_dvd_left _ _)
    have hd1 : d.natAbs / Nat.gcd n.natAbs d.natAbs * Nat.gcd n.natAbs d.natAbs = d.natAbs := Nat.div_mul_cancel (Nat.gcd_dvd_right _ _)
    generalize hG : Nat.gcd n.natAbs d.natAbs = g at *
    generalize hP : n.natAbs / g = a at *
    generalize hQ : d.natAbs / g = b at *
    by_cases hc : 1099511627776 < a ∨ 1048576 < b
    · rw [if_pos hc] at h; simp at h
    · rw [if_neg hc] at h
      have hb : 0 < b := by
        rcases Nat.eq_zero_or_pos b with h0 | h0
        · subst h0; simp at hd1; omega
        · exact h0
      have key : (a : Int) * (d.natAbs : Int) = (n.natAbs : Int) * (b : Int) := by
        have : a * d.natAbs = n.natAbs * b := by
          rw [← hn1, ← hd1]; grind
        exact_mod_cast this
      refine ⟨hd, ?_⟩
      by_cases hs : (decide (n < 0) != decide (d < 0)) = true
      · rw [if_pos hs] at h
        simp only [Prod.mk.injEq] at h
        obtain ⟨rfl, rfl, -⟩ := h
        refine ⟨vld_iff.2 ⟨by omega, by omega, by omega, by omega, by simpa using cop⟩, ?_⟩
        rw [natAbs_sign, natAbs_sign] at key
        by_cases h1 : n < 0 <;> by_cases h2 : d < 0 <;> simp [h1, h2] at hs key ⊢ <;> grind
      · rw [if_neg hs] at h
        simp only [Prod.mk.injEq] at h
        obtain ⟨rfl, rfl, -⟩ := h
        refine ⟨vld_iff.2 ⟨by omega, by omega, by omega, by omega, by simpa using cop⟩, ?_⟩
        rw [natAbs_sign, natAbs_sign] at key
        by_cases h1 : n < 0 <;> by_cases h2 : d < 0 <;> simp [h1, h2] at hs key ⊢ <;> grind

theorem mk_cases (n d : Int) : (d = 0 ∧ mk n d = (0, 0, 1)) ∨ (d ≠ 0 ∧ mk n d = (0, 0, 4)) ∨ ∃ p q, d ≠ 0 ∧ mk n d = (p, q, 0) ∧ vld p q = true ∧ p * d = n * q := by
  by_cases hd : d = 0
  · exact .inl ⟨hd, by simp [mk, hd]⟩
  · by_cases hc : 1099511627776 < n.natAbs / Nat.gcd n.natAbs d.natAbs ∨ 1048576 < d.natAbs / Nat.gcd n.natAbs d.natAbs
    · exact .inr (.inl ⟨hd, by simp [mk, hd, hc]⟩)
    · refine .inr (.inr ?_)
      have : ∃ p q, mk n d = (p, q, 0) := by
        unfold mk
        rw [if_neg hd, if_neg hc]
        split <;> exact ⟨_, _, rfl⟩
      obtain ⟨p, q, h⟩ := this
      obtain ⟨-, h2, h3⟩ := mk_ok h
      exact ⟨p, q, hd, h, h2, h3⟩

/-- A valid fraction of the value n/d is what Make returns. -/
theorem mk_of {n d p q : Int} (hd : d ≠ 0) (hv : vld p q = true) (h : p * d = n * q) : mk n d = (p, q, 0) := by
  rcases mk_cases n d with ⟨h0, _⟩ | ⟨_, h4⟩ | ⟨p', q', _, h1, h2, h3⟩
  · exact absurd h0 hd
  · exfalso
    rw [vld_iff] at hv
    obtain ⟨a1, a2, a3, a4, a5⟩ := hv
    have hg : 0 < Nat.gcd n.natAbs d.natAbs := Nat.gcd_pos_of_pos_right _ (by omega)
    have cop : Nat.Coprime (n.natAbs / Nat.gcd n.natAbs d.natAbs) (d.natAbs / Nat.gcd n.natAbs d.natAbs) := Nat.coprime_div_gcd_div_gcd hg
    have hn1 : n.natAbs / Nat.gcd n.natAbs d.natAbs * Nat.gcd n.natAbs d.natAbs = n.natAbs := Nat.div_mul_cancel (Nat.gcd_dvd_left _ _)
    have hd1 : d.natAbs / Nat.gcd n.natAbs d.natAbs * Nat.gcd n.natAbs d.natAbs = d.natAbs := Nat.div_mul_cancel (Nat.gcd_dvd_right _ _)
    unfold mk at h4
    rw [if_neg hd] at h4
    have habs : p.natAbs * d.natAbs = n.natAbs * q.natAbs := by
      rw [← Int.natAbs_mul, h, Int.natAbs_mul]
    generalize hG : Nat.gcd n.natAbs d.natAbs = g at *
    generalize hP : n.natAbs / g = a at *
    generalize hQ : d.natAbs / g = b at *
    by_cases hc : 1099511627776 < a ∨ 1048576 < b
    · have e : p.natAbs * b = a * q.natAbs := by
        have : p.natAbs * b * g = a * q.natAbs * g := by
          rw [Nat.mul_assoc, hd1, habs, ← hn1]; grind
        exact Nat.eq_of_mul_eq_mul_right hg this
      have d1 : b ∣ q.natAbs := cop.symm.dvd_of_dvd_mul_left ⟨p.natAbs, by rw [← e, Nat.mul_comm]⟩
      have d2 : a ∣ p.natAbs := cop.dvd_of_dvd_mul_right ⟨q.natAbs, e⟩
      have l1 := Nat.le_of_dvd (by omega) d1
      rcases Nat.eq_zero_or_pos p.natAbs with hp | hp
      · have : a = 0 := by
          rcases Nat.eq_zero_or_pos a with h0 | h0
          · exact h0
          · have : 0 < a * q.natAbs := Nat.mul_pos h0 (by omega)
            rw [← e, hp] at this; omega
        omega
      · have l2 := Nat.le_of_dvd hp d2
        omega
    · rw [if_neg hc] at h4
      split at h4 <;> simp at h4
  · have hq : q' ≠ 0 := by rw [vld_iff] at h2; omega
    have : p' * q = p * q' := by
      have : p' * q * d = p * q' * d := by
        have e1 : p' * q * d = (p' * d) * q := by grind
        have e2 : p * q' * d = (p * d) * q' := by grind
        rw [e1, e2, h3, h]; grind
      exact Int.eq_of_mul_eq_mul_right hd this
    obtain ⟨e1, e2⟩ := vld_unique h2 hv this
    rw [h1, e1, e2]

theorem mk_self {p q : Int} (hv : vld p q = true) : mk p q = (p, q, 0) :=
  mk_of (by rw [vld_iff] at hv; omega) hv rfl

/-- Make depends on the value alone. -/
theorem mk_congr {n d n' d' : Int} (hd : d ≠ 0) (hd' : d' ≠ 0) (h : n * d' = n' * d) : mk n d = mk n' d' := by
  rcases mk_cases n d with ⟨h0, _⟩ | ⟨_, h4⟩ | ⟨p, q, _, h1, h2, h3⟩
  · exact absurd h0 hd
  · rcases mk_cases n' d' with ⟨h0, _⟩ | ⟨_, h4'⟩ | ⟨p, q, _, h1, h2, h3⟩
    · exact absurd h0 hd'
    · rw [h4, h4']
    · have : p * d = n * q := by
        have : p * d * d' = n * q * d' := by
          have e1 : p * d * d' = (p * d') * d := by grind
          have e2 : n * q * d' = (n * d') * q := by grind
          rw [e1, e2, h3, h]; grind
        exact Int.eq_of_mul_eq_mul_right hd' this
      rw [mk_of hd h2 this] at h4
      simp at h4
  · have : p * d' = n' * q := by
      have : p * d' * d = n' * q * d := by
        have e1 : p * d' * d = (p * d) * d' := by grind
        have e2 : n' * q * d = (n' * d) * q := by grind
        rw [e1, e2, h3, ← h]; grind
      exact Int.eq_of_mul_eq_mul_right hd this
    rw [h1, mk_of hd' h2 this]

/-- Make of a sign and two naturals. -/
def mkN (neg : Bool) (n d : Nat) : Int × Int × Int :=
  if 1099511627776 < n / Nat.gcd n d ∨ 1048576 < d / Nat.gcd n d then (0, 0, 4)
  else if neg = true then (-((n / Nat.gcd n d : Nat) : Int), ((d / Nat.gcd n d : Nat) : Int), 0)
  else (((n / Nat.gcd n d : Nat) : Int), ((d / Nat.gcd n d : Nat) : Int), 0)

theorem mk_mkN {n d : Int} (hd : d ≠ 0) : mk n d = mkN (decide (n < 0) != decide (d < 0)) n.natAbs d.natAbs := by
  unfold mk mkN
  rw [if_neg hd]

theorem mkN_zero (neg : Bool) (d : Nat) (hd : 0 < d) : mkN neg 0 d = (0, 1, 0) := by
  unfold mkN
  simp [Nat.div_self hd]

theorem mkN_scale (neg : Bool) (c n d : Nat) (hc : 0 < c) : mkN neg (c * n) (c * d) = mkN neg n d := by
  unfold mkN
  rw [Nat.gcd_mul_left, Nat.mul_div_mul_left _ _ hc, Nat.mul_div_mul_left _ _ hc]

theorem mkN_cop (neg : Bool) (n d : Nat) (h : Nat.Coprime n d) : mkN neg n d =
    if 1099511627776 < n ∨ 1048576 < d then (0, 0, 4) else if neg = true then (-(n : Int), (d : Int), 0) else ((n : Int), (d : Int), 0) := by
  unfold mkN
  rw [show Nat.gcd n d = 1 from h]
  simp

/-- A product: what is common is taken out crosswise first. -/
def prodN (neg : Bool) (n d m e : Nat) : Int × Int × Int :=
  if n = 0 ∨ m = 0 then (0, 1, 0)
  else if 1099511627776 / (n / Nat.gcd n e) < m / Nat.gcd m d ∨ 1048576 / (d / Nat.gcd m d) < e / Nat.gcd n e then (0, 0, 4)
  else mkN neg (n / Nat.gcd n e * (m / Nat.gcd m d)) (d / Nat.gcd m d * (e / Nat.gcd n e))

theorem cop_dvd {a b c d : Nat} (h1 : a ∣ c) (h2 : b ∣ d) (h : Nat.Coprime c d) : Nat.Coprime a b :=
  Nat.eq_one_of_dvd_one (by rw [← show Nat.gcd c d = 1 from h]; exact Nat.dvd_gcd (Nat.dvd_trans (Nat.gcd_dvd_left _ _) h1) (Nat.dvd_trans (Nat.gcd_dvd_right _ _) h2))

structure Cross (n d m e : Nat) : Prop where
  dp : 0 < d
  ep : 0 < e
  c1 : Nat.Coprime n d
  c2 : Nat.Coprime m e

theorem Cross.cop {n d m e : Nat} (h : Cross n d m e) : Nat.Coprime (n / Nat.gcd n e * (m / Nat.gcd m d)) (d / Nat.gcd m d * (e / Nat.gcd n e)) := by
  have g1 : 0 < Nat.gcd n e := Nat.gcd_pos_of_pos_right _ h.ep
  have g2 : 0 < Nat.gcd m d := Nat.gcd_pos_of_pos_right _ h.dp
  have a1 : n / Nat.gcd n e ∣ n := Nat.div_dvd_of_dvd (Nat.gcd_dvd_left _ _)
  have a2 : e / Nat.gcd n e ∣ e := Nat.div_dvd_of_dvd (Nat.gcd_dvd_right _ _)
  have a3 : m / Nat.gcd m d ∣ m := Nat.div_dvd_of_dvd (Nat.gcd_dvd_left _ _)
  have a4 : d / Nat.gcd m d ∣ d := Nat.div_dvd_of_dvd (Nat.gcd_dvd_right _ _)
  have k1 : Nat.Coprime (n / Nat.gcd n e) (d / Nat.gcd m d) := cop_dvd a1 a4 h.c1
  have k2 : Nat.Coprime (n / Nat.gcd n e) (e / Nat.gcd n e) := Nat.coprime_div_gcd_div_gcd g1
  have k3 : Nat.Coprime (m / Nat.gcd m d) (d / Nat.gcd m d) := Nat.coprime_div_gcd_div_gcd g2
  have k4 : Nat.Coprime (m / Nat.gcd m d) (e / Nat.gcd n e) := cop_dvd a3 a2 h.c2
  exact Nat.Coprime.mul_left (Nat.Coprime.mul_right k1 k2) (Nat.Coprime.mul_right k3 k4)

theorem Cross.scale {n d m e : Nat} (h : Cross n d m e) (neg : Bool) :
    mkN neg (n / Nat.gcd n e * (m / Nat.gcd m d)) (d / Nat.gcd m d * (e / Nat.gcd n e)) = mkN neg (n * m) (d * e) := by
  have g1 : 0 < Nat.gcd n e := Nat.gcd_pos_of_pos_right _ h.ep
  have g2 : 0 < Nat.gcd m d := Nat.gcd_pos_of_pos_right _ h.dp
  have a1 := Nat.div_mul_cancel (Nat.gcd_dvd_left n e)
  have a2 := Nat.div_mul_cancel (Nat.gcd_dvd_right n e)
  have a3 := Nat.div_mul_cancel (Nat.gcd_dvd_left m d)
  have a4 := Nat.div_mul_cancel (Nat.gcd_dvd_right m d)
  have e1 : n * m = Nat.gcd n e * Nat.gcd m d * (n / Nat.gcd n e * (m / Nat.gcd m d)) := by
    conv => lhs; rw [← a1, ← a3]
    grind
  have e2 : d * e = Nat.gcd n e * Nat.gcd m d * (d / Nat.gcd m d * (e / Nat.gcd n e)) := by
    conv => lhs; rw [← a2, ← a4]
    grind
  rw [e1, e2, mkN_scale _ _ _ _ (Nat.mul_pos g1 g2)]

theorem div_lt_iff (k a b : Nat) (ha : 0 < a) : k / a < b ↔ k < a * b := by
  rw [Nat.div_lt_iff_lt_mul ha, Nat.mul_comm]

theorem prodN_eq {n d m e : Nat} (h : Cross n d m e) (neg : Bool) : prodN neg n d m e = mkN neg (n * m) (d * e) := by
  unfold prodN
  by_cases h0 : n = 0 ∨ m = 0
  · rw [if_pos h0]
    have : n * m = 0 := by rcases h0 with h0 | h0 <;> simp [h0]
    rw [this, mkN_zero _ _ (Nat.mul_pos h.dp h.ep)]
  · rw [if_neg h0]
    have hn : 0 < n := by omega
    have hm : 0 < m := by omega
    have g1 : 0 < Nat.gcd n e := Nat.gcd_pos_of_pos_right _ h.ep
    have g2 : 0 < Nat.gcd m d := Nat.gcd_pos_of_pos_right _ h.dp
    have p1 : 0 < n / Nat.gcd n e := Nat.div_pos (Nat.le_of_dvd hn (Nat.gcd_dvd_left _ _)) g1
    have p2 : 0 < d / Nat.gcd m d := Nat.div_pos (Nat.le_of_dvd h.dp (Nat.gcd_dvd_right _ _)) g2
    simp only [div_lt_iff _ _ _ p1, div_lt_iff _ _ _ p2]
    rw [← h.scale, mkN_cop _ _ _ h.cop]
    split <;> rfl

theorem vld_cop {n d : Int} (h : vld n d = true) : Nat.Coprime n.natAbs d.natAbs := by
  rw [vld_iff] at h; exact h.2.2.2.2

theorem cross_mul {p q r s : Int} (h1 : vld p q = true) (h2 : vld r s = true) : Cross p.natAbs q.natAbs r.natAbs s.natAbs :=
  ⟨by rw [vld_iff] at h1; omega, by rw [vld_iff] at h2; omega, vld_cop h1, vld_cop h2⟩

theorem cross_div {p q r s : Int} (h1 : vld p q = true) (h2 : vld r s = true) (h0 : r ≠ 0) : Cross p.natAbs q.natAbs s.natAbs r.natAbs :=
  ⟨by rw [vld_iff] at h1; omega, by omega, vld_cop h1, (vld_cop h2).symm⟩

theorem neg_mul {p r : Int} : (decide (p * r < 0)) = (decide (p < 0) != decide (r < 0)) ∨ p = 0 ∨ r = 0 := by
  rcases Int.lt_trichotomy p 0 with h | h | h
  · rcases Int.lt_trichotomy r 0 with k | k | k
    · left; have := Int.mul_pos_of_neg_of_neg h k; simp [h, k]; omega
    · exact .inr (.inr k)
    · left; have := Int.mul_neg_of_neg_of_pos h k; simp [h, this]; omega
  · exact .inr (.inl h)
  · rcases Int.lt_trichotomy r 0 with k | k | k
    · left; have := Int.mul_neg_of_pos_of_neg h k; simp [k, this]; omega
    · exact .inr (.inr k)
    · left; have := Int.mul_pos h k; have e1 : ¬ p * r < 0 := by omega
      have e2 : ¬ p < 0 := by omega
      have e3 : ¬ r < 0 := by omega
      simp [e1, e2, e3]

theorem mulN {p q r s : Int} (h1 : vld p q = true) (h2 : vld r s = true) :
    prodN (decide (p < 0) != decide (r < 0)) p.natAbs q.natAbs r.natAbs s.natAbs = mk (p * r) (q * s) := by
  have hq : 0 < q := by rw [vld_iff] at h1; omega
  have hs : 0 < s := by rw [vld_iff] at h2; omega
  have hp := Int.mul_pos hq hs
  rw [prodN_eq (cross_mul h1 h2), mk_mkN (by omega), Int.natAbs_mul, Int.natAbs_mul]
  have e2 : ¬ q * s < 0 := by omega
  rcases @neg_mul p r with h | h | h
  · rw [h]; simp [e2]
  · subst h; simp [mkN_zero _ _ (show 0 < q.natAbs * s.natAbs from Nat.mul_pos (by omega) (by omega))]
  · subst h; simp [mkN_zero _ _ (show 0 < q.natAbs * s.natAbs from Nat.mul_pos (by omega) (by omega))]

theorem divN {p q r s : Int} (h1 : vld p q = true) (h2 : vld r s = true) (h0 : r ≠ 0) :
    prodN (decide (p < 0) != decide (r < 0)) p.natAbs q.natAbs s.natAbs r.natAbs = mk (p * s) (q * r) := by
  have hq : 0 < q := by rw [vld_iff] at h1; omega
  have hs : 0 < s := by rw [vld_iff] at h2; omega
  have hqr : q * r ≠ 0 := by
    intro h; rcases Int.mul_eq_zero.1 h with h | h <;> omega
  rw [prodN_eq (cross_div h1 h2 h0), mk_mkN hqr, Int.natAbs_mul, Int.natAbs_mul]
  have f2 : decide (q * r < 0) = decide (r < 0) := by
    rcases @neg_mul q r with h | h | h
    · rw [h]; have : ¬ q < 0 := by omega
      simp [this]
    · omega
    · omega
  rcases @neg_mul p s with h | h | h
  · have : ¬ s < 0 := by omega
    rw [h, f2]; simp [this]
  · subst h; simp [mkN_zero _ _ (show 0 < q.natAbs * r.natAbs from Nat.mul_pos (by omega) (by omega))]
  · omega

/-- Mul as the program does it. -/
def mulP (p q r s : Int) : Int × Int × Int :=
  let g : Int := (Nat.gcd p.natAbs s.natAbs : Nat)
  let h : Int := (Nat.gcd r.natAbs q.natAbs : Nat)
  let n := p.tdiv g
  let m := r.tdiv h
  let d := q.tdiv h * s.tdiv g
  if (n ≠ 0 ∧ 1099511627776 / n.natAbs < m.natAbs) ∨ 1048576 < d then (0, 0, 4) else mk (n * m) d

theorem mulP_eq {p q r s : Int} (h1 : vld p q = true) (h2 : vld r s = true) : mulP p q r s = mk (p * r) (q * s) := by
  have hq : 0 < q := by rw [vld_iff] at h1; omega
  have hs : 0 < s := by rw [vld_iff] at h2; omega
  have hx := cross_mul h1 h2
  have g1 : 0 < Nat.gcd p.natAbs s.natAbs := Nat.gcd_pos_of_pos_right _ hx.ep
  have g2 : 0 < Nat.gcd r.natAbs q.natAbs := Nat.gcd_pos_of_pos_right _ hx.dp
  unfold mulP
  simp only []
  have en : (p.tdiv ((Nat.gcd p.natAbs s.natAbs : Nat) : Int)).natAbs = p.natAbs / Nat.gcd p.natAbs s.natAbs := by rw [Int.natAbs_tdiv]; rfl
  have em : (r.tdiv ((Nat.gcd r.natAbs q.natAbs : Nat) : Int)).natAbs = r.natAbs / Nat.gcd r.natAbs q.natAbs := by rw [Int.natAbs_tdiv]; rfl
  have eq' : q.tdiv ((Nat.gcd r.natAbs q.natAbs : Nat) : Int) = ((q.natAbs / Nat.gcd r.natAbs q.natAbs : Nat) : Int) := by
    have : q = (q.natAbs : Int) := by omega
    conv => lhs; rw [this]
    rfl
  have es : s.tdiv ((Nat.gcd p.natAbs s.natAbs : Nat) : Int) = ((s.natAbs / Nat.gcd p.natAbs s.natAbs : Nat) : Int) := by
    have : s = (s.natAbs : Int) := by omega
    conv => lhs; rw [this]
    rfl
  have cop := hx.cop
  have eN : p.natAbs / Nat.gcd p.natAbs s.natAbs * Nat.gcd p.natAbs s.natAbs = p.natAbs := Nat.div_mul_cancel (Nat.gcd_dvd_left _ _)
  have dpos : 0 < q.natAbs / Nat.gcd r.natAbs q.natAbs := Nat.div_pos (Nat.le_of_dvd hx.dp (Nat.gcd_dvd_right _ _)) g2
  have spos : 0 < s.natAbs / Nat.gcd p.natAbs s.natAbs := Nat.div_pos (Nat.le_of_dvd hx.ep (Nat.gcd_dvd_right _ _)) g1
  -- the value of the crosswise product
  have val : mk (p.tdiv ((Nat.gcd p.natAbs s.natAbs : Nat) : Int) * r.tdiv ((Nat.gcd r.natAbs q.natAbs : Nat) : Int)) (q.tdiv ((Nat.gcd r.natAbs q.natAbs : Nat) : Int) * s.tdiv ((Nat.gcd p.natAbs s.natAbs : Nat) : Int)) = mk (p * r) (q * s) := by
    have d1 : ((Nat.gcd p.natAbs s.natAbs : Nat) : Int) ∣ p := Int.ofNat_dvd_left.2 (Nat.gcd_dvd_left _ _)
    have d2 : ((Nat.gcd r.natAbs q.natAbs : Nat) : Int) ∣ r := Int.ofNat_dvd_left.2 (Nat.gcd_dvd_left _ _)
    have d3 : ((Nat.gcd r.natAbs q.natAbs : Nat) : Int) ∣ q := Int.ofNat_dvd_left.2 (Nat.gcd_dvd_right _ _)
    have d4 : ((Nat.gcd p.natAbs s.natAbs : Nat) : Int) ∣ s := Int.ofNat_dvd_left.2 (Nat.gcd_dvd_right _ _)
    have k1 := Int.tdiv_mul_cancel d1
    have k2 := Int.tdiv_mul_cancel d2
    have k3 := Int.tdiv_mul_cancel d3
    have k4 := Int.tdiv_mul_cancel d4
    refine mk_congr ?_ ?_ ?_
    · rw [eq', es]
      have := Nat.mul_pos dpos spos
      intro h0
      have : ((q.natAbs / Nat.gcd r.natAbs q.natAbs * (s.natAbs / Nat.gcd p.natAbs s.natAbs) : Nat) : Int) = 0 := by rw [Int.natCast_mul]; exact h0
      omega
    · have := Int.mul_pos hq hs; omega
    · generalize ((Nat.gcd p.natAbs s.natAbs : Nat) : Int) = g at *
      generalize ((Nat.gcd r.natAbs q.natAbs : Nat) : Int) = h at *
      generalize p.tdiv g = a at *
      generalize r.tdiv h = b at *
      generalize q.tdiv h = c at *
      generalize s.tdiv g = d at *
      rw [← k1, ← k2, ← k3, ← k4]
      grind
  split
  · rename_i hc
    rw [← mulN h1 h2, prodN_eq hx, ← hx.scale, mkN_cop _ _ _ cop, if_pos]
    rcases hc with ⟨hn, hc⟩ | hc
    · left
      rw [en, em] at hc
      have hp : 0 < p.natAbs / Nat.gcd p.natAbs s.natAbs := by rw [← en]; omega
      rwa [div_lt_iff _ _ _ hp] at hc
    · right
      rw [eq', es, ← Int.natCast_mul] at hc
      omega
  · exact val

theorem fields {a1 a2 b1 b2 c1 c2 s1 s2 x1 x2 y1 y2 z1 z2 : Int} (ha : vld a1 a2 = true) (hb : vld b1 b2 = true) (hc : vld c1 c2 = true)
    (hs : mk (b1 * c2 + c1 * b2) (b2 * c2) = (s1, s2, 0)) (hx : mk (a1 * s1) (a2 * s2) = (x1, x2, 0)) (hy : mk (a1 * b1) (a2 * b2) = (y1, y2, 0)) (hz : mk (a1 * c1) (a2 * c2) = (z1, z2, 0)) :
    mk (y1 * z2 + z1 * y2) (y2 * z2) = (x1, x2, 0) := by
  obtain ⟨-, vs, es⟩ := mk_ok hs
  obtain ⟨-, vx, ex⟩ := mk_ok hx
  obtain ⟨-, vy, ey⟩ := mk_ok hy
  obtain ⟨-, vz, ez⟩ := mk_ok hz
  have pa : 0 < a2 := by rw [vld_iff] at ha; omega
  have pb : 0 < b2 := by rw [vld_iff] at hb; omega
  have pc : 0 < c2 := by rw [vld_iff] at hc; omega
  have ps : 0 < s2 := by rw [vld_iff] at vs; omega
  have py : 0 < y2 := by rw [vld_iff] at vy; omega
  have pz : 0 < z2 := by rw [vld_iff] at vz; omega
  have hyz := Int.mul_pos py pz
  refine mk_of (by omega) vx ?_
  have hk : 0 < a2 * s2 * b2 * c2 := Int.mul_pos (Int.mul_pos (Int.mul_pos pa ps) pb) pc
  have : x1 * (y2 * z2) * (a2 * s2 * b2 * c2) = (y1 * z2 + z1 * y2) * x2 * (a2 * s2 * b2 * c2) := by
    have l : x1 * (y2 * z2) * (a2 * s2 * b2 * c2) = a1 * x2 * y2 * z2 * ((b1 * c2 + c1 * b2) * s2) := by
      calc x1 * (y2 * z2) * (a2 * s2 * b2 * c2) = (x1 * (a2 * s2)) * (y2 * z2 * b2 * c2) := by grind
        _ = a1 * x2 * y2 * z2 * (s1 * (b2 * c2)) := by rw [ex]; grind
        _ = _ := by rw [es]
    have r : (y1 * z2 + z1 * y2) * x2 * (a2 * s2 * b2 * c2) = a1 * x2 * y2 * z2 * ((b1 * c2 + c1 * b2) * s2) := by
      calc (y1 * z2 + z1 * y2) * x2 * (a2 * s2 * b2 * c2) = (y1 * (a2 * b2)) * (z2 * x2 * s2 * c2) + (z1 * (a2 * c2)) * (y2 * x2 * s2 * b2) := by grind
        _ = _ := by rw [ey, ez]; grind
    rw [l, r]
  exact Int.eq_of_mul_eq_mul_right (by omega) this

theorem sub_back {a1 a2 b1 b2 x1 x2 : Int} (ha : vld a1 a2 = true) (hb : vld b1 b2 = true) (hx : mk (a1 * b2 + b1 * a2) (a2 * b2) = (x1, x2, 0)) :
    mk (x1 * b2 - b1 * x2) (x2 * b2) = (a1, a2, 0) := by
  obtain ⟨-, vx, ex⟩ := mk_ok hx
  have pb : 0 < b2 := by rw [vld_iff] at hb; omega
  have px : 0 < x2 := by rw [vld_iff] at vx; omega
  have := Int.mul_pos px pb
  refine mk_of (by omega) ha ?_
  have : a1 * (x2 * b2) * b2 = (x1 * b2 - b1 * x2) * a2 * b2 := by
    calc a1 * (x2 * b2) * b2 = (a1 * b2 + b1 * a2) * x2 * b2 - b1 * x2 * a2 * b2 := by grind
      _ = _ := by rw [← ex]; grind
  exact Int.eq_of_mul_eq_mul_right (by omega) this

theorem div_back {a1 a2 b1 b2 x1 x2 : Int} (ha : vld a1 a2 = true) (_hb : vld b1 b2 = true) (h0 : b1 ≠ 0) (hx : mk (a1 * b1) (a2 * b2) = (x1, x2, 0)) :
    mk (x1 * b2) (x2 * b1) = (a1, a2, 0) := by
  obtain ⟨-, vx, ex⟩ := mk_ok hx
  have px : 0 < x2 := by rw [vld_iff] at vx; omega
  refine mk_of ?_ ha (by grind)
  intro h; rcases Int.mul_eq_zero.1 h with h | h <;> omega

def addM (a1 a2 b1 b2 : Int) : Int × Int × Int := if vld a1 a2 = true ∧ vld b1 b2 = true then mk (a1 * b2 + b1 * a2) (a2 * b2) else (0, 0, 1)
def subM (a1 a2 b1 b2 : Int) : Int × Int × Int := if vld a1 a2 = true ∧ vld b1 b2 = true then mk (a1 * b2 - b1 * a2) (a2 * b2) else (0, 0, 1)
def mulM (a1 a2 b1 b2 : Int) : Int × Int × Int := if vld a1 a2 = true ∧ vld b1 b2 = true then mk (a1 * b1) (a2 * b2) else (0, 0, 1)
def divM (a1 a2 b1 b2 : Int) : Int × Int × Int := if (vld a1 a2 = true ∧ vld b1 b2 = true) ∧ b1 ≠ 0 then mk (a1 * b2) (a2 * b1) else (0, 0, 1)

theorem mul_bd {x y : Int} (h1 : -1099511627776 ≤ x) (h2 : x ≤ 1099511627776) (h3 : 0 ≤ y) (h4 : y ≤ 1048576) : -1152921504606846976 ≤ x * y ∧ x * y ≤ 1152921504606846976 := by
  constructor
  · have a := Int.mul_le_mul_of_nonneg_right h1 h3
    omega
  · have a := Int.mul_le_mul_of_nonneg_right h2 h3
    omega
theorem vld_bd {n d : Int} (h : vld n d = true) : 1 ≤ d ∧ d ≤ 1048576 ∧ -1099511627776 ≤ n ∧ n ≤ 1099511627776 := by
  rw [vld_iff] at h
  exact ⟨h.1, h.2.1, h.2.2.1, h.2.2.2.1⟩
end Go.Proofs.YtlinldbbhdpgcaaGreatDoor
