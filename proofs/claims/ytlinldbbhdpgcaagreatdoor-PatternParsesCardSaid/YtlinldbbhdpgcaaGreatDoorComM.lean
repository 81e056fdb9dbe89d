/-
  THE PERIODS THAT TWO LATTICES HAVE IN COMMON: PLAIN.
-/
import Derived.Test.YtlinldbbhdpgcaaGreatDoorPatM
namespace Go.Proofs.YtlinldbbhdpgcaaGreatDoor
/-- The gcd of positive numbers is a sum of multiples of them. -/
theorem gcd_bez {a b : Int} (ha : 0 < a) : ∃ s t : Int, ((Int.gcd a b : Nat) : Int) = s * a + t * b := by
  obtain ⟨g, s, t, hg0, hg, hga, hgb⟩ := bez a b ha
  have h1 : g ∣ (Int.gcd a b : Int) := Int.dvd_coe_gcd (Int.dvd_of_emod_eq_zero hga) (Int.dvd_of_emod_eq_zero hgb)
  have h2 : (Int.gcd a b : Int) ∣ g := by
    rw [hg]
    exact Int.dvd_add (Int.dvd_mul_of_dvd_right (Int.gcd_dvd_left ..)) (Int.dvd_mul_of_dvd_right (Int.gcd_dvd_right ..))
  have h3 : (Int.gcd a b : Int) = g := Int.dvd_antisymm (by omega) (by omega) h2 h1
  exact ⟨s, t, by rw [h3]; exact hg⟩
/-- Where the rows of two lattices meet: some number that is u modulo a1 and v modulo a2. -/
theorem meet_row {a1 a2 u v : Int} (h1 : 0 < a1) (h2 : 0 < a2) (h : (u - v) % (Int.gcd a1 a2 : Int) = 0) : ∃ k : Int, 0 ≤ k ∧ k < a2 ∧ (u % a1 + k * a1 - v) % a2 = 0 := by
  obtain ⟨s, t, hg⟩ := gcd_bez (b := a2) h1
  obtain ⟨q, hq⟩ := Int.dvd_of_emod_eq_zero h
  refine ⟨(u / a1 - q * s) % a2, Int.emod_nonneg _ (by omega), Int.emod_lt_of_pos _ h2, ?_⟩
  have e1 := Int.mul_ediv_add_emod u a1
  have e2 := Int.mul_ediv_add_emod (u / a1 - q * s) a2
  obtain ⟨r, hr⟩ : ∃ r, r = (u / a1 - q * s) % a2 := ⟨_, rfl⟩
  obtain ⟨d, hd⟩ : ∃ d, d = (u / a1 - q * s) / a2 := ⟨_, rfl⟩
  rw [← hr, ← hd] at e2
  rw [← hr]
  apply Int.emod_eq_zero_of_dvd
  refine ⟨q * t - d * a1, ?_⟩
  have e3 : u - v = (s * a1 + t * a2) * q := by rw [← hg]; exact hq
  have e4 : r = u / a1 - q * s - a2 * d := by omega
  have e5 : u % a1 = u - a1 * (u / a1) := by omega
  rw [e5, e4, Int.sub_mul, Int.sub_mul, Int.mul_sub]
  have e6 : (s * a1 + t * a2) * q = q * s * a1 + a2 * (q * t) := by
    rw [Int.add_mul, Int.mul_comm (s * a1) q, ← Int.mul_assoc, Int.mul_comm (t * a2) q, ← Int.mul_assoc, Int.mul_comm (q * t) a2]
  have e7 : u / a1 * a1 = a1 * (u / a1) := Int.mul_comm _ _
  have e8 : a2 * d * a1 = a2 * (d * a1) := Int.mul_assoc _ _ _
  omega
/-- A common multiple, as the program writes it. -/
def lcmP (a b : Int) : Int := a / (Int.gcd a b : Int) * b
theorem lcmP_spec {a b : Int} (ha : 0 < a) (hb : 0 < b) : 0 < (Int.gcd a b : Int) ∧ (Int.gcd a b : Int) ≤ a ∧ 0 < a / (Int.gcd a b : Int) ∧ a / (Int.gcd a b : Int) ≤ a ∧ 0 < lcmP a b ∧ lcmP a b * (Int.gcd a b : Int) = a * b ∧ lcmP a b % a = 0 ∧ lcmP a b % b = 0 ∧ ∀ n, n % a = 0 → n % b = 0 → n % lcmP a b = 0 := by
  obtain ⟨s, t, hg⟩ := gcd_bez (b := b) ha
  obtain ⟨m, hm⟩ : (Int.gcd a b : Int) ∣ a := Int.gcd_dvd_left ..
  obtain ⟨n, hn⟩ : (Int.gcd a b : Int) ∣ b := Int.gcd_dvd_right ..
  have hg0 : 0 < (Int.gcd a b : Int) := by
    have : Int.gcd a b ≠ 0 := fun h => by have := (Int.gcd_eq_zero_iff.1 h).1; omega
    omega
  have hd : a / (Int.gcd a b : Int) = m := by
    have : a / (Int.gcd a b : Int) = (Int.gcd a b : Int) * m / (Int.gcd a b : Int) := congrArg (· / (Int.gcd a b : Int)) hm
    rw [this]; exact Int.mul_ediv_cancel_left _ (by omega)
  unfold lcmP
  rw [hd]
  obtain ⟨g, hgg⟩ : ∃ g, g = (Int.gcd a b : Int) := ⟨_, rfl⟩
  rw [← hgg] at hg hm hn hg0 ⊢
  clear hgg hd
  have hm0 : 0 < m := by
    rcases Int.lt_or_le 0 m with h | h
    · exact h
    · have := Int.mul_nonpos_of_nonneg_of_nonpos (show 0 ≤ g by omega) h
      omega
  have hn0 : 0 < n := by
    rcases Int.lt_or_le 0 n with h | h
    · exact h
    · have := Int.mul_nonpos_of_nonneg_of_nonpos (show 0 ≤ g by omega) h
      omega
  have g1 : g * 1 ≤ g * m := Int.mul_le_mul_of_nonneg_left (by omega) (by omega)
  have g2 : 1 * m ≤ g * m := Int.mul_le_mul_of_nonneg_right (by omega) (by omega)
  refine ⟨hg0, by omega, hm0, by omega, Int.mul_pos hm0 hb, ?_, ?_, Int.mul_emod_left _ _, ?_⟩
  · rw [hm, Int.mul_right_comm, Int.mul_comm m g]
  · apply Int.emod_eq_zero_of_dvd
    refine ⟨n, ?_⟩
    rw [hm, hn, ← Int.mul_assoc, Int.mul_comm m g]
  · intro x hxa hxb
    obtain ⟨i, hi⟩ := Int.dvd_of_emod_eq_zero hxa
    obtain ⟨j, hj⟩ := Int.dvd_of_emod_eq_zero hxb
    apply Int.emod_eq_zero_of_dvd
    have e1 : g * x = m * b * (s * g * j + t * g * i) := by
      have f1 : g * x = s * a * x + t * b * x := by rw [← Int.add_mul, ← hg]
      have f2 : s * a * x = m * b * (s * g * j) := by
        rw [hj, hm]; ac_rfl
      have f3 : t * b * x = m * b * (t * g * i) := by
        have : x = g * m * i := by rw [← hm]; exact hi
        rw [this]; ac_rfl
      rw [f1, f2, f3, ← Int.mul_add]
    refine ⟨s * j + t * i, ?_⟩
    have e2 : g * x = g * (m * b * (s * j + t * i)) := by
      rw [e1, Int.mul_add, Int.mul_add, Int.mul_add]; congr 1 <;> ac_rfl
    exact Int.eq_of_mul_eq_mul_left (by omega) e2
/-- What two lattices have in common: a basis of some of it. -/
structure Com (a1 b1 c1 a2 b2 c2 a b c : Int) : Prop where
  pa : 0 < a
  pc : 0 < c
  pb : 0 ≤ b
  lb : b < a
  ma : a % a1 = 0
  mb : a % a2 = 0
  l1 : Lat a1 b1 c1 b c
  l2 : Lat a2 b2 c2 b c
  sz : a * c ≤ a1 * a2 * (c1 * c2)
theorem Lat.red {a1 b1 c1 b c a : Int} (h : Lat a1 b1 c1 b c) (hm : a % a1 = 0) : Lat a1 b1 c1 (b % a) c := by
  obtain ⟨h1, h2⟩ := h
  refine ⟨h1, ?_⟩
  obtain ⟨i, hi⟩ := Int.dvd_of_emod_eq_zero h2
  obtain ⟨j, hj⟩ := Int.dvd_of_emod_eq_zero hm
  apply Int.emod_eq_zero_of_dvd
  refine ⟨i - j * (b / a), ?_⟩
  have e := Int.mul_ediv_add_emod b a
  have e2 : a1 * (i - j * (b / a)) = a1 * i - a * (b / a) := by
    rw [Int.mul_sub, ← Int.mul_assoc, ← hj]
  omega
/-- Behind so many rows both lattices have a vector in common. -/
theorem com_row {a1 b1 c1 a2 b2 c2 : Int} (h3 : 0 < c1) (h4 : 0 < c2) :
    ((Int.gcd a1 a2 : Int) * lcmP c1 c2 / c1 * b1 - (Int.gcd a1 a2 : Int) * lcmP c1 c2 / c2 * b2) % (Int.gcd a1 a2 : Int) = 0 := by
  obtain ⟨-, -, -, -, -, -, k1, k2, -⟩ := lcmP_spec h3 h4
  obtain ⟨i, hi⟩ := Int.dvd_of_emod_eq_zero k1
  obtain ⟨j, hj⟩ := Int.dvd_of_emod_eq_zero k2
  have e1 : (Int.gcd a1 a2 : Int) * lcmP c1 c2 / c1 = (Int.gcd a1 a2 : Int) * i := by
    rw [hi, Int.mul_left_comm]; exact Int.mul_ediv_cancel_left _ (by omega)
  have e2 : (Int.gcd a1 a2 : Int) * lcmP c1 c2 / c2 = (Int.gcd a1 a2 : Int) * j := by
    rw [hj, Int.mul_left_comm]; exact Int.mul_ediv_cancel_left _ (by omega)
  rw [e1, e2, Int.mul_assoc, Int.mul_assoc, ← Int.mul_sub]
  exact Int.mul_emod_right _ _
theorem com_sz {a1 a2 c1 c2 n : Int} (h1 : 0 < a1) (h2 : 0 < a2) (h3 : 0 < c1) (h4 : 0 < c2) (_hn0 : 0 ≤ n) (hn : n ≤ (Int.gcd a1 a2 : Int)) : lcmP a1 a2 * (n * lcmP c1 c2) ≤ a1 * a2 * (c1 * c2) := by
  obtain ⟨-, -, -, -, g5, g6, -, -, -⟩ := lcmP_spec h1 h2
  obtain ⟨k1, -, -, -, k5, k6, -, -, -⟩ := lcmP_spec h3 h4
  have e1 : lcmP a1 a2 * n ≤ a1 * a2 := by
    rw [← g6]; exact Int.mul_le_mul_of_nonneg_left hn (by omega)
  have e2 : lcmP c1 c2 ≤ c1 * c2 := by
    have : lcmP c1 c2 * 1 ≤ lcmP c1 c2 * (Int.gcd c1 c2 : Int) := Int.mul_le_mul_of_nonneg_left (by omega) (by omega)
    omega
  rw [← Int.mul_assoc]
  exact Int.mul_le_mul e1 e2 (by omega) (by have := Int.mul_pos h1 h2; omega)
/-- A vector that the program finds. -/
theorem com_find {a1 b1 c1 a2 b2 c2 n k : Int} (h1 : 0 < a1) (h2 : 0 < a2) (h3 : 0 < c1) (h4 : 0 < c2) (hn0 : 0 < n) (hn : n ≤ (Int.gcd a1 a2 : Int))
    (hk : (n * lcmP c1 c2 / c1 * b1 % a1 + k * a1 - n * lcmP c1 c2 / c2 * b2) % a2 = 0) :
    Com a1 b1 c1 a2 b2 c2 (lcmP a1 a2) ((n * lcmP c1 c2 / c1 * b1 % a1 + k * a1) % lcmP a1 a2) (n * lcmP c1 c2) := by
  obtain ⟨-, -, -, -, g5, -, g7, g8, -⟩ := lcmP_spec h1 h2
  obtain ⟨-, -, -, -, k5, -, k7, k8, -⟩ := lcmP_spec h3 h4
  have z1 : n * lcmP c1 c2 % c1 = 0 := Int.emod_eq_zero_of_dvd (Int.dvd_mul_of_dvd_right (Int.dvd_of_emod_eq_zero k7))
  have z2 : n * lcmP c1 c2 % c2 = 0 := Int.emod_eq_zero_of_dvd (Int.dvd_mul_of_dvd_right (Int.dvd_of_emod_eq_zero k8))
  refine ⟨g5, Int.mul_pos hn0 k5, Int.emod_nonneg _ (by omega), Int.emod_lt_of_pos _ g5, g7, g8, Lat.red ⟨z1, ?_⟩ g7, Lat.red ⟨z2, hk⟩ g8, com_sz h1 h2 h3 h4 (by omega) hn⟩
  have e := Int.mul_ediv_add_emod (n * lcmP c1 c2 / c1 * b1) a1
  apply Int.emod_eq_zero_of_dvd
  refine ⟨k - n * lcmP c1 c2 / c1 * b1 / a1, ?_⟩
  rw [Int.mul_sub, Int.mul_comm a1 k]
  omega
/-- How many rows the program goes down. -/
theorem com_prog {a1 b1 c1 a2 b2 c2 : Int} (h1 : 0 < a1) (h2 : 0 < a2) (h3 : 0 < c1) (h4 : 0 < c2) : ∃ n k : Int, (0 < n ∧ n ≤ (Int.gcd a1 a2 : Int) ∧ 0 ≤ k ∧ k ≤ a2) ∧
    (∀ m, 0 < m → m < n → (m * lcmP c1 c2 / c1 * b1 - m * lcmP c1 c2 / c2 * b2) % (Int.gcd a1 a2 : Int) ≠ 0) ∧ (n * lcmP c1 c2 / c1 * b1 - n * lcmP c1 c2 / c2 * b2) % (Int.gcd a1 a2 : Int) = 0 ∧
    (∀ j, 0 ≤ j → j < k → (n * lcmP c1 c2 / c1 * b1 % a1 + j * a1 - n * lcmP c1 c2 / c2 * b2) % a2 ≠ 0) ∧ (n * lcmP c1 c2 / c1 * b1 % a1 + k * a1 - n * lcmP c1 c2 / c2 * b2) % a2 = 0 := by
  have hg := (lcmP_spec h1 h2).1
  obtain ⟨n, n1, n2, n3, n4⟩ := exists_min0 (fun n => 0 < n ∧ (n * lcmP c1 c2 / c1 * b1 - n * lcmP c1 c2 / c2 * b2) % (Int.gcd a1 a2 : Int) = 0) (n := (Int.gcd a1 a2 : Int)) (by omega) ⟨hg, com_row h3 h4⟩
  obtain ⟨k', k1, k2, k3⟩ := meet_row h1 h2 n3.2
  obtain ⟨k, k4, k5, k6, k7⟩ := exists_min0 (fun k => (n * lcmP c1 c2 / c1 * b1 % a1 + k * a1 - n * lcmP c1 c2 / c2 * b2) % a2 = 0) k1 k3
  exact ⟨n, k, ⟨n3.1, n2, k4, by omega⟩, fun m h0 hm he => n4 m (by omega) hm ⟨h0, he⟩, n3.2, k7, k6⟩
/-- How many rows the document goes down. -/
theorem com_ref {a1 b1 c1 a2 b2 c2 : Int} (h1 : 0 < a1) (h2 : 0 < a2) (h3 : 0 < c1) (h4 : 0 < c2) : ∃ m n b : Int, (0 < m ∧ 0 < n ∧ 0 ≤ b ∧ b < m * a1) ∧ m ≤ a2 ∧ n ≤ a1 * c2 ∧ (∀ k, 0 < k → k < m → (k * a1) % a2 ≠ 0) ∧ (m * a1) % a2 = 0 ∧
    (∀ j, 0 < j → j < n → ∀ x, 0 ≤ x → x < m * a1 → ¬ (Lat a1 b1 c1 x (j * c1) ∧ Lat a2 b2 c2 x (j * c1))) ∧
    (∀ x, 0 ≤ x → x < b → ¬ (Lat a1 b1 c1 x (n * c1) ∧ Lat a2 b2 c2 x (n * c1))) ∧ Com a1 b1 c1 a2 b2 c2 (m * a1) b (n * c1) := by
  obtain ⟨g1, g2, g3, g4, g5, g6, g7, g8, g9⟩ := lcmP_spec h1 h2
  obtain ⟨k1, k2, k3, k4, k5, k6, k7, k8, k9⟩ := lcmP_spec h3 h4
  obtain ⟨m, m1, m2, m3, m4⟩ := exists_min0 (fun k => 0 < k ∧ (k * a1) % a2 = 0) (n := a2) (by omega) ⟨h2, Int.mul_emod_right _ _⟩
  obtain ⟨x, hx⟩ := Int.dvd_of_emod_eq_zero g7
  have hle : m * a1 ≤ lcmP a1 a2 := by
    have hx0 : 0 < x := by
      rcases Int.lt_or_le 0 x with h | h
      · exact h
      · have := Int.mul_nonpos_of_nonneg_of_nonpos (show 0 ≤ a1 by omega) h
        omega
    have : m ≤ x := by
      rcases Int.lt_or_le x m with h | h
      · exact absurd ⟨hx0, by rw [Int.mul_comm, ← hx]; exact g8⟩ (m4 x (by omega) h)
      · exact h
    have : m * a1 ≤ x * a1 := Int.mul_le_mul_of_nonneg_right this (by omega)
    rw [hx, Int.mul_comm a1 x]; exact this
  have hma : 0 < m * a1 := Int.mul_pos m3.1 h1
  have hmm : m * a1 % lcmP a1 a2 = 0 := g9 _ (Int.mul_emod_left _ _) m3.2
  have heq : m * a1 = lcmP a1 a2 := by
    obtain ⟨y, hy⟩ := Int.dvd_of_emod_eq_zero hmm
    have hy0 : 0 < y := by
      rcases Int.lt_or_le 0 y with h | h
      · exact h
      · have := Int.mul_nonpos_of_nonneg_of_nonpos (show 0 ≤ lcmP a1 a2 by omega) h
        omega
    have : lcmP a1 a2 * 1 ≤ lcmP a1 a2 * y := Int.mul_le_mul_of_nonneg_left (by omega) (by omega)
    omega
  obtain ⟨n0, k0, ⟨p1, p2, p3, p4⟩, -, -, -, p8⟩ := com_prog (b1 := b1) (b2 := b2) h1 h2 h3 h4
  have hc := com_find (b1 := b1) (b2 := b2) h1 h2 h3 h4 p1 p2 p8
  obtain ⟨z, hz⟩ := Int.dvd_of_emod_eq_zero k7
  have hz0 : 0 < z := by
    rcases Int.lt_or_le 0 z with h | h
    · exact h
    · have := Int.mul_nonpos_of_nonneg_of_nonpos (show 0 ≤ c1 by omega) h
      omega
  have hrow : n0 * lcmP c1 c2 = n0 * z * c1 := by rw [hz, Int.mul_comm c1 z, Int.mul_assoc]
  rw [hrow] at hc
  have hnz : 0 < n0 * z := Int.mul_pos p1 hz0
  obtain ⟨n, n1, n2, n3, n4⟩ := exists_min0 (fun j => 0 < j ∧ ∃ x, 0 ≤ x ∧ x < m * a1 ∧ Lat a1 b1 c1 x (j * c1) ∧ Lat a2 b2 c2 x (j * c1)) (n := n0 * z) (by omega) ⟨hnz, _, hc.pb, by rw [heq]; exact hc.lb, hc.l1, hc.l2⟩
  obtain ⟨hn0, x0, x1, x2, x3⟩ := n3
  obtain ⟨b, b1', b2', b3, b4⟩ := exists_min0 (fun x => Lat a1 b1 c1 x (n * c1) ∧ Lat a2 b2 c2 x (n * c1)) x1 x3
  refine ⟨m, n, b, ⟨m3.1, hn0, b1', by omega⟩, m2, ?_, fun k h0 hk he => m4 k (by omega) hk ⟨h0, he⟩, m3.2, fun j h0 hj x hx0 hx1 hl => n4 j (by omega) hj ⟨h0, x, hx0, hx1, hl.1, hl.2⟩, b4, ⟨hma, Int.mul_pos hn0 h3, b1', by omega, Int.mul_emod_left _ _, m3.2, b3.1, b3.2, ?_⟩⟩
  · have e1 : n0 * z ≤ a1 * c2 := by
      have f1 : z ≤ c2 := by
        have : lcmP c1 c2 ≤ c1 * c2 := by
          have : lcmP c1 c2 * 1 ≤ lcmP c1 c2 * (Int.gcd c1 c2 : Int) := Int.mul_le_mul_of_nonneg_left (by omega) (by omega)
          omega
        rw [hz] at this
        exact Int.le_of_mul_le_mul_left this h3
      exact Int.mul_le_mul (by omega) f1 (by omega) (by omega)
    omega
  · have e1 : n * c1 ≤ n0 * lcmP c1 c2 := by rw [hrow]; exact Int.mul_le_mul_of_nonneg_right n2 (by omega)
    have e2 := com_sz h1 h2 h3 h4 (show 0 ≤ n0 by omega) p2
    rw [heq]
    have : lcmP a1 a2 * (n * c1) ≤ lcmP a1 a2 * (n0 * lcmP c1 c2) := Int.mul_le_mul_of_nonneg_left e1 (by omega)
    omega
theorem mul_step {a x A : Int} (ha : 0 < a) (h : x < A) (hx : x % a = 0) (hA : A % a = 0) : x + a ≤ A ∧ (x + a) % a = 0 := by
  obtain ⟨i, hi⟩ := Int.dvd_of_emod_eq_zero hx
  obtain ⟨j, hj⟩ := Int.dvd_of_emod_eq_zero hA
  refine ⟨?_, by rw [Int.add_emod_right]; exact hx⟩
  have h1 : a * (i + 1) ≤ a * j := Int.mul_le_mul_of_nonneg_left (by
    rcases Int.lt_or_le i j with h2 | h2
    · omega
    · have : a * j ≤ a * i := Int.mul_le_mul_of_nonneg_left h2 (by omega)
      omega) (by omega)
  rw [Int.mul_add, Int.mul_one] at h1
  omega
theorem com_ref2 {a1 b1 c1 a2 b2 c2 : Int} (h1 : 0 < a1) (h2 : 0 < a2) (h3 : 0 < c1) (h4 : 0 < c2) : ∃ A b C : Int, Com a1 b1 c1 a2 b2 c2 A b C ∧ (∀ x, 0 < x → x < A → x % a1 = 0 → x % a2 ≠ 0) ∧
    (∀ z, 0 < z → z < C → z % c1 = 0 → ∀ x, 0 ≤ x → x < A → ¬ (Lat a1 b1 c1 x z ∧ Lat a2 b2 c2 x z)) ∧ (∀ x, 0 ≤ x → x < b → ¬ (Lat a1 b1 c1 x C ∧ Lat a2 b2 c2 x C)) ∧ A ≤ a2 * a1 ∧ C ≤ a1 * c2 * c1 ∧ C % c1 = 0 := by
  obtain ⟨m, n, b, ⟨m0, n0, -, -⟩, m2, n2, k1, -, k3, k4, k5⟩ := com_ref (b1 := b1) (b2 := b2) h1 h2 h3 h4
  refine ⟨m * a1, b, n * c1, k5, fun x x0 x1 hx => ?_, fun z z0 z1 hz => ?_, k4, Int.mul_le_mul_of_nonneg_right m2 (by omega), Int.mul_le_mul_of_nonneg_right n2 (by omega), Int.mul_emod_left _ _⟩
  · obtain ⟨i, hi⟩ := Int.dvd_of_emod_eq_zero hx
    rw [Int.mul_comm] at hi
    rw [hi] at x0 x1 ⊢
    exact k1 i (by
      rcases Int.lt_or_le 0 i with h | h
      · exact h
      · have := Int.mul_nonpos_of_nonpos_of_nonneg h (show 0 ≤ a1 by omega)
        omega) (Int.lt_of_mul_lt_mul_right x1 (by omega))
  · obtain ⟨i, hi⟩ := Int.dvd_of_emod_eq_zero hz
    rw [Int.mul_comm] at hi
    rw [hi] at z0 z1 ⊢
    exact k3 i (by
      rcases Int.lt_or_le 0 i with h | h
      · exact h
      · have := Int.mul_nonpos_of_nonpos_of_nonneg h (show 0 ≤ c1 by omega)
        omega) (Int.lt_of_mul_lt_mul_right z1 (by omega))
/-- Both functions have these periods. -/
theorem Com.base {F G : Int → Int → Int} {a1 b1 c1 a2 b2 c2 a b c : Int} (h : Com a1 b1 c1 a2 b2 c2 a b c) (hF : Base F a1 b1 c1) (hG : Base G a2 b2 c2) : Base F a b c ∧ Base G a b c := by
  refine ⟨⟨h.pa, h.pc, hF.lat ?_, hF.lat h.l1⟩, ⟨h.pa, h.pc, hG.lat ?_, hG.lat h.l2⟩⟩
  · exact ⟨Int.zero_emod _, by rw [Int.zero_ediv, Int.zero_mul, Int.sub_zero]; exact h.ma⟩
  · exact ⟨Int.zero_emod _, by rw [Int.zero_ediv, Int.zero_mul, Int.sub_zero]; exact h.mb⟩
end Go.Proofs.YtlinldbbhdpgcaaGreatDoor
