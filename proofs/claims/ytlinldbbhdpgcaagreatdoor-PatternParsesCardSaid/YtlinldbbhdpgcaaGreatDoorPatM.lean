/-
  PERIODIC FUNCTIONS OF THE PLANE: PLAIN. The least basis of the periods.
-/
namespace Go.Proofs.YtlinldbbhdpgcaaGreatDoor
/-- Moving by (dx, dy) changes nothing. -/
def Per (F : Int → Int → Int) (dx dy : Int) : Prop := ∀ x y, F (x + dx) (y + dy) = F x y
section
variable {F : Int → Int → Int}
theorem Per.zero : Per F 0 0 := fun x y => by rw [Int.add_zero, Int.add_zero]
theorem Per.add {a b c d : Int} (h : Per F a b) (k : Per F c d) : Per F (a + c) (b + d) := fun x y => by
  rw [← Int.add_assoc, ← Int.add_assoc, k, h]
theorem Per.neg {a b : Int} (h : Per F a b) : Per F (-a) (-b) := fun x y => by
  have := h (x + -a) (y + -b)
  rw [show x + -a + a = x by omega, show y + -b + b = y by omega] at this
  exact this.symm
theorem Per.sub {a b c d : Int} (h : Per F a b) (k : Per F c d) : Per F (a - c) (b - d) := by
  have := h.add k.neg
  rwa [← Int.sub_eq_add_neg, ← Int.sub_eq_add_neg] at this
theorem Per.nmul {a b : Int} (h : Per F a b) : ∀ n : Nat, Per F (n * a) (n * b)
  | 0 => by simpa using Per.zero
  | n + 1 => by
    have := (h.nmul n).add h
    rw [show ((n + 1 : Nat) : Int) * a = n * a + a by rw [Int.natCast_add, Int.add_mul]; simp, show ((n + 1 : Nat) : Int) * b = n * b + b by rw [Int.natCast_add, Int.add_mul]; simp]
    exact this
theorem Per.mul {a b : Int} (h : Per F a b) (k : Int) : Per F (k * a) (k * b) := by
  rcases Int.le_total 0 k with hk | hk
  · obtain ⟨n, rfl⟩ := Int.eq_ofNat_of_zero_le hk
    exact h.nmul n
  · obtain ⟨n, hn⟩ := Int.eq_ofNat_of_zero_le (show 0 ≤ -k by omega)
    have := (h.nmul n).neg
    rw [← Int.neg_mul, ← Int.neg_mul, ← hn, Int.neg_neg] at this
    exact this
theorem Per.same {a b a' b' : Int} (h : Per F a b) (ha : a' = a) (hb : b' = b) : Per F a' b' := by rw [ha, hb]; exact h
/-- A function with the periods (a, 0) and (b, c): where a cell is at home. -/
structure Base (F : Int → Int → Int) (a b c : Int) : Prop where
  a0 : 0 < a
  c0 : 0 < c
  pa : Per F a 0
  pb : Per F b c
variable {a b c : Int}
theorem Base.home (h : Base F a b c) (x y : Int) : F x y = F ((x - y / c * b) % a) (y % c) := by
  have h1 := (h.pb.mul (y / c)).add (h.pa.mul ((x - y / c * b) / a))
  have := h1 ((x - y / c * b) % a) (y % c)
  rw [← this]
  have e1 := Int.mul_ediv_add_emod (x - y / c * b) a
  have e2 := Int.mul_ediv_add_emod y c
  have e3 : (x - y / c * b) / a * a = a * ((x - y / c * b) / a) := Int.mul_comm _ _
  have e4 : y / c * c = c * (y / c) := Int.mul_comm _ _
  congr 1
  · omega
  · rw [Int.mul_zero]; omega
/-- Moving by a vector changes nothing if it changes no cell of a repeat. -/
theorem Base.per (h : Base F a b c) {dx dy : Int} (hr : ∀ x y, 0 ≤ x → x < a → 0 ≤ y → y < c → F (x + dx) (y + dy) = F x y) : Per F dx dy := by
  intro x y
  have h1 := (h.pb.mul (y / c)).add (h.pa.mul ((x - y / c * b) / a))
  have e1 := Int.mul_ediv_add_emod (x - y / c * b) a
  have e2 := Int.mul_ediv_add_emod y c
  have e3 : (x - y / c * b) / a * a = a * ((x - y / c * b) / a) := Int.mul_comm _ _
  have e4 : y / c * c = c * (y / c) := Int.mul_comm _ _
  have k1 := h1 ((x - y / c * b) % a + dx) (y % c + dy)
  have k2 := h1 ((x - y / c * b) % a) (y % c)
  have k3 := hr ((x - y / c * b) % a) (y % c) (Int.emod_nonneg _ (by have := h.a0; omega)) (Int.emod_lt_of_pos _ h.a0) (Int.emod_nonneg _ (by have := h.c0; omega)) (Int.emod_lt_of_pos _ h.c0)
  rw [show (x - y / c * b) % a + dx + (y / c * b + (x - y / c * b) / a * a) = x + dx by omega, show y % c + dy + (y / c * c + (x - y / c * b) / a * 0) = y + dy by rw [Int.mul_zero]; omega] at k1
  rw [show (x - y / c * b) % a + (y / c * b + (x - y / c * b) / a * a) = x by omega, show y % c + (y / c * c + (x - y / c * b) / a * 0) = y by rw [Int.mul_zero]; omega] at k2
  rw [k1, k2, k3]
/-- The least basis. -/
structure Least (F : Int → Int → Int) (a b c : Int) : Prop extends Base F a b c where
  b0 : 0 ≤ b
  b1 : b < a
  la : ∀ a', 0 < a' → Per F a' 0 → a ≤ a'
  lc : ∀ b' c', 0 < c' → Per F b' c' → c ≤ c'
variable {a1 b1 c1 : Int}
theorem Least.row (h : Least F a b c) {d : Int} (hd : Per F d 0) : d % a = 0 := by
  have h1 := hd.sub (h.pa.mul (d / a))
  have e := Int.mul_ediv_add_emod d a
  have e2 : d / a * a = a * (d / a) := Int.mul_comm _ _
  rw [show d - d / a * a = d % a by omega, Int.mul_zero, Int.sub_zero] at h1
  have h2 := Int.emod_nonneg d (show a ≠ 0 by have := h.a0; omega)
  have h3 := Int.emod_lt_of_pos d h.a0
  rcases Int.lt_or_eq_of_le h2 with h4 | h4
  · have := h.la _ h4 h1; omega
  · exact h4.symm
theorem Least.col (h : Least F a b c) {d e : Int} (hd : Per F d e) : e % c = 0 := by
  have h1 := hd.sub (h.pb.mul (e / c))
  have e1 := Int.mul_ediv_add_emod e c
  have e2 : e / c * c = c * (e / c) := Int.mul_comm _ _
  rw [show e - e / c * c = e % c by omega] at h1
  have h2 := Int.emod_nonneg e (show c ≠ 0 by have := h.c0; omega)
  have h3 := Int.emod_lt_of_pos e h.c0
  rcases Int.lt_or_eq_of_le h2 with h4 | h4
  · have := h.lc _ _ h4 h1; omega
  · exact h4.symm
/-- The periods are the sums of the two. -/
theorem Least.iff (h : Least F a b c) {d e : Int} : Per F d e ↔ e % c = 0 ∧ (d - e / c * b) % a = 0 := by
  have e1 := Int.mul_ediv_add_emod e c
  have e2 : e / c * c = c * (e / c) := Int.mul_comm _ _
  constructor
  · intro hd
    have hc := h.col hd
    refine ⟨hc, h.row (d := d - e / c * b) ?_⟩
    have h1 := hd.sub (h.pb.mul (e / c))
    rwa [show e - e / c * c = 0 by omega] at h1
  · rintro ⟨hc, ha⟩
    have e3 := Int.mul_ediv_add_emod (d - e / c * b) a
    have e4 : (d - e / c * b) / a * a = a * ((d - e / c * b) / a) := Int.mul_comm _ _
    refine ((h.pb.mul (e / c)).add (h.pa.mul ((d - e / c * b) / a))).same (by omega) ?_
    rw [Int.mul_zero]; omega
theorem Least.uniq (h : Least F a b c) (k : Least F a1 b1 c1) : a = a1 ∧ b = b1 ∧ c = c1 := by
  have e1 : a = a1 := Int.le_antisymm (h.la _ k.a0 k.pa) (k.la _ h.a0 h.pa)
  have e2 : c = c1 := Int.le_antisymm (h.lc _ _ k.c0 k.pb) (k.lc _ _ h.c0 h.pb)
  subst e1; subst e2
  have h1 := h.pb.sub k.pb
  rw [Int.sub_self] at h1
  have h2 := h.row h1
  have := h.b0; have := h.b1; have := k.b0; have := k.b1; have := h.a0
  refine ⟨rfl, ?_, rfl⟩
  rcases Int.lt_trichotomy b b1 with h3 | h3 | h3
  · have e : (b - b1) % a = b - b1 + a := by
      rw [← Int.add_emod_right]; exact Int.emod_eq_of_lt (by omega) (by omega)
    omega
  · exact h3
  · have e : (b - b1) % a = b - b1 := Int.emod_eq_of_lt (by omega) (by omega)
    omega
theorem Least.le (h : Least F a1 b1 c1) (k : Base F a b c) : a1 ≤ a ∧ c1 ≤ c ∧ a % a1 = 0 ∧ c % c1 = 0 := ⟨h.la _ k.a0 k.pa, h.lc _ _ k.c0 k.pb, h.row k.pa, h.col k.pb⟩
theorem Least.cells (h : Least F a1 b1 c1) (k : Base F a b c) : a1 * c1 ≤ a * c := by
  obtain ⟨h1, h2, -⟩ := h.le k
  exact Int.mul_le_mul h1 h2 (by have := h.c0; omega) (by have := k.a0; omega)
theorem exists_min (p : Nat → Prop) {n : Nat} (h : p n) : ∃ m, p m ∧ ∀ k, p k → m ≤ k := by
  induction n using Nat.strongRecOn with
  | _ n ih =>
    by_cases hn : ∃ k, k < n ∧ p k
    · obtain ⟨k, hk, hp⟩ := hn
      exact ih k hk hp
    · exact ⟨n, h, fun k hk => by
        rcases Nat.lt_or_ge k n with h1 | h1
        · exact absurd ⟨k, h1, hk⟩ hn
        · exact h1⟩
theorem Base.least (h : Base F a b c) : ∃ a1 b1 c1, Least F a1 b1 c1 := by
  obtain ⟨m, ⟨hm1, hm2⟩, hm3⟩ := exists_min (fun n : Nat => 0 < n ∧ Per F n 0) (n := a.toNat) ⟨by have := h.a0; omega, h.pa.same (by have := h.a0; omega) rfl⟩
  obtain ⟨q, ⟨hq1, b', hq2⟩, hq3⟩ := exists_min (fun n : Nat => 0 < n ∧ ∃ b', Per F b' n) (n := c.toNat) ⟨by have := h.c0; omega, b, h.pb.same rfl (by have := h.c0; omega)⟩
  have hm0 : (0 : Int) < m := by omega
  refine ⟨m, b' % m, q, ⟨⟨hm0, by omega, hm2, ?_⟩, Int.emod_nonneg _ (by omega), Int.emod_lt_of_pos _ hm0, ?_, ?_⟩⟩
  · have e := Int.mul_ediv_add_emod b' m
    have e2 : b' / m * m = m * (b' / m) := Int.mul_comm _ _
    exact (hq2.sub (hm2.mul (b' / m))).same (by omega) (by rw [Int.mul_zero]; omega)
  · intro a' h0 h1
    have := hm3 a'.toNat ⟨by omega, h1.same (by omega) rfl⟩
    omega
  · intro b'' c' h0 h1
    have := hq3 c'.toNat ⟨by omega, b'', h1.same rfl (by omega)⟩
    omega
end
end Go.Proofs.YtlinldbbhdpgcaaGreatDoor
/-
  LATTICES OF PERIODS: PLAIN. The turned lattice's basis, and the periods that two lattices have in common.
-/
namespace Go.Proofs.YtlinldbbhdpgcaaGreatDoor
/-- (dx, dy) is a sum of the periods (a, 0) and (b, c). -/
def Lat (a b c dx dy : Int) : Prop := dy % c = 0 ∧ (dx - dy / c * b) % a = 0
instance (a b c dx dy : Int) : Decidable (Lat a b c dx dy) := by unfold Lat; infer_instance
theorem lat_iff {a b c dx dy : Int} (hc : 0 < c) : Lat a b c dx dy ↔ ∃ i j, dx = i * a + j * b ∧ dy = j * c := by
  constructor
  · rintro ⟨h1, h2⟩
    refine ⟨(dx - dy / c * b) / a, dy / c, ?_, ?_⟩
    · have := Int.mul_ediv_add_emod (dx - dy / c * b) a
      have e : (dx - dy / c * b) / a * a = a * ((dx - dy / c * b) / a) := Int.mul_comm _ _
      omega
    · have := Int.mul_ediv_add_emod dy c
      have e : dy / c * c = c * (dy / c) := Int.mul_comm _ _
      omega
  · rintro ⟨i, j, rfl, rfl⟩
    refine ⟨Int.mul_emod_left _ _, ?_⟩
    rw [Int.mul_ediv_cancel _ (by omega), show i * a + j * b - j * b = i * a by omega]
    exact Int.mul_emod_left _ _
theorem Base.lat {F : Int → Int → Int} {a b c dx dy : Int} (h : Base F a b c) (hl : Lat a b c dx dy) : Per F dx dy := by
  obtain ⟨i, j, rfl, rfl⟩ := (lat_iff h.c0).1 hl
  refine ((h.pa.mul i).add (h.pb.mul j)).same rfl ?_
  rw [Int.mul_zero]; omega
theorem Least.lat {F : Int → Int → Int} {a b c dx dy : Int} (h : Least F a b c) : Per F dx dy ↔ Lat a b c dx dy := h.iff
/-- Bezout. -/
theorem bez (a b : Int) (ha : 0 < a) : ∃ g s t : Int, 0 < g ∧ g = s * a + t * b ∧ a % g = 0 ∧ b % g = 0 := by
  obtain ⟨m, ⟨hm0, s, t, hm⟩, hmin⟩ := exists_min (fun n : Nat => 0 < n ∧ ∃ s t : Int, (n : Int) = s * a + t * b) (n := a.toNat) ⟨by omega, 1, 0, by omega⟩
  have hz : ∀ u v : Int, (u * a + v * b) % (m : Int) = 0 := fun u v => by
    have h1 := Int.emod_nonneg (u * a + v * b) (show (m : Int) ≠ 0 by omega)
    have h2 := Int.emod_lt_of_pos (u * a + v * b) (show (0 : Int) < m by omega)
    have h3 := Int.mul_ediv_add_emod (u * a + v * b) m
    rcases Int.lt_or_eq_of_le h1 with h | h
    · have := hmin ((u * a + v * b) % (m : Int)).toNat ⟨by omega, u - (u * a + v * b) / m * s, v - (u * a + v * b) / m * t, by
        rw [Int.toNat_of_nonneg h1, Int.sub_mul, Int.sub_mul]
        obtain ⟨q, hq⟩ : ∃ q, q = (u * a + v * b) / (m : Int) := ⟨_, rfl⟩
        rw [← hq] at h3 ⊢
        have h4 : (m : Int) * q = q * s * a + q * t * b := by rw [hm, Int.mul_comm, Int.mul_add, ← Int.mul_assoc, ← Int.mul_assoc]
        omega⟩
      omega
    · exact h.symm
  refine ⟨m, s, t, by omega, hm, ?_, ?_⟩
  · have := hz 1 0
    rwa [show (1 : Int) * a + 0 * b = a by omega] at this
  · have := hz 0 1
    rwa [show (0 : Int) * a + 1 * b = b by omega] at this
theorem exists_min0 (p : Int → Prop) {n : Int} (hn : 0 ≤ n) (h : p n) : ∃ m, 0 ≤ m ∧ m ≤ n ∧ p m ∧ ∀ k, 0 ≤ k → k < m → ¬ p k := by
  obtain ⟨m, h1, h2⟩ := exists_min (fun k : Nat => p k) (n := n.toNat) (by rwa [Int.toNat_of_nonneg hn])
  refine ⟨m, by omega, ?_, h1, fun k h0 hk hp => ?_⟩
  · have := h2 n.toNat (by rwa [Int.toNat_of_nonneg hn])
    omega
  · have := h2 k.toNat (by rwa [Int.toNat_of_nonneg h0])
    omega
/-- The basis of the turned lattice. -/
theorem turn_lat {a b c : Int} (ha : 0 < a) (hc : 0 < c) : ∃ A B C : Int, (0 < A ∧ A ≤ a * c ∧ 0 < C ∧ C ≤ a * c ∧ A * C = a * c ∧ 0 ≤ B ∧ B ≤ a * c) ∧
    Lat a b c 0 (-A) ∧ (∀ k, 0 < k → k < A → ¬ Lat a b c 0 (-k)) ∧ Lat a b c C (-B) ∧ (∀ k, 0 ≤ k → k < B → ¬ Lat a b c C (-k)) := by
  obtain ⟨g, s, t, hg0, hg, hga, hgb⟩ := bez a b ha
  obtain ⟨m, hm⟩ : ∃ m, a = g * m := ⟨a / g, (Int.mul_ediv_cancel' (Int.dvd_of_emod_eq_zero hga)).symm⟩
  obtain ⟨n, hn⟩ : ∃ n, b = g * n := ⟨b / g, (Int.mul_ediv_cancel' (Int.dvd_of_emod_eq_zero hgb)).symm⟩
  have hm0 : 0 < m := by
    rcases Int.lt_or_le 0 m with h | h
    · exact h
    · have := Int.mul_nonpos_of_nonneg_of_nonpos (show 0 ≤ g by omega) h
      omega
  have h1 : Lat a b c 0 (-(c * m)) := (lat_iff hc).2 ⟨n, -m, by
    rw [hm, hn, Int.neg_mul, ← Int.mul_assoc, ← Int.mul_assoc, Int.mul_comm n g, Int.mul_comm m g, Int.mul_assoc, Int.mul_assoc, Int.mul_comm n m]; omega, by rw [Int.neg_mul, Int.mul_comm c m]⟩
  have h2 : ∀ k, 0 < k → k < c * m → ¬ Lat a b c 0 (-k) := fun k hk0 hk hl => by
    obtain ⟨i, j, e1, e2⟩ := (lat_iff hc).1 hl
    obtain ⟨q, hq⟩ : ∃ q, j = -q := ⟨-j, by omega⟩
    subst hq
    have e3 : k = q * c := by rw [Int.neg_mul] at e2; omega
    have hq0 : 0 < q := by
      rcases Int.lt_or_le 0 q with h | h
      · exact h
      · have := Int.mul_nonpos_of_nonpos_of_nonneg h (show 0 ≤ c by omega)
        omega
    have e4 : q * b = i * a := by rw [Int.neg_mul] at e1; omega
    -- q g = q s a + t q b = a (q s + t i)
    have e5 : q * g = g * m * (q * s + t * i) := by
      rw [← hm]
      calc q * g = q * (s * a) + q * (t * b) := by rw [← Int.mul_add, ← hg]
        _ = q * s * a + t * (q * b) := by rw [← Int.mul_assoc, ← Int.mul_assoc, ← Int.mul_assoc, Int.mul_comm q t]
        _ = a * (q * s + t * i) := by rw [e4, ← Int.mul_assoc, Int.mul_comm (q * s) a, Int.mul_comm (t * i) a, Int.mul_add]
    have e6 : q = m * (q * s + t * i) := by
      have : g * q = g * (m * (q * s + t * i)) := by rw [← Int.mul_assoc, ← e5, Int.mul_comm]
      exact Int.eq_of_mul_eq_mul_left (by omega) this
    obtain ⟨z, hz⟩ : ∃ z, z = q * s + t * i := ⟨_, rfl⟩
    rw [← hz] at e6
    have hz0 : 0 < z := by
      rcases Int.lt_or_le 0 z with h | h
      · exact h
      · have := Int.mul_nonpos_of_nonneg_of_nonpos (show 0 ≤ m by omega) h
        omega
    have hmq : m * 1 ≤ m * z := Int.mul_le_mul_of_nonneg_left (by omega) (by omega)
    have : c * m ≤ c * q := Int.mul_le_mul_of_nonneg_left (by omega) (by omega)
    rw [Int.mul_comm c q] at this
    omega
  have h3 : Lat a b c g (-(((-t) % a) * c)) := (lat_iff hc).2 ⟨s - (-t) / a * b, -((-t) % a), by
    have e := Int.mul_ediv_add_emod (-t) a
    obtain ⟨q, hq⟩ : ∃ q, q = (-t) / a := ⟨_, rfl⟩
    obtain ⟨r, hr⟩ : ∃ r, r = (-t) % a := ⟨_, rfl⟩
    rw [← hq, ← hr] at e ⊢
    have e2 : t = -(a * q) - r := by omega
    rw [hg, e2, Int.sub_mul, Int.sub_mul, Int.neg_mul, Int.neg_mul]
    have e3 : a * q * b = q * b * a := by rw [Int.mul_comm a q, Int.mul_assoc, Int.mul_comm a b, ← Int.mul_assoc]
    omega, by rw [Int.neg_mul]⟩
  have hr0 := Int.emod_nonneg (-t) (show a ≠ 0 by omega)
  have hr1 := Int.emod_lt_of_pos (-t) ha
  have hB0 : 0 ≤ (-t) % a * c := Int.mul_nonneg hr0 (by omega)
  have hB1 : (-t) % a * c ≤ a * c := Int.mul_le_mul_of_nonneg_right (by omega) (by omega)
  obtain ⟨B, b1, b2, b3, b4⟩ := exists_min0 (fun k => Lat a b c g (-k)) hB0 h3
  have hA0 : 0 < c * m := Int.mul_pos hc hm0
  have hAC : c * m * g = a * c := by rw [hm, Int.mul_assoc, Int.mul_comm m g, Int.mul_comm]
  refine ⟨c * m, B, g, ⟨hA0, ?_, hg0, ?_, hAC, b1, by omega⟩, h1, h2, b3, b4⟩
  · have : c * m * 1 ≤ c * m * g := Int.mul_le_mul_of_nonneg_left (by omega) (by omega)
    omega
  · have : 1 * g ≤ c * m * g := Int.mul_le_mul_of_nonneg_right (by omega) (by omega)
    omega
/-- Turned by a quarter. -/
def turnF (F : Int → Int → Int) : Int → Int → Int := fun x y => F y (-x)
theorem per_turn {F : Int → Int → Int} {dx dy : Int} : Per (turnF F) dx dy ↔ Per F dy (-dx) := by
  constructor
  · intro h x y
    have := h (-y) x
    unfold turnF at this
    rw [show -(-y + dx) = y + -dx by omega, show - -y = y by omega] at this
    exact this
  · intro h x y
    have := h y (-x)
    unfold turnF
    rw [show -(x + dx) = -x + -dx by omega]
    exact this
theorem Base.turn {F : Int → Int → Int} {a b c A B C : Int} (h : Base F a b c) (hA : 0 < A) (hC : 0 < C) (h1 : Lat a b c 0 (-A)) (h2 : Lat a b c C (-B)) : Base (turnF F) A B C :=
  ⟨hA, hC, per_turn.2 (h.lat h1), per_turn.2 (h.lat h2)⟩
theorem Base.turn2 {F : Int → Int → Int} {a b c : Int} (h : Base F a b c) : Base (turnF F) (a * c) 0 (a * c) := by
  have h0 := Int.mul_pos h.a0 h.c0
  refine ⟨h0, h0, per_turn.2 ?_, per_turn.2 ?_⟩
  · exact h.lat ((lat_iff h.c0).2 ⟨b, -a, by rw [Int.neg_mul, Int.mul_comm a b]; omega, by rw [Int.neg_mul]⟩)
  · exact h.lat ((lat_iff h.c0).2 ⟨c, 0, by rw [Int.mul_comm]; omega, by omega⟩)
end Go.Proofs.YtlinldbbhdpgcaaGreatDoor
