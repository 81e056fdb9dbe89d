/-
  PERIODIC FUNCTIONS OF THE PLANE: PLAIN. The least basis of the periods.
-/
namespace Go.Proofs.YtgmokojdlbdjeaaGreatDoor
/-- Moving by (dx, dy) changes nothing. -/
def Per (F : Int → Int → Int) (dx dy : Int) : Prop := ∀ x y, F (x + dx) (y + dy) = F x y
section
variable {F : Int → Int → Int}
theorem Per.zero : Per F 0 0 := fun x y => by rw [Int.add_zero, Int.add_zero]
theorem Per.add {a b c d : Int} (h : Per F a b) (k : Per F c d) : Per F (a + c) (b + d) := fun x y => by
  rw [← Int.add_assoc, ← Int.add_assoc, k, h]
theorem Per.neg {a b : Int} (h : Per F a b) : Per F (-a) (-b) := fun x y => by
  have := h (x + -a) (y + -b)
  rw [show x + -a + a = x by omega, show y + -b + b = y by omega] at this
  exact this.symm
theorem Per.sub {a b c d : Int} (h : Per F a b) (k : Per F c d) : Per F (a - c) (b - d) := by
  have := h.add k.neg
  rwa [← Int.sub_eq_add_neg, ← Int.sub_eq_add_neg] at this
theorem Per.nmul {a b : Int} (h : Per F a b) : ∀ n : Nat, Per F (n * a) (n * b)
  | 0 => by simpa using Per.zero
  | n + 1 => by
    have := (h.nmul n).add h
    rw [show ((n + 1 : Nat) : Int) * a = n * a + a by rw [Int.natCast_add, Int.add_mul]; simp, show ((n + 1 : Nat) : Int) * b = n * b + b by rw [Int.natCast_add, Int.add_mul]; simp]
    exact this
theorem Per.mul {a b : Int} (h : Per F a b) (k : Int) : Per F (k * a) (k * b) := by
  rcases Int.le_total 0 k with hk | hk
  · obtain ⟨n, rfl⟩ := Int.eq_ofNat_of_zero_le hk
    exact h.nmul n
  · obtain ⟨n, hn⟩ := Int.eq_ofNat_of_zero_le (show 0 ≤ -k by omega)
    have := (h.nmul n).neg
    rw [← Int.neg_mul, ← Int.neg_mul, ← hn, Int.neg_neg] at this
    exact this
theorem Per.same {a b a' b' : Int} (h : Per F a b) (ha : a' = a) (hb : b' = b) : Per F a' b' := by rw [ha, hb]; exact h
/-- A function with the periods (a, 0) and (b, c): where a cell is at home. -/
structure Base (F : Int → Int → Int) (a b c : Int) : Prop where
  a0 : 0 < a
  c0 : 0 < c
  pa : Per F a 0
  pb : Per F b c
variable {a b c : Int}
theorem Base.home (h : Base F a b c) (x y : Int) : F x y = F ((x - y / c * b) % a) (y % c) := by
  have h1 := (h.pb.mul (y / c)).add (h.pa.mul ((x - y / c * b) / a))
  have := h1 ((x - y / c * b) % a) (y % c)
  rw [← this]
  have e1 := Int.mul_ediv_add_emod (x - y / c * b) a
  have e2 := Int.mul_ediv_add_emod y c
  have e3 : (x - y / c * b) / a * a = a * ((x - y / c * b) / a) := Int.mul_comm _ _
  have e4 : y / c * c = c * (y / c) := Int.mul_comm _ _
  congr 1
  · omega
  · rw [Int.mul_zero]; omega
/-- Moving by a vector changes nothing if it changes no cell of a repeat. -/
theorem Base.per (h : Base F a b c) {dx dy : Int} (hr : ∀ x y, 0 ≤ x → x < a → 0 ≤ y → y < c → F (x + dx) (y + dy) = F x y) : Per F dx dy := by
  intro x y
  have h1 := (h.pb.mul (y / c)).add (h.pa.mul ((x - y / c * b) / a))
  have e1 := Int.mul_ediv_add_emod (x - y / c * b) a
  have e2 := Int.mul_ediv_add_emod y c
  have e3 : (x - y / c * b) / a * a = a * ((x - y / c * b) / a) := Int.mul_comm _ _
  have e4 : y / c * c = c * (y / c) := Int.mul_comm _ _
  have k1 := h1 ((x - y / c * b) % a + dx) (y % c + dy)
  have k2 := h1 ((x - y / c * b) % a) (y % c)
  have k3 := hr ((x - y / c * b) % a) (y % c) (Int.emod_nonneg _ (by have := h.a0; omega)) (Int.emod_lt_of_pos _ h.a0) (Int.emod_nonneg _ (by have := h.c0; omega)) (Int.emod_lt_of_pos _ h.c0)
  rw [show (x - y / c * b) % a + dx + (y / c * b + (x - y / c * b) / a * a) = x + dx by omega, show y % c + dy + (y / c * c + (x - y / c * b) / a * 0) = y + dy by rw [Int.mul_zero]; omega] at k1
  rw [show (x - y / c * b) % a + (y / c * b + (x - y / c * b) / a * a) = x by omega, show y % c + (y / c * c + (x - y / c * b) / a * 0) = y by rw [Int.mul_zero]; omega] at k2
  rw [k1, k2, k3]
/-- The least basis. -/
structure Least (F : Int → Int → Int) (a b c : Int) : Prop extends Base F a b c where
  b0 : 0 ≤ b
  b1 : b < a
  la : ∀ a', 0 < a' → Per F a' 0 → a ≤ a'
  lc : ∀ b' c', 0 < c' → Per F b' c' → c ≤ c'
variable {a1 b1 c1 : Int}
theorem Least.row (h : Least F a b c) {d : Int} (hd : Per F d 0) : d % a = 0 := by
  have h1 := hd.sub (h.pa.mul (d / a))
  have e := Int.mul_ediv_add_emod d a
  have e2 : d / a * a = a * (d / a) := Int.mul_comm _ _
  rw [show d - d / a * a = d % a by omega, Int.mul_zero, Int.sub_zero] at h1
  have h2 := Int.emod_nonneg d (show a ≠ 0 by have := h.a0; omega)
  have h3 := Int.emod_lt_of_pos d h.a0
  rcases Int.lt_or_eq_of_le h2 with h4 | h4
  · have := h.la _ h4 h1; omega
  · exact h4.symm
theorem Least.col (h : Least F a b c) {d e : Int} (hd : Per F d e) : e % c = 0 := by
  have h1 := hd.sub (h.pb.mul (e / c))
  have e1 := Int.mul_ediv_add_emod e c
  have e2 : e / c * c = c * (e / c) := Int.mul_comm _ _
  rw [show e - e / c * c = e % c by omega] at h1
  have h2 := Int.emod_nonneg e (show c ≠ 0 by have := h.c0; omega)
  have h3 := Int.emod_lt_of_pos e h.c0
  rcases Int.lt_or_eq_of_le h2 with h4 | h4
  · have := h.lc _ _ h4 h1; omega
  · exact h4.symm
/-- The periods are the sums of the two. -/
theorem Least.iff (h : Least F a b c) {d e : Int} : Per F d e ↔ e % c = 0 ∧ (d - e / c * b) % a = 0 := by
  have e1 := Int.mul_ediv_add_emod e c
  have e2 : e / c * c = c * (e / c) := Int.mul_comm _ _
  constructor
  · intro hd
    have hc := h.col hd
    refine ⟨hc, h.row (d := d - e / c * b) ?_⟩
    have h1 := hd.sub (h.pb.mul (e / c))
    rwa [show e - e / c * c = 0 by omega] at h1
  · rintro ⟨hc, ha⟩
    have e3 := Int.mul_ediv_add_emod (d - e / c * b) a
    have e4 : (d - e / c * b) / a * a = a * ((d - e / c * b) / a) := Int.mul_comm _ _
    refine ((h.pb.mul (e / c)).add (h.pa.mul ((d - e / c * b) / a))).same (by omega) ?_
    rw [Int.mul_zero]; omega
theorem Least.uniq (h : Least F a b c) (k : Least F a1 b1 c1) : a = a1 ∧ b = b1 ∧ c = c1 := by
  have e1 : a = a1 := Int.le_antisymm (h.la _ k.a0 k.pa) (k.la _ h.a0 h.pa)
  have e2 : c = c1 := Int.le_antisymm (h.lc _ _ k.c0 k.pb) (k.lc _ _ h.c0 h.pb)
  subst e1; subst e2
  have h1 := h.pb.sub k.pb
  rw [Int.sub_self] at h1
  have h2 := h.row h1
  have := h.b0; have := h.b1; have := k.b0; have := k.b1; have := h.a0
  refine ⟨rfl, ?_, rfl⟩
  rcases Int.lt_trichotomy b b1 with h3 | h3 | h3
  · have e : (b - b1) % a = b - b1 + a := by
      rw [← Int.add_emod_right]; exact Int.emod_eq_of_lt (by omega) (by omega)
    omega
  · exact h3
  · have e : (b - b1) % a = b - b1 := Int.emod_eq_of_lt (by omega) (by omega)
    omega
theorem Least.le (h : Least F a1 b1 c1) (k : Base F a b c) : a1 ≤ a ∧ c1 ≤ c ∧ a % a1 = 0 ∧ c % c1 = 0 := ⟨h.la _ k.a0 k.pa, h.lc _ _ k.c0 k.pb, h.row k.pa, h.col k.pb⟩
theorem Least.cells (h : Least F a1 b1 c1) (k : Base F a b c) : a1 * c1 ≤ a * c := by
  obtain ⟨h1, h2, -⟩ := h.le k
  exact Int.mul_le_mul h1 h2 (by have := h.c0; omega) (by have := k.a0; omega)
theorem exists_min (p : Nat → Prop) {n : Nat} (h : p n) : ∃ m, p m ∧ ∀ k, p k → m ≤ k := by
  induction n using Nat.strongRecOn with
  | _ n ih =>
    by_cases hn : ∃ k, k < n ∧ p k
    · obtain ⟨k, hk, hp⟩ := hn
      exact ih k hk hp
    · exact ⟨n, h, fun k hk => by
        rcases Nat.lt_or_ge k n with h1 | h1
        · exact absurd ⟨k, h1, hk⟩ hn
        · exact h1⟩
theorem Base.least (h : Base F a b c) : ∃ a1 b1 c1, Least F a1 b1 c1 := by
  obtain ⟨m, ⟨hm1, hm2⟩, hm3⟩ := exists_min (fun n : Nat => 0 < n ∧ Per F n 0) (n := a.toNat) ⟨by have := h.a0; omega, h.pa.same (by have := h.a0; omega) rfl⟩
  obtain ⟨q, ⟨hq1, b', hq2⟩, hq3⟩ := exists_min (fun n : Nat => 0 < n ∧ ∃ b', Per F b' n) (n := c.toNat) ⟨by have := h.c0; omega, b, h.pb.same rfl (by have := h.c0; omega)⟩
  have hm0 : (0 : Int) < m := by omega
  refine ⟨m, b' % m, q, ⟨⟨hm0, by omega, hm2, ?_⟩, Int.emod_nonneg _ (by omega), Int.emod_lt_of_pos _ hm0, ?_, ?_⟩⟩
  · have e := Int.mul_ediv_add_emod b' m
    have e2 : b' / m * m = m * (b' / m) := Int.mul_comm _ _
    exact (hq2.sub (hm2.mul (b' / m))).same (by omega) (by rw [Int.mul_zero]; omega)
  · intro a' h0 h1
    have := hm3 a'.toNat ⟨by omega, h1.same (by omega) rfl⟩
    omega
  · intro b'' c' h0 h1
    have := hq3 c'.toNat ⟨by omega, b'', h1.same rfl (by omega)⟩
    omega
end
end Go.Proofs.YtgmokojdlbdjeaaGreatDoor
