/-
  SAMENESS, HOMES, DRUMS, LYING OVER: PLAIN.
-/
import Derived.Test.YtlinldbbhdpgcaaGreatDoorPatU
import Derived.Test.YtlinldbbhdpgcaaGreatDoorComM
namespace Go.Proofs.YtlinldbbhdpgcaaGreatDoor
/-- One over another one. -/
def overF (F G : Int → Int → Int) : Int → Int → Int := fun x y => if F x y ≠ 0 then F x y else G x y
theorem Base.over {F G : Int → Int → Int} {a b c : Int} (h : Base F a b c) (k : Base G a b c) : Base (overF F G) a b c :=
  ⟨h.a0, h.c0, fun x y => by unfold overF; rw [h.pa, k.pa], fun x y => by unfold overF; rw [h.pb, k.pb]⟩
/-- Least patterns are the same exactly if the functions are. -/
theorem lst_inj {F G : Int → Int → Int} {a b c a1 b1 c1 : Int} (h : Base F a b c) (k : Base G a1 b1 c1) : lst F = lst G ↔ F = G :=
  ⟨fun e => by rw [← h.lst_col, e, k.lst_col], fun e => by rw [e]⟩
theorem shift_same {F : Int → Int → Int} {dx dy : Int} : F = shiftF F dx dy ↔ Per F dx dy := by
  constructor
  · intro h x y
    have := congrFun (congrFun h (x + dx)) (y + dy)
    rw [this]
    show F (x + dx - dx) (y + dy - dy) = F x y
    rw [Int.add_sub_cancel, Int.add_sub_cancel]
  · intro h
    funext x y
    have := h (x - dx) (y - dy)
    rw [Int.sub_add_cancel, Int.sub_add_cancel] at this
    exact this
/-- Two functions with the same periods are the same if they are so in a repeat. -/
theorem Base.ext {F G : Int → Int → Int} {a b c : Int} (h : Base F a b c) (k : Base G a b c) (e : ∀ x y, 0 ≤ x → x < a → 0 ≤ y → y < c → F x y = G x y) : F = G := by
  funext x y
  obtain ⟨g1, g2, g3, g4⟩ := home_bd (b := b) (x := x) (y := y) h.a0 h.c0
  rw [h.home, k.home]
  exact e _ _ g1 g2 g3 g4
/-- Where a cell is at home, by the periods. -/
theorem lat_home {a b c x y i j : Int} (_ha : 0 < a) (hc : 0 < c) (i0 : 0 ≤ i) (i1 : i < a) (j0 : 0 ≤ j) (j1 : j < c) : Lat a b c (x - i) (y - j) ↔ j = y % c ∧ i = homeX a b c x y := by
  unfold Lat homeX
  have ey := Int.mul_ediv_add_emod y c
  have m0 := Int.emod_nonneg y (show c ≠ 0 by omega)
  have m1 := Int.emod_lt_of_pos y hc
  constructor
  · rintro ⟨h1, h2⟩
    have hj : j = y % c := by
      obtain ⟨q, hq⟩ := Int.dvd_of_emod_eq_zero h1
      have e1 : y = j + c * q := by omega
      rw [e1, Int.add_mul_emod_self_left]
      exact (Int.emod_eq_of_lt j0 j1).symm
    refine ⟨hj, ?_⟩
    have hq : (y - j) / c = y / c := by
      rw [hj]
      have : y - y % c = c * (y / c) := by omega
      rw [this]; exact Int.mul_ediv_cancel_left _ (by omega)
    rw [hq] at h2
    obtain ⟨q, hq2⟩ := Int.dvd_of_emod_eq_zero h2
    have e1 : x - y / c * b = i + a * q := by omega
    rw [e1, Int.add_mul_emod_self_left]
    exact (Int.emod_eq_of_lt i0 i1).symm
  · rintro ⟨hj, hi⟩
    have e0 : y - j = c * (y / c) := by omega
    have hq : (y - j) / c = y / c := by rw [e0]; exact Int.mul_ediv_cancel_left _ (by omega)
    refine ⟨by rw [e0]; exact Int.mul_emod_right _ _, ?_⟩
    rw [hq]
    have e1 := Int.mul_ediv_add_emod (x - y / c * b) a
    apply Int.emod_eq_zero_of_dvd
    exact ⟨(x - y / c * b) / a, by omega⟩
theorem home_zero {a b c x y : Int} : (homeX a b c x y = 0 ∧ y % c = 0) ↔ Lat a b c x y := ⟨fun h => ⟨h.2, h.1⟩, fun h => ⟨h.2, h.1⟩⟩
/-- The smallest period along y. -/
def drumY (a b c : Int) : Int := c * a / (Int.gcd a b : Int)
theorem drum_spec {a b c : Int} (ha : 0 < a) (hc : 0 < c) : 0 < drumY a b c ∧ drumY a b c ≤ c * a ∧ Lat a b c 0 (drumY a b c) ∧ ∀ k, 0 < k → k < drumY a b c → ¬ Lat a b c 0 k := by
  obtain ⟨s, t, hg⟩ := gcd_bez (b := b) ha
  obtain ⟨m, hm⟩ : (Int.gcd a b : Int) ∣ a := Int.gcd_dvd_left ..
  obtain ⟨n, hn⟩ : (Int.gcd a b : Int) ∣ b := Int.gcd_dvd_right ..
  have hg0 : 0 < (Int.gcd a b : Int) := by
    have : Int.gcd a b ≠ 0 := fun h => by have := (Int.gcd_eq_zero_iff.1 h).1; omega
    omega
  have hd : drumY a b c = c * m := by
    unfold drumY
    obtain ⟨g, hgg⟩ : ∃ g, g = (Int.gcd a b : Int) := ⟨_, rfl⟩
    rw [← hgg] at hm hg0 ⊢
    rw [hm, Int.mul_left_comm]; exact Int.mul_ediv_cancel_left _ (by omega)
  rw [hd]
  obtain ⟨g, hgg⟩ : ∃ g, g = (Int.gcd a b : Int) := ⟨_, rfl⟩
  rw [← hgg] at hg hm hn hg0
  clear hgg hd
  have hm0 : 0 < m := by
    rcases Int.lt_or_le 0 m with h | h
    · exact h
    · have := Int.mul_nonpos_of_nonneg_of_nonpos (show 0 ≤ g by omega) h
      omega
  have g2 : 1 * m ≤ g * m := Int.mul_le_mul_of_nonneg_right (by omega) (by omega)
  refine ⟨Int.mul_pos hc hm0, Int.mul_le_mul_of_nonneg_left (by omega) (by omega), ?_, ?_⟩
  · refine (lat_iff hc).2 ⟨-n, m, ?_, Int.mul_comm _ _⟩
    rw [hn, hm, Int.neg_mul]
    have : n * (g * m) = m * (g * n) := by ac_rfl
    omega
  · intro k hk0 hk hl
    obtain ⟨i, j, e1, e2⟩ := (lat_iff hc).1 hl
    -- a ∣ j b, so m ∣ j
    have hj0 : 0 < j := by
      rcases Int.lt_or_le 0 j with h | h
      · exact h
      · have := Int.mul_nonpos_of_nonpos_of_nonneg h (show 0 ≤ c by omega)
        omega
    have e5 : g * j = g * (m * (s * j - t * i)) := by
      have f1 : g * j = s * a * j + t * b * j := by rw [← Int.add_mul, ← hg]
      have f2 : t * b * j = - (t * (i * a)) := by
        have : j * b = -(i * a) := by omega
        rw [show t * b * j = t * (j * b) by ac_rfl, this, Int.mul_neg]
      have f3 : s * a * j = g * (m * (s * j)) := by rw [hm]; ac_rfl
      have f4 : t * (i * a) = g * (m * (t * i)) := by rw [hm]; ac_rfl
      rw [f1, f2, f3, f4, Int.mul_sub, Int.mul_sub]
      omega
    have e6 : j = m * (s * j - t * i) := Int.eq_of_mul_eq_mul_left (by omega) e5
    obtain ⟨z, hz⟩ : ∃ z, z = s * j - t * i := ⟨_, rfl⟩
    rw [← hz] at e6
    have hz0 : 0 < z := by
      rcases Int.lt_or_le 0 z with h | h
      · exact h
      · have := Int.mul_nonpos_of_nonneg_of_nonpos (show 0 ≤ m by omega) h
        omega
    have hmq : m * 1 ≤ m * z := Int.mul_le_mul_of_nonneg_left (by omega) (by omega)
    have : c * m ≤ c * j := Int.mul_le_mul_of_nonneg_left (by omega) (by omega)
    rw [Int.mul_comm c j] at this
    omega
theorem lat_row {a b c k : Int} : Lat a b c k 0 ↔ k % a = 0 := by
  unfold Lat
  rw [Int.zero_emod, Int.zero_ediv, Int.zero_mul, Int.sub_zero]
  simp
/-- The drums of a function, whichever way it lies. -/
theorem Least.drum_turn {F : Int → Int → Int} {a b c a' b' c' : Int} (h : Least F a b c) (k : Least (turnF F) a' b' c') : drumY a b c = a' ∧ drumY a' b' c' = a := by
  obtain ⟨d1, d2, d3, d4⟩ := drum_spec (b := b) h.a0 h.c0
  obtain ⟨d5, d6, d7, d8⟩ := drum_spec (b := b') k.a0 k.c0
  have hneg : ∀ {G : Int → Int → Int} {u v : Int}, Per G u v → Per G (-u) (-v) := fun h => h.neg
  have p1 : ∀ t, Per (turnF F) t 0 ↔ Per F 0 t := fun t => by
    rw [per_turn]
    exact ⟨fun h => by have := hneg h; rwa [Int.neg_zero, Int.neg_neg] at this, fun h => by have := hneg h; rwa [Int.neg_zero] at this⟩
  have p2 : ∀ t, Per (turnF F) 0 t ↔ Per F t 0 := fun t => by rw [per_turn, Int.neg_zero]
  constructor
  · apply Int.le_antisymm
    · rcases Int.lt_or_le a' (drumY a b c) with hh | hh
      · exact absurd (h.lat.1 ((p1 a').1 k.pa)) (d4 _ k.a0 hh)
      · exact hh
    · exact k.la _ d1 ((p1 _).2 (h.lat.2 d3))
  · apply Int.le_antisymm
    · rcases Int.lt_or_le a (drumY a' b' c') with hh | hh
      · exact absurd (k.lat.1 ((p2 a).2 h.pa)) (d8 _ h.a0 hh)
      · exact hh
    · exact h.la _ d5 ((p2 _).1 (k.lat.2 d7))
end Go.Proofs.YtlinldbbhdpgcaaGreatDoor
