/-
  THE WALK OF THE LAW NumCompares: it returns true.
-/
import Derived.Test.YtclbjgelefbmlaaDoorNumD
import Derived.Test.YtclbjgelefbmlaaDoorNumG
import Derived.Test.YtclbjgelefbmlaaDoorNumN
import Derived.Test.YtclbjgelefbmlaaDoorKnown
import Derived.Test.YtclbjgelefbmlaaDoorReg
namespace Go.Proofs.YtclbjgelefbmlaaDoor
open Go.RowKit
attribute [local go_sem] grow_cell grow_frozen

theorem cmpI_neg (x y : Int) : cmpI y x = -cmpI x y := by
  unfold cmpI
  split <;> split <;> (try split) <;> omega
theorem cmpI_bd (x y : Int) : -1 ≤ cmpI x y ∧ cmpI x y ≤ 1 := by
  unfold cmpI
  split
  · omega
  · split <;> omega
theorem cmpI_le {x y : Int} : cmpI x y ≤ 0 ↔ x ≤ y := by
  unfold cmpI
  split
  · omega
  · split <;> omega
theorem cmpM_bd {a1 a2 b1 b2 x e : Int} (h : cmpM a1 a2 b1 b2 = (x, e)) : (-1 ≤ x ∧ x ≤ 1) ∧ (e = 0 → vld a1 a2 = true ∧ vld b1 b2 = true ∧ x = cmpI (a1 * b2) (b1 * a2)) := by
  unfold cmpM at h
  split at h
  · rename_i hv
    simp only [Prod.mk.injEq] at h
    obtain ⟨rfl, rfl⟩ := h
    exact ⟨cmpI_bd _ _, fun _ => ⟨hv.1, hv.2, rfl⟩⟩
  · simp only [Prod.mk.injEq] at h
    obtain ⟨rfl, rfl⟩ := h
    exact ⟨by omega, by omega⟩
theorem cmpM_neg (a1 a2 b1 b2 x : Int) (h : cmpM a1 a2 b1 b2 = (x, 0)) : cmpM b1 b2 a1 a2 = (-x, 0) := by
  obtain ⟨va, vb, rfl⟩ := (cmpM_bd h).2 rfl
  rw [cmpM_cases _ _ _ _ vb va, cmpI_neg (a1 * b2) (b1 * a2)]
theorem cmp_trans {a1 a2 b1 b2 c1 c2 x u v : Int} (h1 : cmpM a1 a2 b1 b2 = (x, 0)) (h2 : cmpM b1 b2 c1 c2 = (u, 0)) (h3 : cmpM a1 a2 c1 c2 = (v, 0)) (hx : x ≤ 0) (hu : u ≤ 0) : v ≤ 0 := by
  obtain ⟨va, vb, rfl⟩ := (cmpM_bd h1).2 rfl
  obtain ⟨_, vc, rfl⟩ := (cmpM_bd h2).2 rfl
  obtain ⟨_, _, rfl⟩ := (cmpM_bd h3).2 rfl
  rw [cmpI_le] at *
  have pa := (vld_bd va).1
  have pb := (vld_bd vb).1
  have pc := (vld_bd vc).1
  have k1 : a1 * b2 * c2 ≤ b1 * a2 * c2 := Int.mul_le_mul_of_nonneg_right hx (by omega)
  have k2 : b1 * c2 * a2 ≤ c1 * b2 * a2 := Int.mul_le_mul_of_nonneg_right hu (by omega)
  have k3 : a1 * c2 * b2 ≤ c1 * a2 * b2 := by
    have e1 : a1 * c2 * b2 = a1 * b2 * c2 := by grind
    have e2 : b1 * a2 * c2 = b1 * c2 * a2 := by grind
    have e3 : c1 * a2 * b2 = c1 * b2 * a2 := by grind
    omega
  exact Int.le_of_mul_le_mul_right k3 (by omega)
theorem sub_sign {a1 a2 b1 b2 x p q : Int} (h1 : cmpM a1 a2 b1 b2 = (x, 0)) (h2 : subM a1 a2 b1 b2 = (p, q, 0)) : decide (0 < p) = decide (0 < x) ∧ decide (p < 0) = decide (x < 0) := by
  obtain ⟨va, vb, rfl⟩ := (cmpM_bd h1).2 rfl
  unfold subM at h2
  rw [if_pos ⟨va, vb⟩] at h2
  obtain ⟨_, vp, e⟩ := mk_ok h2
  have pa := (vld_bd va).1
  have pb := (vld_bd vb).1
  have pq := (vld_bd vp).1
  have hab : 0 < a2 * b2 := Int.mul_pos (by omega) (by omega)
  have s1 : (0 < p ↔ 0 < a1 * b2 - b1 * a2) := by
    constructor
    · intro h
      have := Int.mul_pos h hab
      rw [e] at this
      exact Int.pos_of_mul_pos_left this (by omega)
    · intro h
      have := Int.mul_pos h (show 0 < q by omega)
      rw [← e] at this
      exact Int.pos_of_mul_pos_left this (by omega)
  have s2 : (p < 0 ↔ a1 * b2 - b1 * a2 < 0) := by
    constructor
    · intro h
      have := Int.mul_neg_of_neg_of_pos h hab
      rw [e] at this
      exact Int.neg_of_mul_neg_left this (by omega)
    · intro h
      have := Int.mul_neg_of_neg_of_pos h (show 0 < q by omega)
      rw [← e] at this
      exact Int.neg_of_mul_neg_left this (by omega)
  have c1 : 0 < cmpI (a1 * b2) (b1 * a2) ↔ b1 * a2 < a1 * b2 := by
    unfold cmpI; split
    · omega
    · split <;> omega
  have c2 : cmpI (a1 * b2) (b1 * a2) < 0 ↔ a1 * b2 < b1 * a2 := by
    unfold cmpI; split
    · omega
    · split <;> omega
  exact ⟨decide_eq_decide.2 (by rw [s1, c1]; omega), decide_eq_decide.2 (by rw [s2, c2]; omega)⟩

set_option maxRecDepth 100000 in
set_option maxHeartbeats 16000000 in
theorem numCompares_walk (a1 a2 b1 b2 c1 c2 : Int) (ha1 : -9223372036854775808 ≤ a1) (ka1 : a1 ≤ 9223372036854775807) (ha2 : -9223372036854775808 ≤ a2) (ka2 : a2 ≤ 9223372036854775807) (hb1 : -9223372036854775808 ≤ b1) (kb1 : b1 ≤ 9223372036854775807) (hb2 : -9223372036854775808 ≤ b2) (kb2 : b2 ≤ 9223372036854775807) (hc1 : -9223372036854775808 ≤ c1) (kc1 : c1 ≤ 9223372036854775807) (hc2 : -9223372036854775808 ≤ c2) (kc2 : c2 ≤ 9223372036854775807) (w : World) :
    Calls Tryd.prog 10 #[.agg #[.int .i64 a1, .int .i64 a2], .agg #[.int .i64 b1, .int .i64 b2], .agg #[.int .i64 c1, .int .i64 c2]] w fun e w' => e = .returned (.bool true) ∧ Below w.heap.size w w' := by
  obtain ⟨x, e, hx⟩ : ∃ p q, cmpM a1 a2 b1 b2 = (p, q) := ⟨_, _, rfl⟩
  obtain ⟨y, j, hy⟩ : ∃ p q, cmpM b1 b2 a1 a2 = (p, q) := ⟨_, _, rfl⟩
  obtain ⟨u, g, hu⟩ : ∃ p q, cmpM b1 b2 c1 c2 = (p, q) := ⟨_, _, rfl⟩
  obtain ⟨v, h, hv⟩ : ∃ p q, cmpM a1 a2 c1 c2 = (p, q) := ⟨_, _, rfl⟩
  obtain ⟨p, q, i, hp⟩ : ∃ p q z, subM a1 a2 b1 b2 = (p, q, z) := ⟨_, _, _, rfl⟩
  have bx := (cmpM_bd hx).1
  have bu := (cmpM_bd hu).1
  have bv := (cmpM_bd hv).1
  have hyx : e = 0 → (-x, 0) = (y, j) := by
    rintro rfl
    rw [← hy, cmpM_neg _ _ _ _ _ hx]
  have htr : e = 0 → g = 0 → h = 0 → x ≤ 0 → u ≤ 0 → v ≤ 0 := by
    rintro rfl rfl rfl
    exact cmp_trans hx hu hv
  have hsg : e = 0 → i = 0 → decide (0 < p) = decide (0 < x) ∧ decide (p < 0) = decide (x < 0) := by
    rintro rfl rfl
    exact sub_sign hx hp
  have HX := Lib.hid hx
  have HY := Lib.hid hy
  have HU := Lib.hid hu
  have HV := Lib.hid hv
  have HP := Lib.hid hp
  clear hx hy hu hv hp
  by_cases ne : e = 0
  · subst ne
    have hh := hyx rfl
    simp only [Prod.mk.injEq] at hh
    obtain ⟨rfl, rfl⟩ := hh
    clear hyx
    by_cases ng : g = 0
    · subst ng
      by_cases nh : h = 0
      · subst nh
        have hvv := htr rfl rfl rfl
        by_cases ni : i = 0
        · subst ni
          obtain ⟨g1, g2⟩ := hsg rfl rfl
          clear htr hsg
          by_cases x0 : 0 < x
          · have x0' : decide (0 < x) = true := decide_eq_true x0
            go_enter Tryd.func10, Tryd.ntmps10
            go_wp2_with fail
            refine (ncompare_any a1 a2 b1 b2 x _ HX.out (by omega) (by omega) (by omega) (by omega) (by omega) (by omega) (by omega) (by omega) _).mono ?_
            rintro e1 w1 ⟨rfl, hb1⟩
            (have x1x0 : Box2 w1 (w.heap.size) (.int .i64 a1) (.int .i64 a2) := Box2.keep (by assumption) (by repeat' (first | (with_reducible assumption) | (with_reducible refine Box2.drewN ?_ _) | (with_reducible refine Box2.drew ?_) | (with_reducible exact Box2.new _ _ _ _) | (with_reducible exact Box2.new1 _ _ _ _ _) | (with_reducible exact Box2.new2 _ _ _ _ _ _) | (with_reducible refine Box2.alloc ?_ _))); obtain ⟨c0x1x0, c1x1x0, f0x1x0, f1x1x0, zx1x0⟩ := id x1x0)
            (have x1x1 : Box2 w1 (w.heap.size + 1) (.int .i64 b1) (.int .i64 b2) := Box2.keep (by assumption) (by repeat' (first | (with_reducible assumption) | (with_reducible refine Box2.drewN ?_ _) | (with_reducible refine Box2.drew ?_) | (with_reducible exact Box2.new _ _ _ _) | (with_reducible exact Box2.new1 _ _ _ _ _) | (with_reducible exact Box2.new2 _ _ _ _ _ _) | (with_reducible refine Box2.alloc ?_ _))); obtain ⟨c0x1x1, c1x1x1, f0x1x1, f1x1x1, zx1x1⟩ := id x1x1)
            (have x1x2 : Box2 w1 (w.heap.size + 1 + 1) (.int .i64 c1) (.int .i64 c2) := Box2.keep (by assumption) (by repeat' (first | (with_reducible assumption) | (with_reducible refine Box2.drewN ?_ _) | (with_reducible refine Box2.drew ?_) | (with_reducible exact Box2.new _ _ _ _) | (with_reducible exact Box2.new1 _ _ _ _ _) | (with_reducible exact Box2.new2 _ _ _ _ _ _) | (with_reducible refine Box2.alloc ?_ _))); obtain ⟨c0x1x2, c1x1x2, f0x1x2, f1x1x2, zx1x2⟩ := id x1x2)
            go_wp2_with fail
            refine (rcompare_any a1 a2 b1 b2 x _ HX.out (by omega) (by omega) (by omega) (by omega) (by omega) (by omega) (by omega) (by omega) _).mono ?_
            rintro e1 w2 ⟨rfl, hb2⟩
            (have x2x0 : Box2 w2 (w.heap.size) (.int .i64 a1) (.int .i64 a2) := Box2.keep (by assumption) (by repeat' (first | (with_reducible assumption) | (with_reducible refine Box2.drewN ?_ _) | (with_reducible refine Box2.drew ?_) | (with_reducible exact Box2.new _ _ _ _) | (with_reducible exact Box2.new1 _ _ _ _ _) | (with_reducible exact Box2.new2 _ _ _ _ _ _) | (with_reducible refine Box2.alloc ?_ _))); obtain ⟨c0x2x0, c1x2x0, f0x2x0, f1x2x0, zx2x0⟩ := id x2x0)
            (have x2x1 : Box2 w2 (w.heap.size + 1) (.int .i64 b1) (.int .i64 b2) := Box2.keep (by assumption) (by repeat' (first | (with_reducible assumption) | (with_reducible refine Box2.drewN ?_ _) | (with_reducible refine Box2.drew ?_) | (with_reducible exact Box2.new _ _ _ _) | (with_reducible exact Box2.new1 _ _ _ _ _) | (with_reducible exact Box2.new2 _ _ _ _ _ _) | (with_reducible refine Box2.alloc ?_ _))); obtain ⟨c0x2x1, c1x2x1, f0x2x1, f1x2x1, zx2x1⟩ := id x2x1)
            (have x2x2 : Box2 w2 (w.heap.size + 1 + 1) (.int .i64 c1) (.int .i64 c2) := Box2.keep (by assumption) (by repeat' (first | (with_reducible assumption) | (with_reducible refine Box2.drewN ?_ _) | (with_reducible refine Box2.drew ?_) | (with_reducible exact Box2.new _ _ _ _) | (with_reducible exact Box2.new1 _ _ _ _ _) | (with_reducible exact Box2.new2 _ _ _ _ _ _) | (with_reducible refine Box2.alloc ?_ _))); obtain ⟨c0x2x2, c1x2x2, f0x2x2, f1x2x2, zx2x2⟩ := id x2x2)
            clear x1x0 c0x1x0 c1x1x0 f0x1x0 f1x1x0 x1x1 c0x1x1 c1x1x1 f0x1x1 f1x1x1 x1x2 c0x1x2 c1x1x2 f0x1x2 f1x1x2
            go_wp2_with fail
            refine (ncompare_any b1 b2 a1 a2 (-x) 0 HY.out (by omega) (by omega) (by omega) (by omega) (by omega) (by omega) (by omega) (by omega) _).mono ?_
            rintro e1 w3 ⟨rfl, hb3⟩
            (have x3x0 : Box2 w3 (w.heap.size) (.int .i64 a1) (.int .i64 a2) := Box2.keep (by assumption) (by repeat' (first | (with_reducible assumption) | (with_reducible refine Box2.drewN ?_ _) | (with_reducible refine Box2.drew ?_) | (with_reducible exact Box2.new _ _ _ _) | (with_reducible exact Box2.new1 _ _ _ _ _) | (with_reducible exact Box2.new2 _ _ _ _ _ _) | (with_reducible refine Box2.alloc ?_ _))); obtain ⟨c0x3x0, c1x3x0, f0x3x0, f1x3x0, zx3x0⟩ := id x3x0)
            (have x3x1 : Box2 w3 (w.heap.size + 1) (.int .i64 b1) (.int .i64 b2) := Box2.keep (by assumption) (by repeat' (first | (with_reducible assumption) | (with_reducible refine Box2.drewN ?_ _) | (with_reducible refine Box2.drew ?_) | (with_reducible exact Box2.new _ _ _ _) | (with_reducible exact Box2.new1 _ _ _ _ _) | (with_reducible exact Box2.new2 _ _ _ _ _ _) | (with_reducible refine Box2.alloc ?_ _))); obtain ⟨c0x3x1, c1x3x1, f0x3x1, f1x3x1, zx3x1⟩ := id x3x1)
            (have x3x2 : Box2 w3 (w.heap.size + 1 + 1) (.int .i64 c1) (.int .i64 c2) := Box2.keep (by assumption) (by repeat' (first | (with_reducible assumption) | (with_reducible refine Box2.drewN ?_ _) | (with_reducible refine Box2.drew ?_) | (with_reducible exact Box2.new _ _ _ _) | (with_reducible exact Box2.new1 _ _ _ _ _) | (with_reducible exact Box2.new2 _ _ _ _ _ _) | (with_reducible refine Box2.alloc ?_ _))); obtain ⟨c0x3x2, c1x3x2, f0x3x2, f1x3x2, zx3x2⟩ := id x3x2)
            clear x2x0 c0x2x0 c1x2x0 f0x2x0 f1x2x0 x2x1 c0x2x1 c1x2x1 f0x2x1 f1x2x1 x2x2 c0x2x2 c1x2x2 f0x2x2 f1x2x2
            go_wp2_with fail
            refine (ncompare_any b1 b2 c1 c2 u _ HU.out (by omega) (by omega) (by omega) (by omega) (by omega) (by omega) (by omega) (by omega) _).mono ?_
            rintro e1 w4 ⟨rfl, hb4⟩
            (have x4x0 : Box2 w4 (w.heap.size) (.int .i64 a1) (.int .i64 a2) := Box2.keep (by assumption) (by repeat' (first | (with_reducible assumption) | (with_reducible refine Box2.drewN ?_ _) | (with_reducible refine Box2.drew ?_) | (with_reducible exact Box2.new _ _ _ _) | (with_reducible exact Box2.new1 _ _ _ _ _) | (with_reducible exact Box2.new2 _ _ _ _ _ _) | (with_reducible refine Box2.alloc ?_ _))); obtain ⟨c0x4x0, c1x4x0, f0x4x0, f1x4x0, zx4x0⟩ := id x4x0)
            (have x4x1 : Box2 w4 (w.heap.size + 1) (.int .i64 b1) (.int .i64 b2) := Box2.keep (by assumption) (by repeat' (first | (with_reducible assumption) | (with_reducible refine Box2.drewN ?_ _) | (with_reducible refine Box2.drew ?_) | (with_reducible exact Box2.new _ _ _ _) | (with_reducible exact Box2.new1 _ _ _ _ _) | (with_reducible exact Box2.new2 _ _ _ _ _ _) | (with_reducible refine Box2.alloc ?_ _))); obtain ⟨c0x4x1, c1x4x1, f0x4x1, f1x4x1, zx4x1⟩ := id x4x1)
            (have x4x2 : Box2 w4 (w.heap.size + 1 + 1) (.int .i64 c1) (.int .i64 c2) := Box2.keep (by assumption) (by repeat' (first | (with_reducible assumption) | (with_reducible refine Box2.drewN ?_ _) | (with_reducible refine Box2.drew ?_) | (with_reducible exact Box2.new _ _ _ _) | (with_reducible exact Box2.new1 _ _ _ _ _) | (with_reducible exact Box2.new2 _ _ _ _ _ _) | (with_reducible refine Box2.alloc ?_ _))); obtain ⟨c0x4x2, c1x4x2, f0x4x2, f1x4x2, zx4x2⟩ := id x4x2)
            clear x3x0 c0x3x0 c1x3x0 f0x3x0 f1x3x0 x3x1 c0x3x1 c1x3x1 f0x3x1 f1x3x1 x3x2 c0x3x2 c1x3x2 f0x3x2 f1x3x2
            go_wp2_with fail
            refine (ncompare_any a1 a2 c1 c2 v _ HV.out (by omega) (by omega) (by omega) (by omega) (by omega) (by omega) (by omega) (by omega) _).mono ?_
            rintro e1 w5 ⟨rfl, hb5⟩
            (have x5x0 : Box2 w5 (w.heap.size) (.int .i64 a1) (.int .i64 a2) := Box2.keep (by assumption) (by repeat' (first | (with_reducible assumption) | (with_reducible refine Box2.drewN ?_ _) | (with_reducible refine Box2.drew ?_) | (with_reducible exact Box2.new _ _ _ _) | (with_reducible exact Box2.new1 _ _ _ _ _) | (with_reducible exact Box2.new2 _ _ _ _ _ _) | (with_reducible refine Box2.alloc ?_ _))); obtain ⟨c0x5x0, c1x5x0, f0x5x0, f1x5x0, zx5x0⟩ := id x5x0)
            (have x5x1 : Box2 w5 (w.heap.size + 1) (.int .i64 b1) (.int .i64 b2) := Box2.keep (by assumption) (by repeat' (first | (with_reducible assumption) | (with_reducible refine Box2.drewN ?_ _) | (with_reducible refine Box2.drew ?_) | (with_reducible exact Box2.new _ _ _ _) | (with_reducible exact Box2.new1 _ _ _ _ _) | (with_reducible exact Box2.new2 _ _ _ _ _ _) | (with_reducible refine Box2.alloc ?_ _))); obtain ⟨c0x5x1, c1x5x1, f0x5x1, f1x5x1, zx5x1⟩ := id x5x1)
            (have x5x2 : Box2 w5 (w.heap.size + 1 + 1) (.int .i64 c1) (.int .i64 c2) := Box2.keep (by assumption) (by repeat' (first | (with_reducible assumption) | (with_reducible refine Box2.drewN ?_ _) | (with_reducible refine Box2.drew ?_) | (with_reducible exact Box2.new _ _ _ _) | (with_reducible exact Box2.new1 _ _ _ _ _) | (with_reducible exact Box2.new2 _ _ _ _ _ _) | (with_reducible refine Box2.alloc ?_ _))); obtain ⟨c0x5x2, c1x5x2, f0x5x2, f1x5x2, zx5x2⟩ := id x5x2)
            clear x4x0 c0x4x0 c1x4x0 f0x4x0 f1x4x0 x4x1 c0x4x1 c1x4x1 f0x4x1 f1x4x1 x4x2 c0x4x2 c1x4x2 f0x4x2 f1x4x2
            go_wp2_with fail
            refine (sub_any a1 a2 b1 b2 p q _ HP.out (by omega) (by omega) (by omega) (by omega) (by omega) (by omega) (by omega) (by omega) _).mono ?_
            rintro e1 w6 ⟨rfl, hb6⟩
            (have x6x0 : Box2 w6 (w.heap.size) (.int .i64 a1) (.int .i64 a2) := Box2.keep (by assumption) (by repeat' (first | (with_reducible assumption) | (with_reducible refine Box2.drewN ?_ _) | (with_reducible refine Box2.drew ?_) | (with_reducible exact Box2.new _ _ _ _) | (with_reducible exact Box2.new1 _ _ _ _ _) | (with_reducible exact Box2.new2 _ _ _ _ _ _) | (with_reducible refine Box2.alloc ?_ _))); obtain ⟨c0x6x0, c1x6x0, f0x6x0, f1x6x0, zx6x0⟩ := id x6x0)
            (have x6x1 : Box2 w6 (w.heap.size + 1) (.int .i64 b1) (.int .i64 b2) := Box2.keep (by assumption) (by repeat' (first | (with_reducible assumption) | (with_reducible refine Box2.drewN ?_ _) | (with_reducible refine Box2.drew ?_) | (with_reducible exact Box2.new _ _ _ _) | (with_reducible exact Box2.new1 _ _ _ _ _) | (with_reducible exact Box2.new2 _ _ _ _ _ _) | (with_reducible refine Box2.alloc ?_ _))); obtain ⟨c0x6x1, c1x6x1, f0x6x1, f1x6x1, zx6x1⟩ := id x6x1)
            (have x6x2 : Box2 w6 (w.heap.size + 1 + 1) (.int .i64 c1) (.int .i64 c2) := Box2.keep (by assumption) (by repeat' (first | (with_reducible assumption) | (with_reducible refine Box2.drewN ?_ _) | (with_reducible refine Box2.drew ?_) | (with_reducible exact Box2.new _ _ _ _) | (with_reducible exact Box2.new1 _ _ _ _ _) | (with_reducible exact Box2.new2 _ _ _ _ _ _) | (with_reducible refine Box2.alloc ?_ _))); obtain ⟨c0x6x2, c1x6x2, f0x6x2, f1x6x2, zx6x2⟩ := id x6x2)
            clear x5x0 c0x5x0 c1x5x0 f0x5x0 f1x5x0 x5x1 c0x5x1 c1x5x1 f0x5x1 f1x5x1 x5x2 c0x5x2 c1x5x2 f0x5x2 f1x5x2
            go_wp2_with (go_at_call 20; refine (known_any _).mono ?_; rintro e' w7 ⟨rfl, hb7⟩)
            go_ret
            exact ⟨rfl, (by repeat' (first | (with_reducible exact Below.refl _ _) | (with_reducible assumption) | (with_reducible refine below_drewN ?_ _) | (with_reducible refine below_step (by assumption) ?_ ?_) | (with_reducible refine Below.alloc ?_ ?_ _) | (with_reducible refine Below.setCell ?_ ?_ _) | (with_reducible refine Below.drew ?_) | go_size | (exact Below.size (by assumption)) | (refine Nat.le_trans (Below.size (by assumption)) ?_)))⟩
          · have x0' : decide (0 < x) = false := decide_eq_false x0
            by_cases u0 : 0 < u
            · have u0' : decide (0 < u) = true := decide_eq_true u0
              go_enter Tryd.func10, Tryd.ntmps10
              go_wp2_with fail
              refine (ncompare_any a1 a2 b1 b2 x _ HX.out (by omega) (by omega) (by omega) (by omega) (by omega) (by omega) (by omega) (by omega) _).mono ?_
              rintro e1 w1 ⟨rfl, hb1⟩
              (have x1x0 : Box2 w1 (w.heap.size) (.int .i64 a1) (.int .i64 a2) := Box2.keep (by assumption) (by repeat' (first | (with_reducible assumption) | (with_reducible refine Box2.drewN ?_ _) | (with_reducible refine Box2.drew ?_) | (with_reducible exact Box2.new _ _ _ _) | (with_reducible exact Box2.new1 _ _ _ _ _) | (with_reducible exact Box2.new2 _ _ _ _ _ _) | (with_reducible refine Box2.alloc ?_ _))); obtain ⟨c0x1x0, c1x1x0, f0x1x0, f1x1x0, zx1x0⟩ := id x1x0)
              (have x1x1 : Box2 w1 (w.heap.size + 1) (.int .i64 b1) (.int .i64 b2) := Box2.keep (by assumption) (by repeat' (first | (with_reducible assumption) | (with_reducible refine Box2.drewN ?_ _) | (with_reducible refine Box2.drew ?_) | (with_reducible exact Box2.new _ _ _ _) | (with_reducible exact Box2.new1 _ _ _ _ _) | (with_reducible exact Box2.new2 _ _ _ _ _ _) | (with_reducible refine Box2.alloc ?_ _))); obtain ⟨c0x1x1, c1x1x1, f0x1x1, f1x1x1, zx1x1⟩ := id x1x1)
              (have x1x2 : Box2 w1 (w.heap.size + 1 + 1) (.int .i64 c1) (.int .i64 c2) := Box2.keep (by assumption) (by repeat' (first | (with_reducible assumption) | (with_reducible refine Box2.drewN ?_ _) | (with_reducible refine Box2.drew ?_) | (with_reducible exact Box2.new _ _ _ _) | (with_reducible exact Box2.new1 _ _ _ _ _) | (with_reducible exact Box2.new2 _ _ _ _ _ _) | (with_reducible refine Box2.alloc ?_ _))); obtain ⟨c0x1x2, c1x1x2, f0x1x2, f1x1x2, zx1x2⟩ := id x1x2)
              go_wp2_with fail
              refine (rcompare_any a1 a2 b1 b2 x _ HX.out (by omega) (by omega) (by omega) (by omega) (by omega) (by omega) (by omega) (by omega) _).mono ?_
              rintro e1 w2 ⟨rfl, hb2⟩
              (have x2x0 : Box2 w2 (w.heap.size) (.int .i64 a1) (.int .i64 a2) := Box2.keep (by assumption) (by repeat' (first | (with_reducible assumption) | (with_reducible refine Box2.drewN ?_ _) | (with_reducible refine Box2.drew ?_) | (with_reducible exact Box2.new _ _ _ _) | (with_reducible exact Box2.new1 _ _ _ _ _) | (with_reducible exact Box2.new2 _ _ _ _ _ _) | (with_reducible refine Box2.alloc ?_ _))); obtain ⟨c0x2x0, c1x2x0, f0x2x0, f1x2x0, zx2x0⟩ := id x2x0)
              (have x2x1 : Box2 w2 (w.heap.size + 1) (.int .i64 b1) (.int .i64 b2) := Box2.keep (by assumption) (by repeat' (first | (with_reducible assumption) | (with_reducible refine Box2.drewN ?_ _) | (with_reducible refine Box2.drew ?_) | (with_reducible exact Box2.new _ _ _ _) | (with_reducible exact Box2.new1 _ _ _ _ _) | (with_reducible exact Box2.new2 _ _ _ _ _ _) | (with_reducible refine Box2.alloc ?_ _))); obtain ⟨c0x2x1, c1x2x1, f0x2x1, f1x2x1, zx2x1⟩ := id x2x1)
              (have x2x2 : Box2 w2 (w.heap.size + 1 + 1) (.int .i64 c1) (.int .i64 c2) := Box2.keep (by assumption) (by repeat' (first | (with_reducible assumption) | (with_reducible refine Box2.drewN ?_ _) | (with_reducible refine Box2.drew ?_) | (with_reducible exact Box2.new _ _ _ _) | (with_reducible exact Box2.new1 _ _ _ _ _) | (with_reducible exact Box2.new2 _ _ _ _ _ _) | (with_reducible refine Box2.alloc ?_ _))); obtain ⟨c0x2x2, c1x2x2, f0x2x2, f1x2x2, zx2x2⟩ := id x2x2)
              clear x1x0 c0x1x0 c1x1x0 f0x1x0 f1x1x0 x1x1 c0x1x1 c1x1x1 f0x1x1 f1x1x1 x1x2 c0x1x2 c1x1x2 f0x1x2 f1x1x2
              go_wp2_with fail
              refine (ncompare_any b1 b2 a1 a2 (-x) 0 HY.out (by omega) (by omega) (by omega) (by omega) (by omega) (by omega) (by omega) (by omega) _).mono ?_
              rintro e1 w3 ⟨rfl, hb3⟩
              (have x3x0 : Box2 w3 (w.heap.size) (.int .i64 a1) (.int .i64 a2) := Box2.keep (by assumption) (by repeat' (first | (with_reducible assumption) | (with_reducible refine Box2.drewN ?_ _) | (with_reducible refine Box2.drew ?_) | (with_reducible exact Box2.new _ _ _ _) | (with_reducible exact Box2.new1 _ _ _ _ _) | (with_reducible exact Box2.new2 _ _ _ _ _ _) | (with_reducible refine Box2.alloc ?_ _))); obtain ⟨c0x3x0, c1x3x0, f0x3x0, f1x3x0, zx3x0⟩ := id x3x0)
              (have x3x1 : Box2 w3 (w.heap.size + 1) (.int .i64 b1) (.int .i64 b2) := Box2.keep (by assumption) (by repeat' (first | (with_reducible assumption) | (with_reducible refine Box2.drewN ?_ _) | (with_reducible refine Box2.drew ?_) | (with_reducible exact Box2.new _ _ _ _) | (with_reducible exact Box2.new1 _ _ _ _ _) | (with_reducible exact Box2.new2 _ _ _ _ _ _) | (with_reducible refine Box2.alloc ?_ _))); obtain ⟨c0x3x1, c1x3x1, f0x3x1, f1x3x1, zx3x1⟩ := id x3x1)
              (have x3x2 : Box2 w3 (w.heap.size + 1 + 1) (.int .i64 c1) (.int .i64 c2) := Box2.keep (by assumption) (by repeat' (first | (with_reducible assumption) | (with_reducible refine Box2.drewN ?_ _) | (with_reducible refine Box2.drew ?_) | (with_reducible exact Box2.new _ _ _ _) | (with_reducible exact Box2.new1 _ _ _ _ _) | (with_reducible exact Box2.new2 _ _ _ _ _ _) | (with_reducible refine Box2.alloc ?_ _))); obtain ⟨c0x3x2, c1x3x2, f0x3x2, f1x3x2, zx3x2⟩ := id x3x2)
              clear x2x0 c0x2x0 c1x2x0 f0x2x0 f1x2x0 x2x1 c0x2x1 c1x2x1 f0x2x1 f1x2x1 x2x2 c0x2x2 c1x2x2 f0x2x2 f1x2x2
              go_wp2_with fail
              refine (ncompare_any b1 b2 c1 c2 u _ HU.out (by omega) (by omega) (by omega) (by omega) (by omega) (by omega) (by omega) (by omega) _).mono ?_
              rintro e1 w4 ⟨rfl, hb4⟩
              (have x4x0 : Box2 w4 (w.heap.size) (.int .i64 a1) (.int .i64 a2) := Box2.keep (by assumption) (by repeat' (first | (with_reducible assumption) | (with_reducible refine Box2.drewN ?_ _) | (with_reducible refine Box2.drew ?_) | (with_reducible exact Box2.new _ _ _ _) | (with_reducible exact Box2.new1 _ _ _ _ _) | (with_reducible exact Box2.new2 _ _ _ _ _ _) | (with_reducible refine Box2.alloc ?_ _))); obtain ⟨c0x4x0, c1x4x0, f0x4x0, f1x4x0, zx4x0⟩ := id x4x0)
              (have x4x1 : Box2 w4 (w.heap.size + 1) (.int .i64 b1) (.int .i64 b2) := Box2.keep (by assumption) (by repeat' (first | (with_reducible assumption) | (with_reducible refine Box2.drewN ?_ _) | (with_reducible refine Box2.drew ?_) | (with_reducible exact Box2.new _ _ _ _) | (with_reducible exact Box2.new1 _ _ _ _ _) | (with_reducible exact Box2.new2 _ _ _ _ _ _) | (with_reducible refine Box2.alloc ?_ _))); obtain ⟨c0x4x1, c1x4x1, f0x4x1, f1x4x1, zx4x1⟩ := id x4x1)
              (have x4x2 : Box2 w4 (w.heap.size + 1 + 1) (.int .i64 c1) (.int .i64 c2) := Box2.keep (by assumption) (by repeat' (first | (with_reducible assumption) | (with_reducible refine Box2.drewN ?_ _) | (with_reducible refine Box2.drew ?_) | (with_reducible exact Box2.new _ _ _ _) | (with_reducible exact Box2.new1 _ _ _ _ _) | (with_reducible exact Box2.new2 _ _ _ _ _ _) | (with_reducible refine Box2.alloc ?_ _))); obtain ⟨c0x4x2, c1x4x2, f0x4x2, f1x4x2, zx4x2⟩ := id x4x2)
              clear x3x0 c0x3x0 c1x3x0 f0x3x0 f1x3x0 x3x1 c0x3x1 c1x3x1 f0x3x1 f1x3x1 x3x2 c0x3x2 c1x3x2 f0x3x2 f1x3x2
              go_wp2_with fail
              refine (ncompare_any a1 a2 c1 c2 v _ HV.out (by omega) (by omega) (by omega) (by omega) (by omega) (by omega) (by omega) (by omega) _).mono ?_
              rintro e1 w5 ⟨rfl, hb5⟩
              (have x5x0 : Box2 w5 (w.heap.size) (.int .i64 a1) (.int .i64 a2) := Box2.keep (by assumption) (by repeat' (first | (with_reducible assumption) | (with_reducible refine Box2.drewN ?_ _) | (with_reducible refine Box2.drew ?_) | (with_reducible exact Box2.new _ _ _ _) | (with_reducible exact Box2.new1 _ _ _ _ _) | (with_reducible exact Box2.new2 _ _ _ _ _ _) | (with_reducible refine Box2.alloc ?_ _))); obtain ⟨c0x5x0, c1x5x0, f0x5x0, f1x5x0, zx5x0⟩ := id x5x0)
              (have x5x1 : Box2 w5 (w.heap.size + 1) (.int .i64 b1) (.int .i64 b2) := Box2.keep (by assumption) (by repeat' (first | (with_reducible assumption) | (with_reducible refine Box2.drewN ?_ _) | (with_reducible refine Box2.drew ?_) | (with_reducible exact Box2.new _ _ _ _) | (with_reducible exact Box2.new1 _ _ _ _ _) | (with_reducible exact Box2.new2 _ _ _ _ _ _) | (with_reducible refine Box2.alloc ?_ _))); obtain ⟨c0x5x1, c1x5x1, f0x5x1, f1x5x1, zx5x1⟩ := id x5x1)
              (have x5x2 : Box2 w5 (w.heap.size + 1 + 1) (.int .i64 c1) (.int .i64 c2) := Box2.keep (by assumption) (by repeat' (first | (with_reducible assumption) | (with_reducible refine Box2.drewN ?_ _) | (with_reducible refine Box2.drew ?_) | (with_reducible exact Box2.new _ _ _ _) | (with_reducible exact Box2.new1 _ _ _ _ _) | (with_reducible exact Box2.new2 _ _ _ _ _ _) | (with_reducible refine Box2.alloc ?_ _))); obtain ⟨c0x5x2, c1x5x2, f0x5x2, f1x5x2, zx5x2⟩ := id x5x2)
              clear x4x0 c0x4x0 c1x4x0 f0x4x0 f1x4x0 x4x1 c0x4x1 c1x4x1 f0x4x1 f1x4x1 x4x2 c0x4x2 c1x4x2 f0x4x2 f1x4x2
              go_wp2_with fail
              refine (sub_any a1 a2 b1 b2 p q _ HP.out (by omega) (by omega) (by omega) (by omega) (by omega) (by omega) (by omega) (by omega) _).mono ?_
              rintro e1 w6 ⟨rfl, hb6⟩
              (have x6x0 : Box2 w6 (w.heap.size) (.int .i64 a1) (.int .i64 a2) := Box2.keep (by assumption) (by repeat' (first | (with_reducible assumption) | (with_reducible refine Box2.drewN ?_ _) | (with_reducible refine Box2.drew ?_) | (with_reducible exact Box2.new _ _ _ _) | (with_reducible exact Box2.new1 _ _ _ _ _) | (with_reducible exact Box2.new2 _ _ _ _ _ _) | (with_reducible refine Box2.alloc ?_ _))); obtain ⟨c0x6x0, c1x6x0, f0x6x0, f1x6x0, zx6x0⟩ := id x6x0)
              (have x6x1 : Box2 w6 (w.heap.size + 1) (.int .i64 b1) (.int .i64 b2) := Box2.keep (by assumption) (by repeat' (first | (with_reducible assumption) | (with_reducible refine Box2.drewN ?_ _) | (with_reducible refine Box2.drew ?_) | (with_reducible exact Box2.new _ _ _ _) | (with_reducible exact Box2.new1 _ _ _ _ _) | (with_reducible exact Box2.new2 _ _ _ _ _ _) | (with_reducible refine Box2.alloc ?_ _))); obtain ⟨c0x6x1, c1x6x1, f0x6x1, f1x6x1, zx6x1⟩ := id x6x1)
              (have x6x2 : Box2 w6 (w.heap.size + 1 + 1) (.int .i64 c1) (.int .i64 c2) := Box2.keep (by assumption) (by repeat' (first | (with_reducible assumption) | (with_reducible refine Box2.drewN ?_ _) | (with_reducible refine Box2.drew ?_) | (with_reducible exact Box2.new _ _ _ _) | (with_reducible exact Box2.new1 _ _ _ _ _) | (with_reducible exact Box2.new2 _ _ _ _ _ _) | (with_reducible refine Box2.alloc ?_ _))); obtain ⟨c0x6x2, c1x6x2, f0x6x2, f1x6x2, zx6x2⟩ := id x6x2)
              clear x5x0 c0x5x0 c1x5x0 f0x5x0 f1x5x0 x5x1 c0x5x1 c1x5x1 f0x5x1 f1x5x1 x5x2 c0x5x2 c1x5x2 f0x5x2 f1x5x2
              go_wp2_with (go_at_call 20; refine (known_any _).mono ?_; rintro e' w7 ⟨rfl, hb7⟩)
              go_ret
              exact ⟨rfl, (by repeat' (first | (with_reducible exact Below.refl _ _) | (with_reducible assumption) | (with_reducible refine below_drewN ?_ _) | (with_reducible refine below_step (by assumption) ?_ ?_) | (with_reducible refine Below.alloc ?_ ?_ _) | (with_reducible refine Below.setCell ?_ ?_ _) | (with_reducible refine Below.drew ?_) | go_size | (exact Below.size (by assumption)) | (refine Nat.le_trans (Below.size (by assumption)) ?_)))⟩
            · have u0' : decide (0 < u) = false := decide_eq_false u0
              have v0' : decide (v ≤ 0) = true := decide_eq_true (hvv (by omega) (by omega))
              clear hvv
              go_enter Tryd.func10, Tryd.ntmps10
              go_wp2_with fail
              refine (ncompare_any a1 a2 b1 b2 x _ HX.out (by omega) (by omega) (by omega) (by omega) (by omega) (by omega) (by omega) (by omega) _).mono ?_
              rintro e1 w1 ⟨rfl, hb1⟩
              (have x1x0 : Box2 w1 (w.heap.size) (.int .i64 a1) (.int .i64 a2) := Box2.keep (by assumption) (by repeat' (first | (with_reducible assumption) | (with_reducible refine Box2.drewN ?_ _) | (with_reducible refine Box2.drew ?_) | (with_reducible exact Box2.new _ _ _ _) | (with_reducible exact Box2.new1 _ _ _ _ _) | (with_reducible exact Box2.new2 _ _ _ _ _ _) | (with_reducible refine Box2.alloc ?_ _))); obtain ⟨c0x1x0, c1x1x0, f0x1x0, f1x1x0, zx1x0⟩ := id x1x0)
              (have x1x1 : Box2 w1 (w.heap.size + 1) (.int .i64 b1) (.int .i64 b2) := Box2.keep (by assumption) (by repeat' (first | (with_reducible assumption) | (with_reducible refine Box2.drewN ?_ _) | (with_reducible refine Box2.drew ?_) | (with_reducible exact Box2.new _ _ _ _) | (with_reducible exact Box2.new1 _ _ _ _ _) | (with_reducible exact Box2.new2 _ _ _ _ _ _) | (with_reducible refine Box2.alloc ?_ _))); obtain ⟨c0x1x1, c1x1x1, f0x1x1, f1x1x1, zx1x1⟩ := id x1x1)
              (have x1x2 : Box2 w1 (w.heap.size + 1 + 1) (.int .i64 c1) (.int .i64 c2) := Box2.keep (by assumption) (by repeat' (first | (with_reducible assumption) | (with_reducible refine Box2.drewN ?_ _) | (with_reducible refine Box2.drew ?_) | (with_reducible exact Box2.new _ _ _ _) | (with_reducible exact Box2.new1 _ _ _ _ _) | (with_reducible exact Box2.new2 _ _ _ _ _ _) | (with_reducible refine Box2.alloc ?_ _))); obtain ⟨c0x1x2, c1x1x2, f0x1x2, f1x1x2, zx1x2⟩ := id x1x2)
              go_wp2_with fail
              refine (rcompare_any a1 a2 b1 b2 x _ HX.out (by omega) (by omega) (by omega) (by omega) (by omega) (by omega) (by omega) (by omega) _).mono ?_
              rintro e1 w2 ⟨rfl, hb2⟩
              (have x2x0 : Box2 w2 (w.heap.size) (.int .i64 a1) (.int .i64 a2) := Box2.keep (by assumption) (by repeat' (first | (with_reducible assumption) | (with_reducible refine Box2.drewN ?_ _) | (with_reducible refine Box2.drew ?_) | (with_reducible exact Box2.new _ _ _ _) | (with_reducible exact Box2.new1 _ _ _ _ _) | (with_reducible exact Box2.new2 _ _ _ _ _ _) | (with_reducible refine Box2.alloc ?_ _))); obtain ⟨c0x2x0, c1x2x0, f0x2x0, f1x2x0, zx2x0⟩ := id x2x0)
              (have x2x1 : Box2 w2 (w.heap.size + 1) (.int .i64 b1) (.int .i64 b2) := Box2.keep (by assumption) (by repeat' (first | (with_reducible assumption) | (with_reducible refine Box2.drewN ?_ _) | (with_reducible refine Box2.drew ?_) | (with_reducible exact Box2.new _ _ _ _) | (with_reducible exact Box2.new1 _ _ _ _ _) | (with_reducible exact Box2.new2 _ _ _ _ _ _) | (with_reducible refine Box2.alloc ?_ _))); obtain ⟨c0x2x1, c1x2x1, f0x2x1, f1x2x1, zx2x1⟩ := id x2x1)
              (have x2x2 : Box2 w2 (w.heap.size + 1 + 1) (.int .i64 c1) (.int .i64 c2) := Box2.keep (by assumption) (by repeat' (first | (with_reducible assumption) | (with_reducible refine Box2.drewN ?_ _) | (with_reducible refine Box2.drew ?_) | (with_reducible exact Box2.new _ _ _ _) | (with_reducible exact Box2.new1 _ _ _ _ _) | (with_reducible exact Box2.new2 _ _ _ _ _ _) | (with_reducible refine Box2.alloc ?_ _))); obtain ⟨c0x2x2, c1x2x2, f0x2x2, f1x2x2, zx2x2⟩ := id x2x2)
              clear x1x0 c0x1x0 c1x1x0 f0x1x0 f1x1x0 x1x1 c0x1x1 c1x1x1 f0x1x1 f1x1x1 x1x2 c0x1x2 c1x1x2 f0x1x2 f1x1x2
              go_wp2_with fail
              refine (ncompare_any b1 b2 a1 a2 (-x) 0 HY.out (by omega) (by omega) (by omega) (by omega) (by omega) (by omega) (by omega) (by omega) _).mono ?_
              rintro e1 w3 ⟨rfl, hb3⟩
              (have x3x0 : Box2 w3 (w.heap.size) (.int .i64 a1) (.int .i64 a2) := Box2.keep (by assumption) (by repeat' (first | (with_reducible assumption) | (with_reducible refine Box2.drewN ?_ _) | (with_reducible refine Box2.drew ?_) | (with_reducible exact Box2.new _ _ _ _) | (with_reducible exact Box2.new1 _ _ _ _ _) | (with_reducible exact Box2.new2 _ _ _ _ _ _) | (with_reducible refine Box2.alloc ?_ _))); obtain ⟨c0x3x0, c1x3x0, f0x3x0, f1x3x0, zx3x0⟩ := id x3x0)
              (have x3x1 : Box2 w3 (w.heap.size + 1) (.int .i64 b1) (.int .i64 b2) := Box2.keep (by assumption) (by repeat' (first | (with_reducible assumption) | (with_reducible refine Box2.drewN ?_ _) | (with_reducible refine Box2.drew ?_) | (with_reducible exact Box2.new _ _ _ _) | (with_reducible exact Box2.new1 _ _ _ _ _) | (with_reducible exact Box2.new2 _ _ _ _ _ _) | (with_reducible refine Box2.alloc ?_ _))); obtain ⟨c0x3x1, c1x3x1, f0x3x1, f1x3x1, zx3x1⟩ := id x3x1)
              (have x3x2 : Box2 w3 (w.heap.size + 1 + 1) (.int .i64 c1) (.int .i64 c2) := Box2.keep (by assumption) (by repeat' (first | (with_reducible assumption) | (with_reducible refine Box2.drewN ?_ _) | (with_reducible refine Box2.drew ?_) | (with_reducible exact Box2.new _ _ _ _) | (with_reducible exact Box2.new1 _ _ _ _ _) | (with_reducible exact Box2.new2 _ _ _ _ _ _) | (with_reducible refine Box2.alloc ?_ _))); obtain ⟨c0x3x2, c1x3x2, f0x3x2, f1x3x2, zx3x2⟩ := id x3x2)
              clear x2x0 c0x2x0 c1x2x0 f0x2x0 f1x2x0 x2x1 c0x2x1 c1x2x1 f0x2x1 f1x2x1 x2x2 c0x2x2 c1x2x2 f0x2x2 f1x2x2
              go_wp2_with fail
              refine (ncompare_any b1 b2 c1 c2 u _ HU.out (by omega) (by omega) (by omega) (by omega) (by omega) (by omega) (by omega) (by omega) _).mono ?_
              rintro e1 w4 ⟨rfl, hb4⟩
              (have x4x0 : Box2 w4 (w.heap.size) (.int .i64 a1) (.int .i64 a2) := Box2.keep (by assumption) (by repeat' (first | (with_reducible assumption) | (with_reducible refine Box2.drewN ?_ _) | (with_reducible refine Box2.drew ?_) | (with_reducible exact Box2.new _ _ _ _) | (with_reducible exact Box2.new1 _ _ _ _ _) | (with_reducible exact Box2.new2 _ _ _ _ _ _) | (with_reducible refine Box2.alloc ?_ _))); obtain ⟨c0x4x0, c1x4x0, f0x4x0, f1x4x0, zx4x0⟩ := id x4x0)
              (have x4x1 : Box2 w4 (w.heap.size + 1) (.int .i64 b1) (.int .i64 b2) := Box2.keep (by assumption) (by repeat' (first | (with_reducible assumption) | (with_reducible refine Box2.drewN ?_ _) | (with_reducible refine Box2.drew ?_) | (with_reducible exact Box2.new _ _ _ _) | (with_reducible exact Box2.new1 _ _ _ _ _) | (with_reducible exact Box2.new2 _ _ _ _ _ _) | (with_reducible refine Box2.alloc ?_ _))); obtain ⟨c0x4x1, c1x4x1, f0x4x1, f1x4x1, zx4x1⟩ := id x4x1)
              (have x4x2 : Box2 w4 (w.heap.size + 1 + 1) (.int .i64 c1) (.int .i64 c2) := Box2.keep (by assumption) (by repeat' (first | (with_reducible assumption) | (with_reducible refine Box2.drewN ?_ _) | (with_reducible refine Box2.drew ?_) | (with_reducible exact Box2.new _ _ _ _) | (with_reducible exact Box2.new1 _ _ _ _ _) | (with_reducible exact Box2.new2 _ _ _ _ _ _) | (with_reducible refine Box2.alloc ?_ _))); obtain ⟨c0x4x2, c1x4x2, f0x4x2, f1x4x2, zx4x2⟩ := id x4x2)
              clear x3x0 c0x3x0 c1x3x0 f0x3x0 f1x3x0 x3x1 c0x3x1 c1x3x1 f0x3x1 f1x3x1 x3x2 c0x3x2 c1x3x2 f0x3x2 f1x3x2
              go_wp2_with fail
              refine (ncompare_any a1 a2 c1 c2 v _ HV.out (by omega) (by omega) (by omega) (by omega) (by omega) (by omega) (by omega) (by omega) _).mono ?_
              rintro e1 w5 ⟨rfl, hb5⟩
              (have x5x0 : Box2 w5 (w.heap.size) (.int .i64 a1) (.int .i64 a2) := Box2.keep (by assumption) (by repeat' (first | (with_reducible assumption) | (with_reducible refine Box2.drewN ?_ _) | (with_reducible refine Box2.drew ?_) | (with_reducible exact Box2.new _ _ _ _) | (with_reducible exact Box2.new1 _ _ _ _ _) | (with_reducible exact Box2.new2 _ _ _ _ _ _) | (with_reducible refine Box2.alloc ?_ _))); obtain ⟨c0x5x0, c1x5x0, f0x5x0, f1x5x0, zx5x0⟩ := id x5x0)
              (have x5x1 : Box2 w5 (w.heap.size + 1) (.int .i64 b1) (.int .i64 b2) := Box2.keep (by assumption) (by repeat' (first | (with_reducible assumption) | (with_reducible refine Box2.drewN ?_ _) | (with_reducible refine Box2.drew ?_) | (with_reducible exact Box2.new _ _ _ _) | (with_reducible exact Box2.new1 _ _ _ _ _) | (with_reducible exact Box2.new2 _ _ _ _ _ _) | (with_reducible refine Box2.alloc ?_ _))); obtain ⟨c0x5x1, c1x5x1, f0x5x1, f1x5x1, zx5x1⟩ := id x5x1)
              (have x5x2 : Box2 w5 (w.heap.size + 1 + 1) (.int .i64 c1) (.int .i64 c2) := Box2.keep (by assumption) (by repeat' (first | (with_reducible assumption) | (with_reducible refine Box2.drewN ?_ _) | (with_reducible refine Box2.drew ?_) | (with_reducible exact Box2.new _ _ _ _) | (with_reducible exact Box2.new1 _ _ _ _ _) | (with_reducible exact Box2.new2 _ _ _ _ _ _) | (with_reducible refine Box2.alloc ?_ _))); obtain ⟨c0x5x2, c1x5x2, f0x5x2, f1x5x2, zx5x2⟩ := id x5x2)
              clear x4x0 c0x4x0 c1x4x0 f0x4x0 f1x4x0 x4x1 c0x4x1 c1x4x1 f0x4x1 f1x4x1 x4x2 c0x4x2 c1x4x2 f0x4x2 f1x4x2
              go_wp2_with fail
              refine (sub_any a1 a2 b1 b2 p q _ HP.out (by omega) (by omega) (by omega) (by omega) (by omega) (by omega) (by omega) (by omega) _).mono ?_
              rintro e1 w6 ⟨rfl, hb6⟩
              (have x6x0 : Box2 w6 (w.heap.size) (.int .i64 a1) (.int .i64 a2) := Box2.keep (by assumption) (by repeat' (first | (with_reducible assumption) | (with_reducible refine Box2.drewN ?_ _) | (with_reducible refine Box2.drew ?_) | (with_reducible exact Box2.new _ _ _ _) | (with_reducible exact Box2.new1 _ _ _ _ _) | (with_reducible exact Box2.new2 _ _ _ _ _ _) | (with_reducible refine Box2.alloc ?_ _))); obtain ⟨c0x6x0, c1x6x0, f0x6x0, f1x6x0, zx6x0⟩ := id x6x0)
              (have x6x1 : Box2 w6 (w.heap.size + 1) (.int .i64 b1) (.int .i64 b2) := Box2.keep (by assumption) (by repeat' (first | (with_reducible assumption) | (with_reducible refine Box2.drewN ?_ _) | (with_reducible refine Box2.drew ?_) | (with_reducible exact Box2.new _ _ _ _) | (with_reducible exact Box2.new1 _ _ _ _ _) | (with_reducible exact Box2.new2 _ _ _ _ _ _) | (with_reducible refine Box2.alloc ?_ _))); obtain ⟨c0x6x1, c1x6x1, f0x6x1, f1x6x1, zx6x1⟩ := id x6x1)
              (have x6x2 : Box2 w6 (w.heap.size + 1 + 1) (.int .i64 c1) (.int .i64 c2) := Box2.keep (by assumption) (by repeat' (first | (with_reducible assumption) | (with_reducible refine Box2.drewN ?_ _) | (with_reducible refine Box2.drew ?_) | (with_reducible exact Box2.new _ _ _ _) | (with_reducible exact Box2.new1 _ _ _ _ _) | (with_reducible exact Box2.new2 _ _ _ _ _ _) | (with_reducible refine Box2.alloc ?_ _))); obtain ⟨c0x6x2, c1x6x2, f0x6x2, f1x6x2, zx6x2⟩ := id x6x2)
              clear x5x0 c0x5x0 c1x5x0 f0x5x0 f1x5x0 x5x1 c0x5x1 c1x5x1 f0x5x1 f1x5x1 x5x2 c0x5x2 c1x5x2 f0x5x2 f1x5x2
              go_wp2_with (go_at_call 20; refine (known_any _).mono ?_; rintro e' w7 ⟨rfl, hb7⟩)
              go_ret
              exact ⟨rfl, (by repeat' (first | (with_reducible exact Below.refl _ _) | (with_reducible assumption) | (with_reducible refine below_drewN ?_ _) | (with_reducible refine below_step (by assumption) ?_ ?_) | (with_reducible refine Below.alloc ?_ ?_ _) | (with_reducible refine Below.setCell ?_ ?_ _) | (with_reducible refine Below.drew ?_) | go_size | (exact Below.size (by assumption)) | (refine Nat.le_trans (Below.size (by assumption)) ?_)))⟩
        · have ni' : (i != 0) = true := by rw [bne_iff_ne]; exact ni
          clear htr hsg ni
          by_cases x0 : 0 < x
          · have x0' : decide (0 < x) = true := decide_eq_true x0
            go_enter Tryd.func10, Tryd.ntmps10
            go_wp2_with fail
            refine (ncompare_any a1 a2 b1 b2 x _ HX.out (by omega) (by omega) (by omega) (by omega) (by omega) (by omega) (by omega) (by omega) _).mono ?_
            rintro e1 w1 ⟨rfl, hb1⟩
            (have x1x0 : Box2 w1 (w.heap.size) (.int .i64 a1) (.int .i64 a2) := Box2.keep (by assumption) (by repeat' (first | (with_reducible assumption) | (with_reducible refine Box2.drewN ?_ _) | (with_reducible refine Box2.drew ?_) | (with_reducible exact Box2.new _ _ _ _) | (with_reducible exact Box2.new1 _ _ _ _ _) | (with_reducible exact Box2.new2 _ _ _ _ _ _) | (with_reducible refine Box2.alloc ?_ _))); obtain ⟨c0x1x0, c1x1x0, f0x1x0, f1x1x0, zx1x0⟩ := id x1x0)
            (have x1x1 : Box2 w1 (w.heap.size + 1) (.int .i64 b1) (.int .i64 b2) := Box2.keep (by assumption) (by repeat' (first | (with_reducible assumption) | (with_reducible refine Box2.drewN ?_ _) | (with_reducible refine Box2.drew ?_) | (with_reducible exact Box2.new _ _ _ _) | (with_reducible exact Box2.new1 _ _ _ _ _) | (with_reducible exact Box2.new2 _ _ _ _ _ _) | (with_reducible refine Box2.alloc ?_ _))); obtain ⟨c0x1x1, c1x1x1, f0x1x1, f1x1x1, zx1x1⟩ := id x1x1)
            (have x1x2 : Box2 w1 (w.heap.size + 1 + 1) (.int .i64 c1) (.int .i64 c2) := Box2.keep (by assumption) (by repeat' (first | (with_reducible assumption) | (with_reducible refine Box2.drewN ?_ _) | (with_reducible refine Box2.drew ?_) | (with_reducible exact Box2.new _ _ _ _) | (with_reducible exact Box2.new1 _ _ _ _ _) | (with_reducible exact Box2.new2 _ _ _ _ _ _) | (with_reducible refine Box2.alloc ?_ _))); obtain ⟨c0x1x2, c1x1x2, f0x1x2, f1x1x2, zx1x2⟩ := id x1x2)
            go_wp2_with fail
            refine (rcompare_any a1 a2 b1 b2 x _ HX.out (by omega) (by omega) (by omega) (by omega) (by omega) (by omega) (by omega) (by omega) _).mono ?_
            rintro e1 w2 ⟨rfl, hb2⟩
            (have x2x0 : Box2 w2 (w.heap.size) (.int .i64 a1) (.int .i64 a2) := Box2.keep (by assumption) (by repeat' (first | (with_reducible assumption) | (with_reducible refine Box2.drewN ?_ _) | (with_reducible refine Box2.drew ?_) | (with_reducible exact Box2.new _ _ _ _) | (with_reducible exact Box2.new1 _ _ _ _ _) | (with_reducible exact Box2.new2 _ _ _ _ _ _) | (with_reducible refine Box2.alloc ?_ _))); obtain ⟨c0x2x0, c1x2x0, f0x2x0, f1x2x0, zx2x0⟩ := id x2x0)
            (have x2x1 : Box2 w2 (w.heap.size + 1) (.int .i64 b1) (.int .i64 b2) := Box2.keep (by assumption) (by repeat' (first | (with_reducible assumption) | (with_reducible refine Box2.drewN ?_ _) | (with_reducible refine Box2.drew ?_) | (with_reducible exact Box2.new _ _ _ _) | (with_reducible exact Box2.new1 _ _ _ _ _) | (with_reducible exact Box2.new2 _ _ _ _ _ _) | (with_reducible refine Box2.alloc ?_ _))); obtain ⟨c0x2x1, c1x2x1, f0x2x1, f1x2x1, zx2x1⟩ := id x2x1)
            (have x2x2 : Box2 w2 (w.heap.size + 1 + 1) (.int .i64 c1) (.int .i64 c2) := Box2.keep (by assumption) (by repeat' (first | (with_reducible assumption) | (with_reducible refine Box2.drewN ?_ _) | (with_reducible refine Box2.drew ?_) | (with_reducible exact Box2.new _ _ _ _) | (with_reducible exact Box2.new1 _ _ _ _ _) | (with_reducible exact Box2.new2 _ _ _ _ _ _) | (with_reducible refine Box2.alloc ?_ _))); obtain ⟨c0x2x2, c1x2x2, f0x2x2, f1x2x2, zx2x2⟩ := id x2x2)
            clear x1x0 c0x1x0 c1x1x0 f0x1x0 f1x1x0 x1x1 c0x1x1 c1x1x1 f0x1x1 f1x1x1 x1x2 c0x1x2 c1x1x2 f0x1x2 f1x1x2
            go_wp2_with fail
            refine (ncompare_any b1 b2 a1 a2 (-x) 0 HY.out (by omega) (by omega) (by omega) (by omega) (by omega) (by omega) (by omega) (by omega) _).mono ?_
            rintro e1 w3 ⟨rfl, hb3⟩
            (have x3x0 : Box2 w3 (w.heap.size) (.int .i64 a1) (.int .i64 a2) := Box2.keep (by assumption) (by repeat' (first | (with_reducible assumption) | (with_reducible refine Box2.drewN ?_ _) | (with_reducible refine Box2.drew ?_) | (with_reducible exact Box2.new _ _ _ _) | (with_reducible exact Box2.new1 _ _ _ _ _) | (with_reducible exact Box2.new2 _ _ _ _ _ _) | (with_reducible refine Box2.alloc ?_ _))); obtain ⟨c0x3x0, c1x3x0, f0x3x0, f1x3x0, zx3x0⟩ := id x3x0)
            (have x3x1 : Box2 w3 (w.heap.size + 1) (.int .i64 b1) (.int .i64 b2) := Box2.keep (by assumption) (by repeat' (first | (with_reducible assumption) | (with_reducible refine Box2.drewN ?_ _) | (with_reducible refine Box2.drew ?_) | (with_reducible exact Box2.new _ _ _ _) | (with_reducible exact Box2.new1 _ _ _ _ _) | (with_reducible exact Box2.new2 _ _ _ _ _ _) | (with_reducible refine Box2.alloc ?_ _))); obtain ⟨c0x3x1, c1x3x1, f0x3x1, f1x3x1, zx3x1⟩ := id x3x1)
            (have x3x2 : Box2 w3 (w.heap.size + 1 + 1) (.int .i64 c1) (.int .i64 c2) := Box2.keep (by assumption) (by repeat' (first | (with_reducible assumption) | (with_reducible refine Box2.drewN ?_ _) | (with_reducible refine Box2.drew ?_) | (with_reducible exact Box2.new _ _ _ _) | (with_reducible exact Box2.new1 _ _ _ _ _) | (with_reducible exact Box2.new2 _ _ _ _ _ _) | (with_reducible refine Box2.alloc ?_ _))); obtain ⟨c0x3x2, c1x3x2, f0x3x2, f1x3x2, zx3x2⟩ := id x3x2)
            clear x2x0 c0x2x0 c1x2x0 f0x2x0 f1x2x0 x2x1 c0x2x1 c1x2x1 f0x2x1 f1x2x1 x2x2 c0x2x2 c1x2x2 f0x2x2 f1x2x2
            go_wp2_with fail
            refine (ncompare_any b1 b2 c1 c2 u _ HU.out (by omega) (by omega) (by omega) (by omega) (by omega) (by omega) (by omega) (by omega) _).mono ?_
            rintro e1 w4 ⟨rfl, hb4⟩
            (have x4x0 : Box2 w4 (w.heap.size) (.int .i64 a1) (.int .i64 a2) := Box2.keep (by assumption) (by repeat' (first | (with_reducible assumption) | (with_reducible refine Box2.drewN ?_ _) | (with_reducible refine Box2.drew ?_) | (with_reducible exact Box2.new _ _ _ _) | (with_reducible exact Box2.new1 _ _ _ _ _) | (with_reducible exact Box2.new2 _ _ _ _ _ _) | (with_reducible refine Box2.alloc ?_ _))); obtain ⟨c0x4x0, c1x4x0, f0x4x0, f1x4x0, zx4x0⟩ := id x4x0)
            (have x4x1 : Box2 w4 (w.heap.size + 1) (.int .i64 b1) (.int .i64 b2) := Box2.keep (by assumption) (by repeat' (first | (with_reducible assumption) | (with_reducible refine Box2.drewN ?_ _) | (with_reducible refine Box2.drew ?_) | (with_reducible exact Box2.new _ _ _ _) | (with_reducible exact Box2.new1 _ _ _ _ _) | (with_reducible exact Box2.new2 _ _ _ _ _ _) | (with_reducible refine Box2.alloc ?_ _))); obtain ⟨c0x4x1, c1x4x1, f0x4x1, f1x4x1, zx4x1⟩ := id x4x1)
            (have x4x2 : Box2 w4 (w.heap.size + 1 + 1) (.int .i64 c1) (.int .i64 c2) := Box2.keep (by assumption) (by repeat' (first | (with_reducible assumption) | (with_reducible refine Box2.drewN ?_ _) | (with_reducible refine Box2.drew ?_) | (with_reducible exact Box2.new _ _ _ _) | (with_reducible exact Box2.new1 _ _ _ _ _) | (with_reducible exact Box2.new2 _ _ _ _ _ _) | (with_reducible refine Box2.alloc ?_ _))); obtain ⟨c0x4x2, c1x4x2, f0x4x2, f1x4x2, zx4x2⟩ := id x4x2)
            clear x3x0 c0x3x0 c1x3x0 f0x3x0 f1x3x0 x3x1 c0x3x1 c1x3x1 f0x3x1 f1x3x1 x3x2 c0x3x2 c1x3x2 f0x3x2 f1x3x2
            go_wp2_with fail
            refine (ncompare_any a1 a2 c1 c2 v _ HV.out (by omega) (by omega) (by omega) (by omega) (by omega) (by omega) (by omega) (by omega) _).mono ?_
            rintro e1 w5 ⟨rfl, hb5⟩
            (have x5x0 : Box2 w5 (w.heap.size) (.int .i64 a1) (.int .i64 a2) := Box2.keep (by assumption) (by repeat' (first | (with_reducible assumption) | (with_reducible refine Box2.drewN ?_ _) | (with_reducible refine Box2.drew ?_) | (with_reducible exact Box2.new _ _ _ _) | (with_reducible exact Box2.new1 _ _ _ _ _) | (with_reducible exact Box2.new2 _ _ _ _ _ _) | (with_reducible refine Box2.alloc ?_ _))); obtain ⟨c0x5x0, c1x5x0, f0x5x0, f1x5x0, zx5x0⟩ := id x5x0)
            (have x5x1 : Box2 w5 (w.heap.size + 1) (.int .i64 b1) (.int .i64 b2) := Box2.keep (by assumption) (by repeat' (first | (with_reducible assumption) | (with_reducible refine Box2.drewN ?_ _) | (with_reducible refine Box2.drew ?_) | (with_reducible exact Box2.new _ _ _ _) | (with_reducible exact Box2.new1 _ _ _ _ _) | (with_reducible exact Box2.new2 _ _ _ _ _ _) | (with_reducible refine Box2.alloc ?_ _))); obtain ⟨c0x5x1, c1x5x1, f0x5x1, f1x5x1, zx5x1⟩ := id x5x1)
            (have x5x2 : Box2 w5 (w.heap.size + 1 + 1) (.int .i64 c1) (.int .i64 c2) := Box2.keep (by assumption) (by repeat' (first | (with_reducible assumption) | (with_reducible refine Box2.drewN ?_ _) | (with_reducible refine Box2.drew ?_) | (with_reducible exact Box2.new _ _ _ _) | (with_reducible exact Box2.new1 _ _ _ _ _) | (with_reducible exact Box2.new2 _ _ _ _ _ _) | (with_reducible refine Box2.alloc ?_ _))); obtain ⟨c0x5x2, c1x5x2, f0x5x2, f1x5x2, zx5x2⟩ := id x5x2)
            clear x4x0 c0x4x0 c1x4x0 f0x4x0 f1x4x0 x4x1 c0x4x1 c1x4x1 f0x4x1 f1x4x1 x4x2 c0x4x2 c1x4x2 f0x4x2 f1x4x2
            go_wp2_with fail
            refine (sub_any a1 a2 b1 b2 p q _ HP.out (by omega) (by omega) (by omega) (by omega) (by omega) (by omega) (by omega) (by omega) _).mono ?_
            rintro e1 w6 ⟨rfl, hb6⟩
            (have x6x0 : Box2 w6 (w.heap.size) (.int .i64 a1) (.int .i64 a2) := Box2.keep (by assumption) (by repeat' (first | (with_reducible assumption) | (with_reducible refine Box2.drewN ?_ _) | (with_reducible refine Box2.drew ?_) | (with_reducible exact Box2.new _ _ _ _) | (with_reducible exact Box2.new1 _ _ _ _ _) | (with_reducible exact Box2.new2 _ _ _ _ _ _) | (with_reducible refine Box2.alloc ?_ _))); obtain ⟨c0x6x0, c1x6x0, f0x6x0, f1x6x0, zx6x0⟩ := id x6x0)
            (have x6x1 : Box2 w6 (w.heap.size + 1) (.int .i64 b1) (.int .i64 b2) := Box2.keep (by assumption) (by repeat' (first | (with_reducible assumption) | (with_reducible refine Box2.drewN ?_ _) | (with_reducible refine Box2.drew ?_) | (with_reducible exact Box2.new _ _ _ _) | (with_reducible exact Box2.new1 _ _ _ _ _) | (with_reducible exact Box2.new2 _ _ _ _ _ _) | (with_reducible refine Box2.alloc ?_ _))); obtain ⟨c0x6x1, c1x6x1, f0x6x1, f1x6x1, zx6x1⟩ := id x6x1)
            (have x6x2 : Box2 w6 (w.heap.size + 1 + 1) (.int .i64 c1) (.int .i64 c2) := Box2.keep (by assumption) (by repeat' (first | (with_reducible assumption) | (with_reducible refine Box2.drewN ?_ _) | (with_reducible refine Box2.drew ?_) | (with_reducible exact Box2.new _ _ _ _) | (with_reducible exact Box2.new1 _ _ _ _ _) | (with_reducible exact Box2.new2 _ _ _ _ _ _) | (with_reducible refine Box2.alloc ?_ _))); obtain ⟨c0x6x2, c1x6x2, f0x6x2, f1x6x2, zx6x2⟩ := id x6x2)
            clear x5x0 c0x5x0 c1x5x0 f0x5x0 f1x5x0 x5x1 c0x5x1 c1x5x1 f0x5x1 f1x5x1 x5x2 c0x5x2 c1x5x2 f0x5x2 f1x5x2
            go_wp2_with (go_at_call 20; refine (known_any _).mono ?_; rintro e' w7 ⟨rfl, hb7⟩)
            go_ret
            exact ⟨rfl, (by repeat' (first | (with_reducible exact Below.refl _ _) | (with_reducible assumption) | (with_reducible refine below_drewN ?_ _) | (with_reducible refine below_step (by assumption) ?_ ?_) | (with_reducible refine Below.alloc ?_ ?_ _) | (with_reducible refine Below.setCell ?_ ?_ _) | (with_reducible refine Below.drew ?_) | go_size | (exact Below.size (by assumption)) | (refine Nat.le_trans (Below.size (by assumption)) ?_)))⟩
          · have x0' : decide (0 < x) = false := decide_eq_false x0
            by_cases u0 : 0 < u
            · have u0' : decide (0 < u) = true := decide_eq_true u0
              go_enter Tryd.func10, Tryd.ntmps10
              go_wp2_with fail
              refine (ncompare_any a1 a2 b1 b2 x _ HX.out (by omega) (by omega) (by omega) (by omega) (by omega) (by omega) (by omega) (by omega) _).mono ?_
              rintro e1 w1 ⟨rfl, hb1⟩
              (have x1x0 : Box2 w1 (w.heap.size) (.int .i64 a1) (.int .i64 a2) := Box2.keep (by assumption) (by repeat' (first | (with_reducible assumption) | (with_reducible refine Box2.drewN ?_ _) | (with_reducible refine Box2.drew ?_) | (with_reducible exact Box2.new _ _ _ _) | (with_reducible exact Box2.new1 _ _ _ _ _) | (with_reducible exact Box2.new2 _ _ _ _ _ _) | (with_reducible refine Box2.alloc ?_ _))); obtain ⟨c0x1x0, c1x1x0, f0x1x0, f1x1x0, zx1x0⟩ := id x1x0)
              (have x1x1 : Box2 w1 (w.heap.size + 1) (.int .i64 b1) (.int .i64 b2) := Box2.keep (by assumption) (by repeat' (first | (with_reducible assumption) | (with_reducible refine Box2.drewN ?_ _) | (with_reducible refine Box2.drew ?_) | (with_reducible exact Box2.new _ _ _ _) | (with_reducible exact Box2.new1 _ _ _ _ _) | (with_reducible exact Box2.new2 _ _ _ _ _ _) | (with_reducible refine Box2.alloc ?_ _))); obtain ⟨c0x1x1, c1x1x1, f0x1x1, f1x1x1, zx1x1⟩ := id x1x1)
              (have x1x2 : Box2 w1 (w.heap.size + 1 + 1) (.int .i64 c1) (.int .i64 c2) := Box2.keep (by assumption) (by repeat' (first | (with_reducible assumption) | (with_reducible refine Box2.drewN ?_ _) | (with_reducible refine Box2.drew ?_) | (with_reducible exact Box2.new _ _ _ _) | (with_reducible exact Box2.new1 _ _ _ _ _) | (with_reducible exact Box2.new2 _ _ _ _ _ _) | (with_reducible refine Box2.alloc ?_ _))); obtain ⟨c0x1x2, c1x1x2, f0x1x2, f1x1x2, zx1x2⟩ := id x1x2)
              go_wp2_with fail
              refine (rcompare_any a1 a2 b1 b2 x _ HX.out (by omega) (by omega) (by omega) (by omega) (by omega) (by omega) (by omega) (by omega) _).mono ?_
              rintro e1 w2 ⟨rfl, hb2⟩
              (have x2x0 : Box2 w2 (w.heap.size) (.int .i64 a1) (.int .i64 a2) := Box2.keep (by assumption) (by repeat' (first | (with_reducible assumption) | (with_reducible refine Box2.drewN ?_ _) | (with_reducible refine Box2.drew ?_) | (with_reducible exact Box2.new _ _ _ _) | (with_reducible exact Box2.new1 _ _ _ _ _) | (with_reducible exact Box2.new2 _ _ _ _ _ _) | (with_reducible refine Box2.alloc ?_ _))); obtain ⟨c0x2x0, c1x2x0, f0x2x0, f1x2x0, zx2x0⟩ := id x2x0)
              (have x2x1 : Box2 w2 (w.heap.size + 1) (.int .i64 b1) (.int .i64 b2) := Box2.keep (by assumption) (by repeat' (first | (with_reducible assumption) | (with_reducible refine Box2.drewN ?_ _) | (with_reducible refine Box2.drew ?_) | (with_reducible exact Box2.new _ _ _ _) | (with_reducible exact Box2.new1 _ _ _ _ _) | (with_reducible exact Box2.new2 _ _ _ _ _ _) | (with_reducible refine Box2.alloc ?_ _))); obtain ⟨c0x2x1, c1x2x1, f0x2x1, f1x2x1, zx2x1⟩ := id x2x1)
              (have x2x2 : Box2 w2 (w.heap.size + 1 + 1) (.int .i64 c1) (.int .i64 c2) := Box2.keep (by assumption) (by repeat' (first | (with_reducible assumption) | (with_reducible refine Box2.drewN ?_ _) | (with_reducible refine Box2.drew ?_) | (with_reducible exact Box2.new _ _ _ _) | (with_reducible exact Box2.new1 _ _ _ _ _) | (with_reducible exact Box2.new2 _ _ _ _ _ _) | (with_reducible refine Box2.alloc ?_ _))); obtain ⟨c0x2x2, c1x2x2, f0x2x2, f1x2x2, zx2x2⟩ := id x2x2)
              clear x1x0 c0x1x0 c1x1x0 f0x1x0 f1x1x0 x1x1 c0x1x1 c1x1x1 f0x1x1 f1x1x1 x1x2 c0x1x2 c1x1x2 f0x1x2 f1x1x2
              go_wp2_with fail
              refine (ncompare_any b1 b2 a1 a2 (-x) 0 HY.out (by omega) (by omega) (by omega) (by omega) (by omega) (by omega) (by omega) (by omega) _).mono ?_
              rintro e1 w3 ⟨rfl, hb3⟩
              (have x3x0 : Box2 w3 (w.heap.size) (.int .i64 a1) (.int .i64 a2) := Box2.keep (by assumption) (by repeat' (first | (with_reducible assumption) | (with_reducible refine Box2.drewN ?_ _) | (with_reducible refine Box2.drew ?_) | (with_reducible exact Box2.new _ _ _ _) | (with_reducible exact Box2.new1 _ _ _ _ _) | (with_reducible exact Box2.new2 _ _ _ _ _ _) | (with_reducible refine Box2.alloc ?_ _))); obtain ⟨c0x3x0, c1x3x0, f0x3x0, f1x3x0, zx3x0⟩ := id x3x0)
              (have x3x1 : Box2 w3 (w.heap.size + 1) (.int .i64 b1) (.int .i64 b2) := Box2.keep (by assumption) (by repeat' (first | (with_reducible assumption) | (with_reducible refine Box2.drewN ?_ _) | (with_reducible refine Box2.drew ?_) | (with_reducible exact Box2.new _ _ _ _) | (with_reducible exact Box2.new1 _ _ _ _ _) | (with_reducible exact Box2.new2 _ _ _ _ _ _) | (with_reducible refine Box2.alloc ?_ _))); obtain ⟨c0x3x1, c1x3x1, f0x3x1, f1x3x1, zx3x1⟩ := id x3x1)
              (have x3x2 : Box2 w3 (w.heap.size + 1 + 1) (.int .i64 c1) (.int .i64 c2) := Box2.keep (by assumption) (by repeat' (first | (with_reducible assumption) | (with_reducible refine Box2.drewN ?_ _) | (with_reducible refine Box2.drew ?_) | (with_reducible exact Box2.new _ _ _ _) | (with_reducible exact Box2.new1 _ _ _ _ _) | (with_reducible exact Box2.new2 _ _ _ _ _ _) | (with_reducible refine Box2.alloc ?_ _))); obtain ⟨c0x3x2, c1x3x2, f0x3x2, f1x3x2, zx3x2⟩ := id x3x2)
              clear x2x0 c0x2x0 c1x2x0 f0x2x0 f1x2x0 x2x1 c0x2x1 c1x2x1 f0x2x1 f1x2x1 x2x2 c0x2x2 c1x2x2 f0x2x2 f1x2x2
              go_wp2_with fail
              refine (ncompare_any b1 b2 c1 c2 u _ HU.out (by omega) (by omega) (by omega) (by omega) (by omega) (by omega) (by omega) (by omega) _).mono ?_
              rintro e1 w4 ⟨rfl, hb4⟩
              (have x4x0 : Box2 w4 (w.heap.size) (.int .i64 a1) (.int .i64 a2) := Box2.keep (by assumption) (by repeat' (first | (with_reducible assumption) | (with_reducible refine Box2.drewN ?_ _) | (with_reducible refine Box2.drew ?_) | (with_reducible exact Box2.new _ _ _ _) | (with_reducible exact Box2.new1 _ _ _ _ _) | (with_reducible exact Box2.new2 _ _ _ _ _ _) | (with_reducible refine Box2.alloc ?_ _))); obtain ⟨c0x4x0, c1x4x0, f0x4x0, f1x4x0, zx4x0⟩ := id x4x0)
              (have x4x1 : Box2 w4 (w.heap.size + 1) (.int .i64 b1) (.int .i64 b2) := Box2.keep (by assumption) (by repeat' (first | (with_reducible assumption) | (with_reducible refine Box2.drewN ?_ _) | (with_reducible refine Box2.drew ?_) | (with_reducible exact Box2.new _ _ _ _) | (with_reducible exact Box2.new1 _ _ _ _ _) | (with_reducible exact Box2.new2 _ _ _ _ _ _) | (with_reducible refine Box2.alloc ?_ _))); obtain ⟨c0x4x1, c1x4x1, f0x4x1, f1x4x1, zx4x1⟩ := id x4x1)
              (have x4x2 : Box2 w4 (w.heap.size + 1 + 1) (.int .i64 c1) (.int .i64 c2) := Box2.keep (by assumption) (by repeat' (first | (with_reducible assumption) | (with_reducible refine Box2.drewN ?_ _) | (with_reducible refine Box2.drew ?_) | (with_reducible exact Box2.new _ _ _ _) | (with_reducible exact Box2.new1 _ _ _ _ _) | (with_reducible exact Box2.new2 _ _ _ _ _ _) | (with_reducible refine Box2.alloc ?_ _))); obtain ⟨c0x4x2, c1x4x2, f0x4x2, f1x4x2, zx4x2⟩ := id x4x2)
              clear x3x0 c0x3x0 c1x3x0 f0x3x0 f1x3x0 x3x1 c0x3x1 c1x3x1 f0x3x1 f1x3x1 x3x2 c0x3x2 c1x3x2 f0x3x2 f1x3x2
              go_wp2_with fail
              refine (ncompare_any a1 a2 c1 c2 v _ HV.out (by omega) (by omega) (by omega) (by omega) (by omega) (by omega) (by omega) (by omega) _).mono ?_
              rintro e1 w5 ⟨rfl, hb5⟩
              (have x5x0 : Box2 w5 (w.heap.size) (.int .i64 a1) (.int .i64 a2) := Box2.keep (by assumption) (by repeat' (first | (with_reducible assumption) | (with_reducible refine Box2.drewN ?_ _) | (with_reducible refine Box2.drew ?_) | (with_reducible exact Box2.new _ _ _ _) | (with_reducible exact Box2.new1 _ _ _ _ _) | (with_reducible exact Box2.new2 _ _ _ _ _ _) | (with_reducible refine Box2.alloc ?_ _))); obtain ⟨c0x5x0, c1x5x0, f0x5x0, f1x5x0, zx5x0⟩ := id x5x0)
              (have x5x1 : Box2 w5 (w.heap.size + 1) (.int .i64 b1) (.int .i64 b2) := Box2.keep (by assumption) (by repeat' (first | (with_reducible assumption) | (with_reducible refine Box2.drewN ?_ _) | (with_reducible refine Box2.drew ?_) | (with_reducible exact Box2.new _ _ _ _) | (with_reducible exact Box2.new1 _ _ _ _ _) | (with_reducible exact Box2.new2 _ _ _ _ _ _) | (with_reducible refine Box2.alloc ?_ _))); obtain ⟨c0x5x1, c1x5x1, f0x5x1, f1x5x1, zx5x1⟩ := id x5x1)
              (have x5x2 : Box2 w5 (w.heap.size + 1 + 1) (.int .i64 c1) (.int .i64 c2) := Box2.keep (by assumption) (by repeat' (first | (with_reducible assumption) | (with_reducible refine Box2.drewN ?_ _) | (with_reducible refine Box2.drew ?_) | (with_reducible exact Box2.new _ _ _ _) | (with_reducible exact Box2.new1 _ _ _ _ _) | (with_reducible exact Box2.new2 _ _ _ _ _ _) | (with_reducible refine Box2.alloc ?_ _))); obtain ⟨c0x5x2, c1x5x2, f0x5x2, f1x5x2, zx5x2⟩ := id x5x2)
              clear x4x0 c0x4x0 c1x4x0 f0x4x0 f1x4x0 x4x1 c0x4x1 c1x4x1 f0x4x1 f1x4x1 x4x2 c0x4x2 c1x4x2 f0x4x2 f1x4x2
              go_wp2_with fail
              refine (sub_any a1 a2 b1 b2 p q _ HP.out (by omega) (by omega) (by omega) (by omega) (by omega) (by omega) (by omega) (by omega) _).mono ?_
              rintro e1 w6 ⟨rfl, hb6⟩
              (have x6x0 : Box2 w6 (w.heap.size) (.int .i64 a1) (.int .i64 a2) := Box2.keep (by assumption) (by repeat' (first | (with_reducible assumption) | (with_reducible refine Box2.drewN ?_ _) | (with_reducible refine Box2.drew ?_) | (with_reducible exact Box2.new _ _ _ _) | (with_reducible exact Box2.new1 _ _ _ _ _) | (with_reducible exact Box2.new2 _ _ _ _ _ _) | (with_reducible refine Box2.alloc ?_ _))); obtain ⟨c0x6x0, c1x6x0, f0x6x0, f1x6x0, zx6x0⟩ := id x6x0)
              (have x6x1 : Box2 w6 (w.heap.size + 1) (.int .i64 b1) (.int .i64 b2) := Box2.keep (by assumption) (by repeat' (first | (with_reducible assumption) | (with_reducible refine Box2.drewN ?_ _) | (with_reducible refine Box2.drew ?_) | (with_reducible exact Box2.new _ _ _ _) | (with_reducible exact Box2.new1 _ _ _ _ _) | (with_reducible exact Box2.new2 _ _ _ _ _ _) | (with_reducible refine Box2.alloc ?_ _))); obtain ⟨c0x6x1, c1x6x1, f0x6x1, f1x6x1, zx6x1⟩ := id x6x1)
              (have x6x2 : Box2 w6 (w.heap.size + 1 + 1) (.int .i64 c1) (.int .i64 c2) := Box2.keep (by assumption) (by repeat' (first | (with_reducible assumption) | (with_reducible refine Box2.drewN ?_ _) | (with_reducible refine Box2.drew ?_) | (with_reducible exact Box2.new _ _ _ _) | (with_reducible exact Box2.new1 _ _ _ _ _) | (with_reducible exact Box2.new2 _ _ _ _ _ _) | (with_reducible refine Box2.alloc ?_ _))); obtain ⟨c0x6x2, c1x6x2, f0x6x2, f1x6x2, zx6x2⟩ := id x6x2)
              clear x5x0 c0x5x0 c1x5x0 f0x5x0 f1x5x0 x5x1 c0x5x1 c1x5x1 f0x5x1 f1x5x1 x5x2 c0x5x2 c1x5x2 f0x5x2 f1x5x2
              go_wp2_with (go_at_call 20; refine (known_any _).mono ?_; rintro e' w7 ⟨rfl, hb7⟩)
              go_ret
              exact ⟨rfl, (by repeat' (first | (with_reducible exact Below.refl _ _) | (with_reducible assumption) | (with_reducible refine below_drewN ?_ _) | (with_reducible refine below_step (by assumption) ?_ ?_) | (with_reducible refine Below.alloc ?_ ?_ _) | (with_reducible refine Below.setCell ?_ ?_ _) | (with_reducible refine Below.drew ?_) | go_size | (exact Below.size (by assumption)) | (refine Nat.le_trans (Below.size (by assumption)) ?_)))⟩
            · have u0' : decide (0 < u) = false := decide_eq_false u0
              have v0' : decide (v ≤ 0) = true := decide_eq_true (hvv (by omega) (by omega))
              clear hvv
              go_enter Tryd.func10, Tryd.ntmps10
              go_wp2_with fail
              refine (ncompare_any a1 a2 b1 b2 x _ HX.out (by omega) (by omega) (by omega) (by omega) (by omega) (by omega) (by omega) (by omega) _).mono ?_
              rintro e1 w1 ⟨rfl, hb1⟩
              (have x1x0 : Box2 w1 (w.heap.size) (.int .i64 a1) (.int .i64 a2) := Box2.keep (by assumption) (by repeat' (first | (with_reducible assumption) | (with_reducible refine Box2.drewN ?_ _) | (with_reducible refine Box2.drew ?_) | (with_reducible exact Box2.new _ _ _ _) | (with_reducible exact Box2.new1 _ _ _ _ _) | (with_reducible exact Box2.new2 _ _ _ _ _ _) | (with_reducible refine Box2.alloc ?_ _))); obtain ⟨c0x1x0, c1x1x0, f0x1x0, f1x1x0, zx1x0⟩ := id x1x0)
              (have x1x1 : Box2 w1 (w.heap.size + 1) (.int .i64 b1) (.int .i64 b2) := Box2.keep (by assumption) (by repeat' (first | (with_reducible assumption) | (with_reducible refine Box2.drewN ?_ _) | (with_reducible refine Box2.drew ?_) | (with_reducible exact Box2.new _ _ _ _) | (with_reducible exact Box2.new1 _ _ _ _ _) | (with_reducible exact Box2.new2 _ _ _ _ _ _) | (with_reducible refine Box2.alloc ?_ _))); obtain ⟨c0x1x1, c1x1x1, f0x1x1, f1x1x1, zx1x1⟩ := id x1x1)
              (have x1x2 : Box2 w1 (w.heap.size + 1 + 1) (.int .i64 c1) (.int .i64 c2) := Box2.keep (by assumption) (by repeat' (first | (with_reducible assumption) | (with_reducible refine Box2.drewN ?_ _) | (with_reducible refine Box2.drew ?_) | (with_reducible exact Box2.new _ _ _ _) | (with_reducible exact Box2.new1 _ _ _ _ _) | (with_reducible exact Box2.new2 _ _ _ _ _ _) | (with_reducible refine Box2.alloc ?_ _))); obtain ⟨c0x1x2, c1x1x2, f0x1x2, f1x1x2, zx1x2⟩ := id x1x2)
              go_wp2_with fail
              refine (rcompare_any a1 a2 b1 b2 x _ HX.out (by omega) (by omega) (by omega) (by omega) (by omega) (by omega) (by omega) (by omega) _).mono ?_
              rintro e1 w2 ⟨rfl, hb2⟩
              (have x2x0 : Box2 w2 (w.heap.size) (.int .i64 a1) (.int .i64 a2) := Box2.keep (by assumption) (by repeat' (first | (with_reducible assumption) | (with_reducible refine Box2.drewN ?_ _) | (with_reducible refine Box2.drew ?_) | (with_reducible exact Box2.new _ _ _ _) | (with_reducible exact Box2.new1 _ _ _ _ _) | (with_reducible exact Box2.new2 _ _ _ _ _ _) | (with_reducible refine Box2.alloc ?_ _))); obtain ⟨c0x2x0, c1x2x0, f0x2x0, f1x2x0, zx2x0⟩ := id x2x0)
              (have x2x1 : Box2 w2 (w.heap.size + 1) (.int .i64 b1) (.int .i64 b2) := Box2.keep (by assumption) (by repeat' (first | (with_reducible assumption) | (with_reducible refine Box2.drewN ?_ _) | (with_reducible refine Box2.drew ?_) | (with_reducible exact Box2.new _ _ _ _) | (with_reducible exact Box2.new1 _ _ _ _ _) | (with_reducible exact Box2.new2 _ _ _ _ _ _) | (with_reducible refine Box2.alloc ?_ _))); obtain ⟨c0x2x1, c1x2x1, f0x2x1, f1x2x1, zx2x1⟩ := id x2x1)
              (have x2x2 : Box2 w2 (w.heap.size + 1 + 1) (.int .i64 c1) (.int .i64 c2) := Box2.keep (by assumption) (by repeat' (first | (with_reducible assumption) | (with_reducible refine Box2.drewN ?_ _) | (with_reducible refine Box2.drew ?_) | (with_reducible exact Box2.new _ _ _ _) | (with_reducible exact Box2.new1 _ _ _ _ _) | (with_reducible exact Box2.new2 _ _ _ _ _ _) | (with_reducible refine Box2.alloc ?_ _))); obtain ⟨c0x2x2, c1x2x2, f0x2x2, f1x2x2, zx2x2⟩ := id x2x2)
              clear x1x0 c0x1x0 c1x1x0 f0x1x0 f1x1x0 x1x1 c0x1x1 c1x1x1 f0x1x1 f1x1x1 x1x2 c0x1x2 c1x1x2 f0x1x2 f1x1x2
              go_wp2_with fail
              refine (ncompare_any b1 b2 a1 a2 (-x) 0 HY.out (by omega) (by omega) (by omega) (by omega) (by omega) (by omega) (by omega) (by omega) _).mono ?_
              rintro e1 w3 ⟨rfl, hb3⟩
              (have x3x0 : Box2 w3 (w.heap.size) (.int .i64 a1) (.int .i64 a2) := Box2.keep (by assumption) (by repeat' (first | (with_reducible assumption) | (with_reducible refine Box2.drewN ?_ _) | (with_reducible refine Box2.drew ?_) | (with_reducible exact Box2.new _ _ _ _) | (with_reducible exact Box2.new1 _ _ _ _ _) | (with_reducible exact Box2.new2 _ _ _ _ _ _) | (with_reducible refine Box2.alloc ?_ _))); obtain ⟨c0x3x0, c1x3x0, f0x3x0, f1x3x0, zx3x0⟩ := id x3x0)
              (have x3x1 : Box2 w3 (w.heap.size + 1) (.int .i64 b1) (.int .i64 b2) := Box2.keep (by assumption) (by repeat' (first | (with_reducible assumption) | (with_reducible refine Box2.drewN ?_ _) | (with_reducible refine Box2.drew ?_) | (with_reducible exact Box2.new _ _ _ _) | (with_reducible exact Box2.new1 _ _ _ _ _) | (with_reducible exact Box2.new2 _ _ _ _ _ _) | (with_reducible refine Box2.alloc ?_ _))); obtain ⟨c0x3x1, c1x3x1, f0x3x1, f1x3x1, zx3x1⟩ := id x3x1)
              (have x3x2 : Box2 w3 (w.heap.size + 1 + 1) (.int .i64 c1) (.int .i64 c2) := Box2.keep (by assumption) (by repeat' (first | (with_reducible assumption) | (with_reducible refine Box2.drewN ?_ _) | (with_reducible refine Box2.drew ?_) | (with_reducible exact Box2.new _ _ _ _) | (with_reducible exact Box2.new1 _ _ _ _ _) | (with_reducible exact Box2.new2 _ _ _ _ _ _) | (with_reducible refine Box2.alloc ?_ _))); obtain ⟨c0x3x2, c1x3x2, f0x3x2, f1x3x2, zx3x2⟩ := id x3x2)
              clear x2x0 c0x2x0 c1x2x0 f0x2x0 f1x2x0 x2x1 c0x2x1 c1x2x1 f0x2x1 f1x2x1 x2x2 c0x2x2 c1x2x2 f0x2x2 f1x2x2
              go_wp2_with fail
              refine (ncompare_any b1 b2 c1 c2 u _ HU.out (by omega) (by omega) (by omega) (by omega) (by omega) (by omega) (by omega) (by omega) _).mono ?_
              rintro e1 w4 ⟨rfl, hb4⟩
              (have x4x0 : Box2 w4 (w.heap.size) (.int .i64 a1) (.int .i64 a2) := Box2.keep (by assumption) (by repeat' (first | (with_reducible assumption) | (with_reducible refine Box2.drewN ?_ _) | (with_reducible refine Box2.drew ?_) | (with_reducible exact Box2.new _ _ _ _) | (with_reducible exact Box2.new1 _ _ _ _ _) | (with_reducible exact Box2.new2 _ _ _ _ _ _) | (with_reducible refine Box2.alloc ?_ _))); obtain ⟨c0x4x0, c1x4x0, f0x4x0, f1x4x0, zx4x0⟩ := id x4x0)
              (have x4x1 : Box2 w4 (w.heap.size + 1) (.int .i64 b1) (.int .i64 b2) := Box2.keep (by assumption) (by repeat' (first | (with_reducible assumption) | (with_reducible refine Box2.drewN ?_ _) | (with_reducible refine Box2.drew ?_) | (with_reducible exact Box2.new _ _ _ _) | (with_reducible exact Box2.new1 _ _ _ _ _) | (with_reducible exact Box2.new2 _ _ _ _ _ _) | (with_reducible refine Box2.alloc ?_ _))); obtain ⟨c0x4x1, c1x4x1, f0x4x1, f1x4x1, zx4x1⟩ := id x4x1)
              (have x4x2 : Box2 w4 (w.heap.size + 1 + 1) (.int .i64 c1) (.int .i64 c2) := Box2.keep (by assumption) (by repeat' (first | (with_reducible assumption) | (with_reducible refine Box2.drewN ?_ _) | (with_reducible refine Box2.drew ?_) | (with_reducible exact Box2.new _ _ _ _) | (with_reducible exact Box2.new1 _ _ _ _ _) | (with_reducible exact Box2.new2 _ _ _ _ _ _) | (with_reducible refine Box2.alloc ?_ _))); obtain ⟨c0x4x2, c1x4x2, f0x4x2, f1x4x2, zx4x2⟩ := id x4x2)
              clear x3x0 c0x3x0 c1x3x0 f0x3x0 f1x3x0 x3x1 c0x3x1 c1x3x1 f0x3x1 f1x3x1 x3x2 c0x3x2 c1x3x2 f0x3x2 f1x3x2
              go_wp2_with fail
              refine (ncompare_any a1 a2 c1 c2 v _ HV.out (by omega) (by omega) (by omega) (by omega) (by omega) (by omega) (by omega) (by omega) _).mono ?_
              rintro e1 w5 ⟨rfl, hb5⟩
              (have x5x0 : Box2 w5 (w.heap.size) (.int .i64 a1) (.int .i64 a2) := Box2.keep (by assumption) (by repeat' (first | (with_reducible assumption) | (with_reducible refine Box2.drewN ?_ _) | (with_reducible refine Box2.drew ?_) | (with_reducible exact Box2.new _ _ _ _) | (with_reducible exact Box2.new1 _ _ _ _ _) | (with_reducible exact Box2.new2 _ _ _ _ _ _) | (with_reducible refine Box2.alloc ?_ _))); obtain ⟨c0x5x0, c1x5x0, f0x5x0, f1x5x0, zx5x0⟩ := id x5x0)
              (have x5x1 : Box2 w5 (w.heap.size + 1) (.int .i64 b1) (.int .i64 b2) := Box2.keep (by assumption) (by repeat' (first | (with_reducible assumption) | (with_reducible refine Box2.drewN ?_ _) | (with_reducible refine Box2.drew ?_) | (with_reducible exact Box2.new _ _ _ _) | (with_reducible exact Box2.new1 _ _ _ _ _) | (with_reducible exact Box2.new2 _ _ _ _ _ _) | (with_reducible refine Box2.alloc ?_ _))); obtain ⟨c0x5x1, c1x5x1, f0x5x1, f1x5x1, zx5x1⟩ := id x5x1)
              (have x5x2 : Box2 w5 (w.heap.size + 1 + 1) (.int .i64 c1) (.int .i64 c2) := Box2.keep (by assumption) (by repeat' (first | (with_reducible assumption) | (with_reducible refine Box2.drewN ?_ _) | (with_reducible refine Box2.drew ?_) | (with_reducible exact Box2.new _ _ _ _) | (with_reducible exact Box2.new1 _ _ _ _ _) | (with_reducible exact Box2.new2 _ _ _ _ _ _) | (with_reducible refine Box2.alloc ?_ _))); obtain ⟨c0x5x2, c1x5x2, f0x5x2, f1x5x2, zx5x2⟩ := id x5x2)
              clear x4x0 c0x4x0 c1x4x0 f0x4x0 f1x4x0 x4x1 c0x4x1 c1x4x1 f0x4x1 f1x4x1 x4x2 c0x4x2 c1x4x2 f0x4x2 f1x4x2
              go_wp2_with fail
              refine (sub_any a1 a2 b1 b2 p q _ HP.out (by omega) (by omega) (by omega) (by omega) (by omega) (by omega) (by omega) (by omega) _).mono ?_
              rintro e1 w6 ⟨rfl, hb6⟩
              (have x6x0 : Box2 w6 (w.heap.size) (.int .i64 a1) (.int .i64 a2) := Box2.keep (by assumption) (by repeat' (first | (with_reducible assumption) | (with_reducible refine Box2.drewN ?_ _) | (with_reducible refine Box2.drew ?_) | (with_reducible exact Box2.new _ _ _ _) | (with_reducible exact Box2.new1 _ _ _ _ _) | (with_reducible exact Box2.new2 _ _ _ _ _ _) | (with_reducible refine Box2.alloc ?_ _))); obtain ⟨c0x6x0, c1x6x0, f0x6x0, f1x6x0, zx6x0⟩ := id x6x0)
              (have x6x1 : Box2 w6 (w.heap.size + 1) (.int .i64 b1) (.int .i64 b2) := Box2.keep (by assumption) (by repeat' (first | (with_reducible assumption) | (with_reducible refine Box2.drewN ?_ _) | (with_reducible refine Box2.drew ?_) | (with_reducible exact Box2.new _ _ _ _) | (with_reducible exact Box2.new1 _ _ _ _ _) | (with_reducible exact Box2.new2 _ _ _ _ _ _) | (with_reducible refine Box2.alloc ?_ _))); obtain ⟨c0x6x1, c1x6x1, f0x6x1, f1x6x1, zx6x1⟩ := id x6x1)
              (have x6x2 : Box2 w6 (w.heap.size + 1 + 1) (.int .i64 c1) (.int .i64 c2) := Box2.keep (by assumption) (by repeat' (first | (with_reducible assumption) | (with_reducible refine Box2.drewN ?_ _) | (with_reducible refine Box2.drew ?_) | (with_reducible exact Box2.new _ _ _ _) | (with_reducible exact Box2.new1 _ _ _ _ _) | (with_reducible exact Box2.new2 _ _ _ _ _ _) | (with_reducible refine Box2.alloc ?_ _))); obtain ⟨c0x6x2, c1x6x2, f0x6x2, f1x6x2, zx6x2⟩ := id x6x2)
              clear x5x0 c0x5x0 c1x5x0 f0x5x0 f1x5x0 x5x1 c0x5x1 c1x5x1 f0x5x1 f1x5x1 x5x2 c0x5x2 c1x5x2 f0x5x2 f1x5x2
              go_wp2_with (go_at_call 20; refine (known_any _).mono ?_; rintro e' w7 ⟨rfl, hb7⟩)
              go_ret
              exact ⟨rfl, (by repeat' (first | (with_reducible exact Below.refl _ _) | (with_reducible assumption) | (with_reducible refine below_drewN ?_ _) | (with_reducible refine below_step (by assumption) ?_ ?_) | (with_reducible refine Below.alloc ?_ ?_ _) | (with_reducible refine Below.setCell ?_ ?_ _) | (with_reducible refine Below.drew ?_) | go_size | (exact Below.size (by assumption)) | (refine Nat.le_trans (Below.size (by assumption)) ?_)))⟩
      · have nh' : (h != 0) = true := by rw [bne_iff_ne]; exact nh
        clear htr hsg nh
        go_enter Tryd.func10, Tryd.ntmps10
        go_wp2_with fail
        refine (ncompare_any a1 a2 b1 b2 x _ HX.out (by omega) (by omega) (by omega) (by omega) (by omega) (by omega) (by omega) (by omega) _).mono ?_
        rintro e1 w1 ⟨rfl, hb1⟩
        (have x1x0 : Box2 w1 (w.heap.size) (.int .i64 a1) (.int .i64 a2) := Box2.keep (by assumption) (by repeat' (first | (with_reducible assumption) | (with_reducible refine Box2.drewN ?_ _) | (with_reducible refine Box2.drew ?_) | (with_reducible exact Box2.new _ _ _ _) | (with_reducible exact Box2.new1 _ _ _ _ _) | (with_reducible exact Box2.new2 _ _ _ _ _ _) | (with_reducible refine Box2.alloc ?_ _))); obtain ⟨c0x1x0, c1x1x0, f0x1x0, f1x1x0, zx1x0⟩ := id x1x0)
        (have x1x1 : Box2 w1 (w.heap.size + 1) (.int .i64 b1) (.int .i64 b2) := Box2.keep (by assumption) (by repeat' (first | (with_reducible assumption) | (with_reducible refine Box2.drewN ?_ _) | (with_reducible refine Box2.drew ?_) | (with_reducible exact Box2.new _ _ _ _) | (with_reducible exact Box2.new1 _ _ _ _ _) | (with_reducible exact Box2.new2 _ _ _ _ _ _) | (with_reducible refine Box2.alloc ?_ _))); obtain ⟨c0x1x1, c1x1x1, f0x1x1, f1x1x1, zx1x1⟩ := id x1x1)
        (have x1x2 : Box2 w1 (w.heap.size + 1 + 1) (.int .i64 c1) (.int .i64 c2) := Box2.keep (by assumption) (by repeat' (first | (with_reducible assumption) | (with_reducible refine Box2.drewN ?_ _) | (with_reducible refine Box2.drew ?_) | (with_reducible exact Box2.new _ _ _ _) | (with_reducible exact Box2.new1 _ _ _ _ _) | (with_reducible exact Box2.new2 _ _ _ _ _ _) | (with_reducible refine Box2.alloc ?_ _))); obtain ⟨c0x1x2, c1x1x2, f0x1x2, f1x1x2, zx1x2⟩ := id x1x2)
        go_wp2_with fail
        refine (rcompare_any a1 a2 b1 b2 x _ HX.out (by omega) (by omega) (by omega) (by omega) (by omega) (by omega) (by omega) (by omega) _).mono ?_
        rintro e1 w2 ⟨rfl, hb2⟩
        (have x2x0 : Box2 w2 (w.heap.size) (.int .i64 a1) (.int .i64 a2) := Box2.keep (by assumption) (by repeat' (first | (with_reducible assumption) | (with_reducible refine Box2.drewN ?_ _) | (with_reducible refine Box2.drew ?_) | (with_reducible exact Box2.new _ _ _ _) | (with_reducible exact Box2.new1 _ _ _ _ _) | (with_reducible exact Box2.new2 _ _ _ _ _ _) | (with_reducible refine Box2.alloc ?_ _))); obtain ⟨c0x2x0, c1x2x0, f0x2x0, f1x2x0, zx2x0⟩ := id x2x0)
        (have x2x1 : Box2 w2 (w.heap.size + 1) (.int .i64 b1) (.int .i64 b2) := Box2.keep (by assumption) (by repeat' (first | (with_reducible assumption) | (with_reducible refine Box2.drewN ?_ _) | (with_reducible refine Box2.drew ?_) | (with_reducible exact Box2.new _ _ _ _) | (with_reducible exact Box2.new1 _ _ _ _ _) | (with_reducible exact Box2.new2 _ _ _ _ _ _) | (with_reducible refine Box2.alloc ?_ _))); obtain ⟨c0x2x1, c1x2x1, f0x2x1, f1x2x1, zx2x1⟩ := id x2x1)
        (have x2x2 : Box2 w2 (w.heap.size + 1 + 1) (.int .i64 c1) (.int .i64 c2) := Box2.keep (by assumption) (by repeat' (first | (with_reducible assumption) | (with_reducible refine Box2.drewN ?_ _) | (with_reducible refine Box2.drew ?_) | (with_reducible exact Box2.new _ _ _ _) | (with_reducible exact Box2.new1 _ _ _ _ _) | (with_reducible exact Box2.new2 _ _ _ _ _ _) | (with_reducible refine Box2.alloc ?_ _))); obtain ⟨c0x2x2, c1x2x2, f0x2x2, f1x2x2, zx2x2⟩ := id x2x2)
        clear x1x0 c0x1x0 c1x1x0 f0x1x0 f1x1x0 x1x1 c0x1x1 c1x1x1 f0x1x1 f1x1x1 x1x2 c0x1x2 c1x1x2 f0x1x2 f1x1x2
        go_wp2_with fail
        refine (ncompare_any b1 b2 a1 a2 (-x) 0 HY.out (by omega) (by omega) (by omega) (by omega) (by omega) (by omega) (by omega) (by omega) _).mono ?_
        rintro e1 w3 ⟨rfl, hb3⟩
        (have x3x0 : Box2 w3 (w.heap.size) (.int .i64 a1) (.int .i64 a2) := Box2.keep (by assumption) (by repeat' (first | (with_reducible assumption) | (with_reducible refine Box2.drewN ?_ _) | (with_reducible refine Box2.drew ?_) | (with_reducible exact Box2.new _ _ _ _) | (with_reducible exact Box2.new1 _ _ _ _ _) | (with_reducible exact Box2.new2 _ _ _ _ _ _) | (with_reducible refine Box2.alloc ?_ _))); obtain ⟨c0x3x0, c1x3x0, f0x3x0, f1x3x0, zx3x0⟩ := id x3x0)
        (have x3x1 : Box2 w3 (w.heap.size + 1) (.int .i64 b1) (.int .i64 b2) := Box2.keep (by assumption) (by repeat' (first | (with_reducible assumption) | (with_reducible refine Box2.drewN ?_ _) | (with_reducible refine Box2.drew ?_) | (with_reducible exact Box2.new _ _ _ _) | (with_reducible exact Box2.new1 _ _ _ _ _) | (with_reducible exact Box2.new2 _ _ _ _ _ _) | (with_reducible refine Box2.alloc ?_ _))); obtain ⟨c0x3x1, c1x3x1, f0x3x1, f1x3x1, zx3x1⟩ := id x3x1)
        (have x3x2 : Box2 w3 (w.heap.size + 1 + 1) (.int .i64 c1) (.int .i64 c2) := Box2.keep (by assumption) (by repeat' (first | (with_reducible assumption) | (with_reducible refine Box2.drewN ?_ _) | (with_reducible refine Box2.drew ?_) | (with_reducible exact Box2.new _ _ _ _) | (with_reducible exact Box2.new1 _ _ _ _ _) | (with_reducible exact Box2.new2 _ _ _ _ _ _) | (with_reducible refine Box2.alloc ?_ _))); obtain ⟨c0x3x2, c1x3x2, f0x3x2, f1x3x2, zx3x2⟩ := id x3x2)
        clear x2x0 c0x2x0 c1x2x0 f0x2x0 f1x2x0 x2x1 c0x2x1 c1x2x1 f0x2x1 f1x2x1 x2x2 c0x2x2 c1x2x2 f0x2x2 f1x2x2
        go_wp2_with fail
        refine (ncompare_any b1 b2 c1 c2 u _ HU.out (by omega) (by omega) (by omega) (by omega) (by omega) (by omega) (by omega) (by omega) _).mono ?_
        rintro e1 w4 ⟨rfl, hb4⟩
        (have x4x0 : Box2 w4 (w.heap.size) (.int .i64 a1) (.int .i64 a2) := Box2.keep (by assumption) (by repeat' (first | (with_reducible assumption) | (with_reducible refine Box2.drewN ?_ _) | (with_reducible refine Box2.drew ?_) | (with_reducible exact Box2.new _ _ _ _) | (with_reducible exact Box2.new1 _ _ _ _ _) | (with_reducible exact Box2.new2 _ _ _ _ _ _) | (with_reducible refine Box2.alloc ?_ _))); obtain ⟨c0x4x0, c1x4x0, f0x4x0, f1x4x0, zx4x0⟩ := id x4x0)
        (have x4x1 : Box2 w4 (w.heap.size + 1) (.int .i64 b1) (.int .i64 b2) := Box2.keep (by assumption) (by repeat' (first | (with_reducible assumption) | (with_reducible refine Box2.drewN ?_ _) | (with_reducible refine Box2.drew ?_) | (with_reducible exact Box2.new _ _ _ _) | (with_reducible exact Box2.new1 _ _ _ _ _) | (with_reducible exact Box2.new2 _ _ _ _ _ _) | (with_reducible refine Box2.alloc ?_ _))); obtain ⟨c0x4x1, c1x4x1, f0x4x1, f1x4x1, zx4x1⟩ := id x4x1)
        (have x4x2 : Box2 w4 (w.heap.size + 1 + 1) (.int .i64 c1) (.int .i64 c2) := Box2.keep (by assumption) (by repeat' (first | (with_reducible assumption) | (with_reducible refine Box2.drewN ?_ _) | (with_reducible refine Box2.drew ?_) | (with_reducible exact Box2.new _ _ _ _) | (with_reducible exact Box2.new1 _ _ _ _ _) | (with_reducible exact Box2.new2 _ _ _ _ _ _) | (with_reducible refine Box2.alloc ?_ _))); obtain ⟨c0x4x2, c1x4x2, f0x4x2, f1x4x2, zx4x2⟩ := id x4x2)
        clear x3x0 c0x3x0 c1x3x0 f0x3x0 f1x3x0 x3x1 c0x3x1 c1x3x1 f0x3x1 f1x3x1 x3x2 c0x3x2 c1x3x2 f0x3x2 f1x3x2
        go_wp2_with fail
        refine (ncompare_any a1 a2 c1 c2 v _ HV.out (by omega) (by omega) (by omega) (by omega) (by omega) (by omega) (by omega) (by omega) _).mono ?_
        rintro e1 w5 ⟨rfl, hb5⟩
        (have x5x0 : Box2 w5 (w.heap.size) (.int .i64 a1) (.int .i64 a2) := Box2.keep (by assumption) (by repeat' (first | (with_reducible assumption) | (with_reducible refine Box2.drewN ?_ _) | (with_reducible refine Box2.drew ?_) | (with_reducible exact Box2.new _ _ _ _) | (with_reducible exact Box2.new1 _ _ _ _ _) | (with_reducible exact Box2.new2 _ _ _ _ _ _) | (with_reducible refine Box2.alloc ?_ _))); obtain ⟨c0x5x0, c1x5x0, f0x5x0, f1x5x0, zx5x0⟩ := id x5x0)
        (have x5x1 : Box2 w5 (w.heap.size + 1) (.int .i64 b1) (.int .i64 b2) := Box2.keep (by assumption) (by repeat' (first | (with_reducible assumption) | (with_reducible refine Box2.drewN ?_ _) | (with_reducible refine Box2.drew ?_) | (with_reducible exact Box2.new _ _ _ _) | (with_reducible exact Box2.new1 _ _ _ _ _) | (with_reducible exact Box2.new2 _ _ _ _ _ _) | (with_reducible refine Box2.alloc ?_ _))); obtain ⟨c0x5x1, c1x5x1, f0x5x1, f1x5x1, zx5x1⟩ := id x5x1)
        (have x5x2 : Box2 w5 (w.heap.size + 1 + 1) (.int .i64 c1) (.int .i64 c2) := Box2.keep (by assumption) (by repeat' (first | (with_reducible assumption) | (with_reducible refine Box2.drewN ?_ _) | (with_reducible refine Box2.drew ?_) | (with_reducible exact Box2.new _ _ _ _) | (with_reducible exact Box2.new1 _ _ _ _ _) | (with_reducible exact Box2.new2 _ _ _ _ _ _) | (with_reducible refine Box2.alloc ?_ _))); obtain ⟨c0x5x2, c1x5x2, f0x5x2, f1x5x2, zx5x2⟩ := id x5x2)
        clear x4x0 c0x4x0 c1x4x0 f0x4x0 f1x4x0 x4x1 c0x4x1 c1x4x1 f0x4x1 f1x4x1 x4x2 c0x4x2 c1x4x2 f0x4x2 f1x4x2
        go_wp2_with fail
        refine (sub_any a1 a2 b1 b2 p q _ HP.out (by omega) (by omega) (by omega) (by omega) (by omega) (by omega) (by omega) (by omega) _).mono ?_
        rintro e1 w6 ⟨rfl, hb6⟩
        (have x6x0 : Box2 w6 (w.heap.size) (.int .i64 a1) (.int .i64 a2) := Box2.keep (by assumption) (by repeat' (first | (with_reducible assumption) | (with_reducible refine Box2.drewN ?_ _) | (with_reducible refine Box2.drew ?_) | (with_reducible exact Box2.new _ _ _ _) | (with_reducible exact Box2.new1 _ _ _ _ _) | (with_reducible exact Box2.new2 _ _ _ _ _ _) | (with_reducible refine Box2.alloc ?_ _))); obtain ⟨c0x6x0, c1x6x0, f0x6x0, f1x6x0, zx6x0⟩ := id x6x0)
        (have x6x1 : Box2 w6 (w.heap.size + 1) (.int .i64 b1) (.int .i64 b2) := Box2.keep (by assumption) (by repeat' (first | (with_reducible assumption) | (with_reducible refine Box2.drewN ?_ _) | (with_reducible refine Box2.drew ?_) | (with_reducible exact Box2.new _ _ _ _) | (with_reducible exact Box2.new1 _ _ _ _ _) | (with_reducible exact Box2.new2 _ _ _ _ _ _) | (with_reducible refine Box2.alloc ?_ _))); obtain ⟨c0x6x1, c1x6x1, f0x6x1, f1x6x1, zx6x1⟩ := id x6x1)
        (have x6x2 : Box2 w6 (w.heap.size + 1 + 1) (.int .i64 c1) (.int .i64 c2) := Box2.keep (by assumption) (by repeat' (first | (with_reducible assumption) | (with_reducible refine Box2.drewN ?_ _) | (with_reducible refine Box2.drew ?_) | (with_reducible exact Box2.new _ _ _ _) | (with_reducible exact Box2.new1 _ _ _ _ _) | (with_reducible exact Box2.new2 _ _ _ _ _ _) | (with_reducible refine Box2.alloc ?_ _))); obtain ⟨c0x6x2, c1x6x2, f0x6x2, f1x6x2, zx6x2⟩ := id x6x2)
        clear x5x0 c0x5x0 c1x5x0 f0x5x0 f1x5x0 x5x1 c0x5x1 c1x5x1 f0x5x1 f1x5x1 x5x2 c0x5x2 c1x5x2 f0x5x2 f1x5x2
        go_wp2_with (go_at_call 20; refine (known_any _).mono ?_; rintro e' w7 ⟨rfl, hb7⟩)
        go_ret
        exact ⟨rfl, (by repeat' (first | (with_reducible exact Below.refl _ _) | (with_reducible assumption) | (with_reducible refine below_drewN ?_ _) | (with_reducible refine below_step (by assumption) ?_ ?_) | (with_reducible refine Below.alloc ?_ ?_ _) | (with_reducible refine Below.setCell ?_ ?_ _) | (with_reducible refine Below.drew ?_) | go_size | (exact Below.size (by assumption)) | (refine Nat.le_trans (Below.size (by assumption)) ?_)))⟩
    · have ng' : (g != 0) = true := by rw [bne_iff_ne]; exact ng
      clear htr hsg ng
      go_enter Tryd.func10, Tryd.ntmps10
      go_wp2_with fail
      refine (ncompare_any a1 a2 b1 b2 x _ HX.out (by omega) (by omega) (by omega) (by omega) (by omega) (by omega) (by omega) (by omega) _).mono ?_
      rintro e1 w1 ⟨rfl, hb1⟩
      (have x1x0 : Box2 w1 (w.heap.size) (.int .i64 a1) (.int .i64 a2) := Box2.keep (by assumption) (by repeat' (first | (with_reducible assumption) | (with_reducible refine Box2.drewN ?_ _) | (with_reducible refine Box2.drew ?_) | (with_reducible exact Box2.new _ _ _ _) | (with_reducible exact Box2.new1 _ _ _ _ _) | (with_reducible exact Box2.new2 _ _ _ _ _ _) | (with_reducible refine Box2.alloc ?_ _))); obtain ⟨c0x1x0, c1x1x0, f0x1x0, f1x1x0, zx1x0⟩ := id x1x0)
      (have x1x1 : Box2 w1 (w.heap.size + 1) (.int .i64 b1) (.int .i64 b2) := Box2.keep (by assumption) (by repeat' (first | (with_reducible assumption) | (with_reducible refine Box2.drewN ?_ _) | (with_reducible refine Box2.drew ?_) | (with_reducible exact Box2.new _ _ _ _) | (with_reducible exact Box2.new1 _ _ _ _ _) | (with_reducible exact Box2.new2 _ _ _ _ _ _) | (with_reducible refine Box2.alloc ?_ _))); obtain ⟨c0x1x1, c1x1x1, f0x1x1, f1x1x1, zx1x1⟩ := id x1x1)
      (have x1x2 : Box2 w1 (w.heap.size + 1 + 1) (.int .i64 c1) (.int .i64 c2) := Box2.keep (by assumption) (by repeat' (first | (with_reducible assumption) | (with_reducible refine Box2.drewN ?_ _) | (with_reducible refine Box2.drew ?_) | (with_reducible exact Box2.new _ _ _ _) | (with_reducible exact Box2.new1 _ _ _ _ _) | (with_reducible exact Box2.new2 _ _ _ _ _ _) | (with_reducible refine Box2.alloc ?_ _))); obtain ⟨c0x1x2, c1x1x2, f0x1x2, f1x1x2, zx1x2⟩ := id x1x2)
      go_wp2_with fail
      refine (rcompare_any a1 a2 b1 b2 x _ HX.out (by omega) (by omega) (by omega) (by omega) (by omega) (by omega) (by omega) (by omega) _).mono ?_
      rintro e1 w2 ⟨rfl, hb2⟩
      (have x2x0 : Box2 w2 (w.heap.size) (.int .i64 a1) (.int .i64 a2) := Box2.keep (by assumption) (by repeat' (first | (with_reducible assumption) | (with_reducible refine Box2.drewN ?_ _) | (with_reducible refine Box2.drew ?_) | (with_reducible exact Box2.new _ _ _ _) | (with_reducible exact Box2.new1 _ _ _ _ _) | (with_reducible exact Box2.new2 _ _ _ _ _ _) | (with_reducible refine Box2.alloc ?_ _))); obtain ⟨c0x2x0, c1x2x0, f0x2x0, f1x2x0, zx2x0⟩ := id x2x0)
      (have x2x1 : Box2 w2 (w.heap.size + 1) (.int .i64 b1) (.int .i64 b2) := Box2.keep (by assumption) (by repeat' (first | (with_reducible assumption) | (with_reducible refine Box2.drewN ?_ _) | (with_reducible refine Box2.drew ?_) | (with_reducible exact Box2.new _ _ _ _) | (with_reducible exact Box2.new1 _ _ _ _ _) | (with_reducible exact Box2.new2 _ _ _ _ _ _) | (with_reducible refine Box2.alloc ?_ _))); obtain ⟨c0x2x1, c1x2x1, f0x2x1, f1x2x1, zx2x1⟩ := id x2x1)
      (have x2x2 : Box2 w2 (w.heap.size + 1 + 1) (.int .i64 c1) (.int .i64 c2) := Box2.keep (by assumption) (by repeat' (first | (with_reducible assumption) | (with_reducible refine Box2.drewN ?_ _) | (with_reducible refine Box2.drew ?_) | (with_reducible exact Box2.new _ _ _ _) | (with_reducible exact Box2.new1 _ _ _ _ _) | (with_reducible exact Box2.new2 _ _ _ _ _ _) | (with_reducible refine Box2.alloc ?_ _))); obtain ⟨c0x2x2, c1x2x2, f0x2x2, f1x2x2, zx2x2⟩ := id x2x2)
      clear x1x0 c0x1x0 c1x1x0 f0x1x0 f1x1x0 x1x1 c0x1x1 c1x1x1 f0x1x1 f1x1x1 x1x2 c0x1x2 c1x1x2 f0x1x2 f1x1x2
      go_wp2_with fail
      refine (ncompare_any b1 b2 a1 a2 (-x) 0 HY.out (by omega) (by omega) (by omega) (by omega) (by omega) (by omega) (by omega) (by omega) _).mono ?_
      rintro e1 w3 ⟨rfl, hb3⟩
      (have x3x0 : Box2 w3 (w.heap.size) (.int .i64 a1) (.int .i64 a2) := Box2.keep (by assumption) (by repeat' (first | (with_reducible assumption) | (with_reducible refine Box2.drewN ?_ _) | (with_reducible refine Box2.drew ?_) | (with_reducible exact Box2.new _ _ _ _) | (with_reducible exact Box2.new1 _ _ _ _ _) | (with_reducible exact Box2.new2 _ _ _ _ _ _) | (with_reducible refine Box2.alloc ?_ _))); obtain ⟨c0x3x0, c1x3x0, f0x3x0, f1x3x0, zx3x0⟩ := id x3x0)
      (have x3x1 : Box2 w3 (w.heap.size + 1) (.int .i64 b1) (.int .i64 b2) := Box2.keep (by assumption) (by repeat' (first | (with_reducible assumption) | (with_reducible refine Box2.drewN ?_ _) | (with_reducible refine Box2.drew ?_) | (with_reducible exact Box2.new _ _ _ _) | (with_reducible exact Box2.new1 _ _ _ _ _) | (with_reducible exact Box2.new2 _ _ _ _ _ _) | (with_reducible refine Box2.alloc ?_ _))); obtain ⟨c0x3x1, c1x3x1, f0x3x1, f1x3x1, zx3x1⟩ := id x3x1)
      (have x3x2 : Box2 w3 (w.heap.size + 1 + 1) (.int .i64 c1) (.int .i64 c2) := Box2.keep (by assumption) (by repeat' (first | (with_reducible assumption) | (with_reducible refine Box2.drewN ?_ _) | (with_reducible refine Box2.drew ?_) | (with_reducible exact Box2.new _ _ _ _) | (with_reducible exact Box2.new1 _ _ _ _ _) | (with_reducible exact Box2.new2 _ _ _ _ _ _) | (with_reducible refine Box2.alloc ?_ _))); obtain ⟨c0x3x2, c1x3x2, f0x3x2, f1x3x2, zx3x2⟩ := id x3x2)
      clear x2x0 c0x2x0 c1x2x0 f0x2x0 f1x2x0 x2x1 c0x2x1 c1x2x1 f0x2x1 f1x2x1 x2x2 c0x2x2 c1x2x2 f0x2x2 f1x2x2
      go_wp2_with fail
      refine (ncompare_any b1 b2 c1 c2 u _ HU.out (by omega) (by omega) (by omega) (by omega) (by omega) (by omega) (by omega) (by omega) _).mono ?_
      rintro e1 w4 ⟨rfl, hb4⟩
      (have x4x0 : Box2 w4 (w.heap.size) (.int .i64 a1) (.int .i64 a2) := Box2.keep (by assumption) (by repeat' (first | (with_reducible assumption) | (with_reducible refine Box2.drewN ?_ _) | (with_reducible refine Box2.drew ?_) | (with_reducible exact Box2.new _ _ _ _) | (with_reducible exact Box2.new1 _ _ _ _ _) | (with_reducible exact Box2.new2 _ _ _ _ _ _) | (with_reducible refine Box2.alloc ?_ _))); obtain ⟨c0x4x0, c1x4x0, f0x4x0, f1x4x0, zx4x0⟩ := id x4x0)
      (have x4x1 : Box2 w4 (w.heap.size + 1) (.int .i64 b1) (.int .i64 b2) := Box2.keep (by assumption) (by repeat' (first | (with_reducible assumption) | (with_reducible refine Box2.drewN ?_ _) | (with_reducible refine Box2.drew ?_) | (with_reducible exact Box2.new _ _ _ _) | (with_reducible exact Box2.new1 _ _ _ _ _) | (with_reducible exact Box2.new2 _ _ _ _ _ _) | (with_reducible refine Box2.alloc ?_ _))); obtain ⟨c0x4x1, c1x4x1, f0x4x1, f1x4x1, zx4x1⟩ := id x4x1)
      (have x4x2 : Box2 w4 (w.heap.size + 1 + 1) (.int .i64 c1) (.int .i64 c2) := Box2.keep (by assumption) (by repeat' (first | (with_reducible assumption) | (with_reducible refine Box2.drewN ?_ _) | (with_reducible refine Box2.drew ?_) | (with_reducible exact Box2.new _ _ _ _) | (with_reducible exact Box2.new1 _ _ _ _ _) | (with_reducible exact Box2.new2 _ _ _ _ _ _) | (with_reducible refine Box2.alloc ?_ _))); obtain ⟨c0x4x2, c1x4x2, f0x4x2, f1x4x2, zx4x2⟩ := id x4x2)
      clear x3x0 c0x3x0 c1x3x0 f0x3x0 f1x3x0 x3x1 c0x3x1 c1x3x1 f0x3x1 f1x3x1 x3x2 c0x3x2 c1x3x2 f0x3x2 f1x3x2
      go_wp2_with fail
      refine (ncompare_any a1 a2 c1 c2 v _ HV.out (by omega) (by omega) (by omega) (by omega) (by omega) (by omega) (by omega) (by omega) _).mono ?_
      rintro e1 w5 ⟨rfl, hb5⟩
      (have x5x0 : Box2 w5 (w.heap.size) (.int .i64 a1) (.int .i64 a2) := Box2.keep (by assumption) (by repeat' (first | (with_reducible assumption) | (with_reducible refine Box2.drewN ?_ _) | (with_reducible refine Box2.drew ?_) | (with_reducible exact Box2.new _ _ _ _) | (with_reducible exact Box2.new1 _ _ _ _ _) | (with_reducible exact Box2.new2 _ _ _ _ _ _) | (with_reducible refine Box2.alloc ?_ _))); obtain ⟨c0x5x0, c1x5x0, f0x5x0, f1x5x0, zx5x0⟩ := id x5x0)
      (have x5x1 : Box2 w5 (w.heap.size + 1) (.int .i64 b1) (.int .i64 b2) := Box2.keep (by assumption) (by repeat' (first | (with_reducible assumption) | (with_reducible refine Box2.drewN ?_ _) | (with_reducible refine Box2.drew ?_) | (with_reducible exact Box2.new _ _ _ _) | (with_reducible exact Box2.new1 _ _ _ _ _) | (with_reducible exact Box2.new2 _ _ _ _ _ _) | (with_reducible refine Box2.alloc ?_ _))); obtain ⟨c0x5x1, c1x5x1, f0x5x1, f1x5x1, zx5x1⟩ := id x5x1)
      (have x5x2 : Box2 w5 (w.heap.size + 1 + 1) (.int .i64 c1) (.int .i64 c2) := Box2.keep (by assumption) (by repeat' (first | (with_reducible assumption) | (with_reducible refine Box2.drewN ?_ _) | (with_reducible refine Box2.drew ?_) | (with_reducible exact Box2.new _ _ _ _) | (with_reducible exact Box2.new1 _ _ _ _ _) | (with_reducible exact Box2.new2 _ _ _ _ _ _) | (with_reducible refine Box2.alloc ?_ _))); obtain ⟨c0x5x2, c1x5x2, f0x5x2, f1x5x2, zx5x2⟩ := id x5x2)
      clear x4x0 c0x4x0 c1x4x0 f0x4x0 f1x4x0 x4x1 c0x4x1 c1x4x1 f0x4x1 f1x4x1 x4x2 c0x4x2 c1x4x2 f0x4x2 f1x4x2
      go_wp2_with fail
      refine (sub_any a1 a2 b1 b2 p q _ HP.out (by omega) (by omega) (by omega) (by omega) (by omega) (by omega) (by omega) (by omega) _).mono ?_
      rintro e1 w6 ⟨rfl, hb6⟩
      (have x6x0 : Box2 w6 (w.heap.size) (.int .i64 a1) (.int .i64 a2) := Box2.keep (by assumption) (by repeat' (first | (with_reducible assumption) | (with_reducible refine Box2.drewN ?_ _) | (with_reducible refine Box2.drew ?_) | (with_reducible exact Box2.new _ _ _ _) | (with_reducible exact Box2.new1 _ _ _ _ _) | (with_reducible exact Box2.new2 _ _ _ _ _ _) | (with_reducible refine Box2.alloc ?_ _))); obtain ⟨c0x6x0, c1x6x0, f0x6x0, f1x6x0, zx6x0⟩ := id x6x0)
      (have x6x1 : Box2 w6 (w.heap.size + 1) (.int .i64 b1) (.int .i64 b2) := Box2.keep (by assumption) (by repeat' (first | (with_reducible assumption) | (with_reducible refine Box2.drewN ?_ _) | (with_reducible refine Box2.drew ?_) | (with_reducible exact Box2.new _ _ _ _) | (with_reducible exact Box2.new1 _ _ _ _ _) | (with_reducible exact Box2.new2 _ _ _ _ _ _) | (with_reducible refine Box2.alloc ?_ _))); obtain ⟨c0x6x1, c1x6x1, f0x6x1, f1x6x1, zx6x1⟩ := id x6x1)
      (have x6x2 : Box2 w6 (w.heap.size + 1 + 1) (.int .i64 c1) (.int .i64 c2) := Box2.keep (by assumption) (by repeat' (first | (with_reducible assumption) | (with_reducible refine Box2.drewN ?_ _) | (with_reducible refine Box2.drew ?_) | (with_reducible exact Box2.new _ _ _ _) | (with_reducible exact Box2.new1 _ _ _ _ _) | (with_reducible exact Box2.new2 _ _ _ _ _ _) | (with_reducible refine Box2.alloc ?_ _))); obtain ⟨c0x6x2, c1x6x2, f0x6x2, f1x6x2, zx6x2⟩ := id x6x2)
      clear x5x0 c0x5x0 c1x5x0 f0x5x0 f1x5x0 x5x1 c0x5x1 c1x5x1 f0x5x1 f1x5x1 x5x2 c0x5x2 c1x5x2 f0x5x2 f1x5x2
      go_wp2_with (go_at_call 20; refine (known_any _).mono ?_; rintro e' w7 ⟨rfl, hb7⟩)
      go_ret
      exact ⟨rfl, (by repeat' (first | (with_reducible exact Below.refl _ _) | (with_reducible assumption) | (with_reducible refine below_drewN ?_ _) | (with_reducible refine below_step (by assumption) ?_ ?_) | (with_reducible refine Below.alloc ?_ ?_ _) | (with_reducible refine Below.setCell ?_ ?_ _) | (with_reducible refine Below.drew ?_) | go_size | (exact Below.size (by assumption)) | (refine Nat.le_trans (Below.size (by assumption)) ?_)))⟩
  · have ne' : (e != 0) = true := by rw [bne_iff_ne]; exact ne
    clear hyx htr hsg ne
    go_enter Tryd.func10, Tryd.ntmps10
    go_wp2_with fail
    refine (ncompare_any a1 a2 b1 b2 x _ HX.out (by omega) (by omega) (by omega) (by omega) (by omega) (by omega) (by omega) (by omega) _).mono ?_
    rintro e1 w1 ⟨rfl, hb1⟩
    (have x1x0 : Box2 w1 (w.heap.size) (.int .i64 a1) (.int .i64 a2) := Box2.keep (by assumption) (by repeat' (first | (with_reducible assumption) | (with_reducible refine Box2.drewN ?_ _) | (with_reducible refine Box2.drew ?_) | (with_reducible exact Box2.new _ _ _ _) | (with_reducible exact Box2.new1 _ _ _ _ _) | (with_reducible exact Box2.new2 _ _ _ _ _ _) | (with_reducible refine Box2.alloc ?_ _))); obtain ⟨c0x1x0, c1x1x0, f0x1x0, f1x1x0, zx1x0⟩ := id x1x0)
    (have x1x1 : Box2 w1 (w.heap.size + 1) (.int .i64 b1) (.int .i64 b2) := Box2.keep (by assumption) (by repeat' (first | (with_reducible assumption) | (with_reducible refine Box2.drewN ?_ _) | (with_reducible refine Box2.drew ?_) | (with_reducible exact Box2.new _ _ _ _) | (with_reducible exact Box2.new1 _ _ _ _ _) | (with_reducible exact Box2.new2 _ _ _ _ _ _) | (with_reducible refine Box2.alloc ?_ _))); obtain ⟨c0x1x1, c1x1x1, f0x1x1, f1x1x1, zx1x1⟩ := id x1x1)
    (have x1x2 : Box2 w1 (w.heap.size + 1 + 1) (.int .i64 c1) (.int .i64 c2) := Box2.keep (by assumption) (by repeat' (first | (with_reducible assumption) | (with_reducible refine Box2.drewN ?_ _) | (with_reducible refine Box2.drew ?_) | (with_reducible exact Box2.new _ _ _ _) | (with_reducible exact Box2.new1 _ _ _ _ _) | (with_reducible exact Box2.new2 _ _ _ _ _ _) | (with_reducible refine Box2.alloc ?_ _))); obtain ⟨c0x1x2, c1x1x2, f0x1x2, f1x1x2, zx1x2⟩ := id x1x2)
    go_wp2_with fail
    refine (rcompare_any a1 a2 b1 b2 x _ HX.out (by omega) (by omega) (by omega) (by omega) (by omega) (by omega) (by omega) (by omega) _).mono ?_
    rintro e1 w2 ⟨rfl, hb2⟩
    (have x2x0 : Box2 w2 (w.heap.size) (.int .i64 a1) (.int .i64 a2) := Box2.keep (by assumption) (by repeat' (first | (with_reducible assumption) | (with_reducible refine Box2.drewN ?_ _) | (with_reducible refine Box2.drew ?_) | (with_reducible exact Box2.new _ _ _ _) | (with_reducible exact Box2.new1 _ _ _ _ _) | (with_reducible exact Box2.new2 _ _ _ _ _ _) | (with_reducible refine Box2.alloc ?_ _))); obtain ⟨c0x2x0, c1x2x0, f0x2x0, f1x2x0, zx2x0⟩ := id x2x0)
    (have x2x1 : Box2 w2 (w.heap.size + 1) (.int .i64 b1) (.int .i64 b2) := Box2.keep (by assumption) (by repeat' (first | (with_reducible assumption) | (with_reducible refine Box2.drewN ?_ _) | (with_reducible refine Box2.drew ?_) | (with_reducible exact Box2.new _ _ _ _) | (with_reducible exact Box2.new1 _ _ _ _ _) | (with_reducible exact Box2.new2 _ _ _ _ _ _) | (with_reducible refine Box2.alloc ?_ _))); obtain ⟨c0x2x1, c1x2x1, f0x2x1, f1x2x1, zx2x1⟩ := id x2x1)
    (have x2x2 : Box2 w2 (w.heap.size + 1 + 1) (.int .i64 c1) (.int .i64 c2) := Box2.keep (by assumption) (by repeat' (first | (with_reducible assumption) | (with_reducible refine Box2.drewN ?_ _) | (with_reducible refine Box2.drew ?_) | (with_reducible exact Box2.new _ _ _ _) | (with_reducible exact Box2.new1 _ _ _ _ _) | (with_reducible exact Box2.new2 _ _ _ _ _ _) | (with_reducible refine Box2.alloc ?_ _))); obtain ⟨c0x2x2, c1x2x2, f0x2x2, f1x2x2, zx2x2⟩ := id x2x2)
    clear x1x0 c0x1x0 c1x1x0 f0x1x0 f1x1x0 x1x1 c0x1x1 c1x1x1 f0x1x1 f1x1x1 x1x2 c0x1x2 c1x1x2 f0x1x2 f1x1x2
    go_wp2_with fail
    refine (ncompare_any b1 b2 a1 a2 y _ HY.out (by omega) (by omega) (by omega) (by omega) (by omega) (by omega) (by omega) (by omega) _).mono ?_
    rintro e1 w3 ⟨rfl, hb3⟩
    (have x3x0 : Box2 w3 (w.heap.size) (.int .i64 a1) (.int .i64 a2) := Box2.keep (by assumption) (by repeat' (first | (with_reducible assumption) | (with_reducible refine Box2.drewN ?_ _) | (with_reducible refine Box2.drew ?_) | (with_reducible exact Box2.new _ _ _ _) | (with_reducible exact Box2.new1 _ _ _ _ _) | (with_reducible exact Box2.new2 _ _ _ _ _ _) | (with_reducible refine Box2.alloc ?_ _))); obtain ⟨c0x3x0, c1x3x0, f0x3x0, f1x3x0, zx3x0⟩ := id x3x0)
    (have x3x1 : Box2 w3 (w.heap.size + 1) (.int .i64 b1) (.int .i64 b2) := Box2.keep (by assumption) (by repeat' (first | (with_reducible assumption) | (with_reducible refine Box2.drewN ?_ _) | (with_reducible refine Box2.drew ?_) | (with_reducible exact Box2.new _ _ _ _) | (with_reducible exact Box2.new1 _ _ _ _ _) | (with_reducible exact Box2.new2 _ _ _ _ _ _) | (with_reducible refine Box2.alloc ?_ _))); obtain ⟨c0x3x1, c1x3x1, f0x3x1, f1x3x1, zx3x1⟩ := id x3x1)
    (have x3x2 : Box2 w3 (w.heap.size + 1 + 1) (.int .i64 c1) (.int .i64 c2) := Box2.keep (by assumption) (by repeat' (first | (with_reducible assumption) | (with_reducible refine Box2.drewN ?_ _) | (with_reducible refine Box2.drew ?_) | (with_reducible exact Box2.new _ _ _ _) | (with_reducible exact Box2.new1 _ _ _ _ _) | (with_reducible exact Box2.new2 _ _ _ _ _ _) | (with_reducible refine Box2.alloc ?_ _))); obtain ⟨c0x3x2, c1x3x2, f0x3x2, f1x3x2, zx3x2⟩ := id x3x2)
    clear x2x0 c0x2x0 c1x2x0 f0x2x0 f1x2x0 x2x1 c0x2x1 c1x2x1 f0x2x1 f1x2x1 x2x2 c0x2x2 c1x2x2 f0x2x2 f1x2x2
    go_wp2_with fail
    refine (ncompare_any b1 b2 c1 c2 u _ HU.out (by omega) (by omega) (by omega) (by omega) (by omega) (by omega) (by omega) (by omega) _).mono ?_
    rintro e1 w4 ⟨rfl, hb4⟩
    (have x4x0 : Box2 w4 (w.heap.size) (.int .i64 a1) (.int .i64 a2) := Box2.keep (by assumption) (by repeat' (first | (with_reducible assumption) | (with_reducible refine Box2.drewN ?_ _) | (with_reducible refine Box2.drew ?_) | (with_reducible exact Box2.new _ _ _ _) | (with_reducible exact Box2.new1 _ _ _ _ _) | (with_reducible exact Box2.new2 _ _ _ _ _ _) | (with_reducible refine Box2.alloc ?_ _))); obtain ⟨c0x4x0, c1x4x0, f0x4x0, f1x4x0, zx4x0⟩ := id x4x0)
    (have x4x1 : Box2 w4 (w.heap.size + 1) (.int .i64 b1) (.int .i64 b2) := Box2.keep (by assumption) (by repeat' (first | (with_reducible assumption) | (with_reducible refine Box2.drewN ?_ _) | (with_reducible refine Box2.drew ?_) | (with_reducible exact Box2.new _ _ _ _) | (with_reducible exact Box2.new1 _ _ _ _ _) | (with_reducible exact Box2.new2 _ _ _ _ _ _) | (with_reducible refine Box2.alloc ?_ _))); obtain ⟨c0x4x1, c1x4x1, f0x4x1, f1x4x1, zx4x1⟩ := id x4x1)
    (have x4x2 : Box2 w4 (w.heap.size + 1 + 1) (.int .i64 c1) (.int .i64 c2) := Box2.keep (by assumption) (by repeat' (first | (with_reducible assumption) | (with_reducible refine Box2.drewN ?_ _) | (with_reducible refine Box2.drew ?_) | (with_reducible exact Box2.new _ _ _ _) | (with_reducible exact Box2.new1 _ _ _ _ _) | (with_reducible exact Box2.new2 _ _ _ _ _ _) | (with_reducible refine Box2.alloc ?_ _))); obtain ⟨c0x4x2, c1x4x2, f0x4x2, f1x4x2, zx4x2⟩ := id x4x2)
    clear x3x0 c0x3x0 c1x3x0 f0x3x0 f1x3x0 x3x1 c0x3x1 c1x3x1 f0x3x1 f1x3x1 x3x2 c0x3x2 c1x3x2 f0x3x2 f1x3x2
    go_wp2_with fail
    refine (ncompare_any a1 a2 c1 c2 v _ HV.out (by omega) (by omega) (by omega) (by omega) (by omega) (by omega) (by omega) (by omega) _).mono ?_
    rintro e1 w5 ⟨rfl, hb5⟩
    (have x5x0 : Box2 w5 (w.heap.size) (.int .i64 a1) (.int .i64 a2) := Box2.keep (by assumption) (by repeat' (first | (with_reducible assumption) | (with_reducible refine Box2.drewN ?_ _) | (with_reducible refine Box2.drew ?_) | (with_reducible exact Box2.new _ _ _ _) | (with_reducible exact Box2.new1 _ _ _ _ _) | (with_reducible exact Box2.new2 _ _ _ _ _ _) | (with_reducible refine Box2.alloc ?_ _))); obtain ⟨c0x5x0, c1x5x0, f0x5x0, f1x5x0, zx5x0⟩ := id x5x0)
    (have x5x1 : Box2 w5 (w.heap.size + 1) (.int .i64 b1) (.int .i64 b2) := Box2.keep (by assumption) (by repeat' (first | (with_reducible assumption) | (with_reducible refine Box2.drewN ?_ _) | (with_reducible refine Box2.drew ?_) | (with_reducible exact Box2.new _ _ _ _) | (with_reducible exact Box2.new1 _ _ _ _ _) | (with_reducible exact Box2.new2 _ _ _ _ _ _) | (with_reducible refine Box2.alloc ?_ _))); obtain ⟨c0x5x1, c1x5x1, f0x5x1, f1x5x1, zx5x1⟩ := id x5x1)
    (have x5x2 : Box2 w5 (w.heap.size + 1 + 1) (.int .i64 c1) (.int .i64 c2) := Box2.keep (by assumption) (by repeat' (first | (with_reducible assumption) | (with_reducible refine Box2.drewN ?_ _) | (with_reducible refine Box2.drew ?_) | (with_reducible exact Box2.new _ _ _ _) | (with_reducible exact Box2.new1 _ _ _ _ _) | (with_reducible exact Box2.new2 _ _ _ _ _ _) | (with_reducible refine Box2.alloc ?_ _))); obtain ⟨c0x5x2, c1x5x2, f0x5x2, f1x5x2, zx5x2⟩ := id x5x2)
    clear x4x0 c0x4x0 c1x4x0 f0x4x0 f1x4x0 x4x1 c0x4x1 c1x4x1 f0x4x1 f1x4x1 x4x2 c0x4x2 c1x4x2 f0x4x2 f1x4x2
    go_wp2_with fail
    refine (sub_any a1 a2 b1 b2 p q _ HP.out (by omega) (by omega) (by omega) (by omega) (by omega) (by omega) (by omega) (by omega) _).mono ?_
    rintro e1 w6 ⟨rfl, hb6⟩
    (have x6x0 : Box2 w6 (w.heap.size) (.int .i64 a1) (.int .i64 a2) := Box2.keep (by assumption) (by repeat' (first | (with_reducible assumption) | (with_reducible refine Box2.drewN ?_ _) | (with_reducible refine Box2.drew ?_) | (with_reducible exact Box2.new _ _ _ _) | (with_reducible exact Box2.new1 _ _ _ _ _) | (with_reducible exact Box2.new2 _ _ _ _ _ _) | (with_reducible refine Box2.alloc ?_ _))); obtain ⟨c0x6x0, c1x6x0, f0x6x0, f1x6x0, zx6x0⟩ := id x6x0)
    (have x6x1 : Box2 w6 (w.heap.size + 1) (.int .i64 b1) (.int .i64 b2) := Box2.keep (by assumption) (by repeat' (first | (with_reducible assumption) | (with_reducible refine Box2.drewN ?_ _) | (with_reducible refine Box2.drew ?_) | (with_reducible exact Box2.new _ _ _ _) | (with_reducible exact Box2.new1 _ _ _ _ _) | (with_reducible exact Box2.new2 _ _ _ _ _ _) | (with_reducible refine Box2.alloc ?_ _))); obtain ⟨c0x6x1, c1x6x1, f0x6x1, f1x6x1, zx6x1⟩ := id x6x1)
    (have x6x2 : Box2 w6 (w.heap.size + 1 + 1) (.int .i64 c1) (.int .i64 c2) := Box2.keep (by assumption) (by repeat' (first | (with_reducible assumption) | (with_reducible refine Box2.drewN ?_ _) | (with_reducible refine Box2.drew ?_) | (with_reducible exact Box2.new _ _ _ _) | (with_reducible exact Box2.new1 _ _ _ _ _) | (with_reducible exact Box2.new2 _ _ _ _ _ _) | (with_reducible refine Box2.alloc ?_ _))); obtain ⟨c0x6x2, c1x6x2, f0x6x2, f1x6x2, zx6x2⟩ := id x6x2)
    clear x5x0 c0x5x0 c1x5x0 f0x5x0 f1x5x0 x5x1 c0x5x1 c1x5x1 f0x5x1 f1x5x1 x5x2 c0x5x2 c1x5x2 f0x5x2 f1x5x2
    go_wp2_with (go_at_call 20; refine (known_any _).mono ?_; rintro e' w7 ⟨rfl, hb7⟩)
    go_ret
    exact ⟨rfl, (by repeat' (first | (with_reducible exact Below.refl _ _) | (with_reducible assumption) | (with_reducible refine below_drewN ?_ _) | (with_reducible refine below_step (by assumption) ?_ ?_) | (with_reducible refine Below.alloc ?_ ?_ _) | (with_reducible refine Below.setCell ?_ ?_ _) | (with_reducible refine Below.drew ?_) | go_size | (exact Below.size (by assumption)) | (refine Nat.le_trans (Below.size (by assumption)) ?_)))⟩
end Go.Proofs.YtclbjgelefbmlaaDoor
