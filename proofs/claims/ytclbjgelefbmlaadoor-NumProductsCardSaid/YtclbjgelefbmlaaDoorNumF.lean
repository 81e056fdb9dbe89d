/-
  THE WALKS OF THE PROGRAM'S Div AND OF THE REFERENCE'S product, Mul AND Div.
-/
import Derived.Test.YtclbjgelefbmlaaDoorNumD
import Derived.Deep.RegionWith
import Derived.Test.YtclbjgelefbmlaaDoorReg
namespace Go.Proofs.YtclbjgelefbmlaaDoor
open Go.RowKit
attribute [local go_sem] grow_cell grow_frozen
theorem divM_cases (a1 a2 b1 b2 : Int) : vld a1 a2 = true → vld b1 b2 = true → b1 ≠ 0 → divM a1 a2 b1 b2 = mk (a1 * b2) (a2 * b1) := fun h k z => if_pos ⟨⟨h, k⟩, z⟩
theorem divM_zero (a1 a2 b2 : Int) : divM a1 a2 0 b2 = (0, 0, 1) := if_neg (by simp)
theorem mulM_both (a1 a2 b1 b2 : Int) : vld a1 a2 = true → vld b1 b2 = true → mulM a1 a2 b1 b2 = prodN (!(decide (a1 < 0) == decide (b1 < 0))) a1.natAbs a2.natAbs b1.natAbs b2.natAbs := fun h k => (if_pos ⟨h, k⟩).trans (mulN h k).symm
theorem divM_both (a1 a2 b1 b2 : Int) : vld a1 a2 = true → vld b1 b2 = true → b1 ≠ 0 → divM a1 a2 b1 b2 = prodN (!(decide (a1 < 0) == decide (b1 < 0))) a1.natAbs a2.natAbs b2.natAbs b1.natAbs := fun h k z => (if_pos ⟨⟨h, k⟩, z⟩).trans (divN h k z).symm
theorem prodN_def (neg : Bool) {n d m e g h : Nat} (hg : Nat.gcd n e = g) (hh : Nat.gcd m d = h) : prodN neg n d m e =
    if n = 0 ∨ m = 0 then (0, 1, 0) else if 1099511627776 / (n / g) < m / h ∨ 1048576 / (d / h) < e / g then (0, 0, 4) else mkN neg (n / g * (m / h)) (d / h * (e / g)) := by
  subst hg; subst hh; rfl
theorem rgcd_eq (a b g : Nat) (hg : Nat.gcd a b = g) (w : World) (ha : a < 18446744073709551616) (hb : b < 18446744073709551616) :
    Calls Tryd.prog 61 #[.int .u64 a, .int .u64 b] w fun e w' => e = .returned (.int .u64 (g : Nat)) ∧ ∃ m, w' = w.drewN m := by
  subst hg; exact rgcd_any a b w ha hb
theorem mkN_ok {neg : Bool} {n d : Nat} {p q z : Int} (h : mkN neg n d = (p, q, z)) (hn : n ≤ 1099511627776) (hd : d ≤ 1048576) : z = 0 := by
  have h1 := Nat.div_le_self n (Nat.gcd n d)
  have h2 := Nat.div_le_self d (Nat.gcd n d)
  unfold mkN at h
  rw [if_neg (by omega)] at h
  split at h <;> simp only [Prod.mk.injEq] at h <;> exact h.2.2.symm
theorem div_pos_of {n g : Nat} (hg : g ∣ n) (hn : 0 < n) : 0 < n / g := Nat.div_pos (Nat.le_of_dvd hn hg) (Nat.pos_of_dvd_of_pos hg hn)
theorem nat_mul_le {k a b : Nat} (h : ¬ k / a < b) : a * b ≤ k := Nat.le_trans (Nat.mul_le_mul_left _ (Nat.le_of_not_lt h)) (Nat.mul_div_le _ _)

set_option maxHeartbeats 2000000 in
theorem div_any (a1 a2 b1 b2 p q z : Int) (hm : divM a1 a2 b1 b2 = (p, q, z)) (h1 : -9223372036854775808 ≤ a1) (h2 : a1 ≤ 9223372036854775807) (h3 : -9223372036854775808 ≤ a2) (h4 : a2 ≤ 9223372036854775807)
    (h5 : -9223372036854775808 ≤ b1) (h6 : b1 ≤ 9223372036854775807) (h7 : -9223372036854775808 ≤ b2) (h8 : b2 ≤ 9223372036854775807) (w : World) :
    Calls Tryd.prog 27 #[.agg #[.int .i64 a1, .int .i64 a2], .agg #[.int .i64 b1, .int .i64 b2]] w fun e w' => e = .returned (.tuple #[.agg #[.int .i64 p, .int .i64 q], .int .i64 z]) ∧ Below w.heap.size w w' := by
  cases va : vld a1 a2
  · unfold divM at hm
    rw [if_neg (by simp [va])] at hm
    have HM := Lib.hid hm
    have VA := Lib.hid va
    clear hm va
    go_enter Tryd.func27, Tryd.ntmps27
    go_wp2_with ((go_at_call 18; refine (valid_any _ _ (by omega) (by omega) (by omega) (by omega) _).mono ?_; rw [VA.out]; rintro e w1 ⟨rfl, hb1⟩; (have x1 : Box2 w1 (w.heap.size + 1 + 1) (.int .i64 0) (.int .i64 0) := Box2.keep (by assumption) (by repeat' (first | (with_reducible assumption) | (with_reducible refine Box2.drewN ?_ _) | (with_reducible refine Box2.drew ?_) | (with_reducible exact Box2.new _ _ _ _) | (with_reducible exact Box2.new1 _ _ _ _ _) | (with_reducible exact Box2.new2 _ _ _ _ _ _) | (with_reducible refine Box2.alloc ?_ _))); obtain ⟨c0x1, c1x1, f0x1, f1x1, zx1⟩ := id x1)))
    refine bodyPost_ret (v := .tuple #[.agg #[.int .i64 (0), .int .i64 (0)], .int .i64 (1)]) (by simp only [results, Tryd.results27]; go_simp) rfl ⟨?_, ?_⟩
    · exact ret_rat HM.out
    · exact (by repeat' (first | (with_reducible exact Below.refl _ _) | (with_reducible assumption) | (with_reducible refine below_drewN ?_ _) | (with_reducible refine below_step (by assumption) ?_ ?_) | (with_reducible refine Below.alloc ?_ ?_ _) | (with_reducible refine Below.setCell ?_ ?_ _) | (with_reducible refine Below.drew ?_) | go_size | (exact Below.size (by assumption)) | (refine Nat.le_trans (Below.size (by assumption)) ?_)))
  · cases vb : vld b1 b2
    · unfold divM at hm
      rw [if_neg (by simp [vb])] at hm
      have HM := Lib.hid hm
      have VA := Lib.hid va
      have VB := Lib.hid vb
      clear hm va vb
      go_enter Tryd.func27, Tryd.ntmps27
      go_wp2_with fail
      refine (valid_any _ _ (by omega) (by omega) (by omega) (by omega) _).mono ?_
      rw [VA.out]
      rintro e w1 ⟨rfl, hb1⟩
      (have xb : Box2 w1 (w.heap.size + 1) (.int .i64 b1) (.int .i64 b2) := Box2.keep (by assumption) (by repeat' (first | (with_reducible assumption) | (with_reducible refine Box2.drewN ?_ _) | (with_reducible refine Box2.drew ?_) | (with_reducible exact Box2.new _ _ _ _) | (with_reducible exact Box2.new1 _ _ _ _ _) | (with_reducible exact Box2.new2 _ _ _ _ _ _) | (with_reducible refine Box2.alloc ?_ _))); obtain ⟨c0xb, c1xb, f0xb, f1xb, zxb⟩ := id xb)
      (have x1 : Box2 w1 (w.heap.size + 1 + 1) (.int .i64 0) (.int .i64 0) := Box2.keep (by assumption) (by repeat' (first | (with_reducible assumption) | (with_reducible refine Box2.drewN ?_ _) | (with_reducible refine Box2.drew ?_) | (with_reducible exact Box2.new _ _ _ _) | (with_reducible exact Box2.new1 _ _ _ _ _) | (with_reducible exact Box2.new2 _ _ _ _ _ _) | (with_reducible refine Box2.alloc ?_ _))); obtain ⟨c0x1, c1x1, f0x1, f1x1, zx1⟩ := id x1)
      go_wp2_with fail
      refine (valid_any _ _ (by omega) (by omega) (by omega) (by omega) _).mono ?_
      rw [VB.out]
      rintro e w2 ⟨rfl, hb2⟩
      (have x2 : Box2 w2 (w.heap.size + 1 + 1) (.int .i64 0) (.int .i64 0) := Box2.keep (by assumption) (by repeat' (first | (with_reducible assumption) | (with_reducible refine Box2.drewN ?_ _) | (with_reducible refine Box2.drew ?_) | (with_reducible exact Box2.new _ _ _ _) | (with_reducible exact Box2.new1 _ _ _ _ _) | (with_reducible exact Box2.new2 _ _ _ _ _ _) | (with_reducible refine Box2.alloc ?_ _))); obtain ⟨c0x2, c1x2, f0x2, f1x2, zx2⟩ := id x2)
      go_wp2
      refine bodyPost_ret (v := .tuple #[.agg #[.int .i64 (0), .int .i64 (0)], .int .i64 (1)]) (by simp only [results, Tryd.results27]; go_simp) rfl ⟨?_, ?_⟩
      · exact ret_rat HM.out
      · exact (by repeat' (first | (with_reducible exact Below.refl _ _) | (with_reducible assumption) | (with_reducible refine below_drewN ?_ _) | (with_reducible refine below_step (by assumption) ?_ ?_) | (with_reducible refine Below.alloc ?_ ?_ _) | (with_reducible refine Below.setCell ?_ ?_ _) | (with_reducible refine Below.drew ?_) | go_size | (exact Below.size (by assumption)) | (refine Nat.le_trans (Below.size (by assumption)) ?_)))
    · by_cases z0 : b1 = 0
      · subst z0
        rw [divM_zero] at hm
        have HM := Lib.hid hm
        have VA := Lib.hid va
        have VB := Lib.hid vb
        clear hm va vb
        go_enter Tryd.func27, Tryd.ntmps27
        go_wp2_with fail
        refine (valid_any _ _ (by omega) (by omega) (by omega) (by omega) _).mono ?_
        rw [VA.out]
        rintro e w1 ⟨rfl, hb1⟩
        (have xa : Box2 w1 w.heap.size (.int .i64 a1) (.int .i64 a2) := Box2.keep (by assumption) (by repeat' (first | (with_reducible assumption) | (with_reducible refine Box2.drewN ?_ _) | (with_reducible refine Box2.drew ?_) | (with_reducible exact Box2.new _ _ _ _) | (with_reducible exact Box2.new1 _ _ _ _ _) | (with_reducible exact Box2.new2 _ _ _ _ _ _) | (with_reducible refine Box2.alloc ?_ _))); obtain ⟨c0xa, c1xa, f0xa, f1xa, zxa⟩ := id xa)
        (have xb : Box2 w1 (w.heap.size + 1) (.int .i64 0) (.int .i64 b2) := Box2.keep (by assumption) (by repeat' (first | (with_reducible assumption) | (with_reducible refine Box2.drewN ?_ _) | (with_reducible refine Box2.drew ?_) | (with_reducible exact Box2.new _ _ _ _) | (with_reducible exact Box2.new1 _ _ _ _ _) | (with_reducible exact Box2.new2 _ _ _ _ _ _) | (with_reducible refine Box2.alloc ?_ _))); obtain ⟨c0xb, c1xb, f0xb, f1xb, zxb⟩ := id xb)
        (have x1 : Box2 w1 (w.heap.size + 1 + 1) (.int .i64 0) (.int .i64 0) := Box2.keep (by assumption) (by repeat' (first | (with_reducible assumption) | (with_reducible refine Box2.drewN ?_ _) | (with_reducible refine Box2.drew ?_) | (with_reducible exact Box2.new _ _ _ _) | (with_reducible exact Box2.new1 _ _ _ _ _) | (with_reducible exact Box2.new2 _ _ _ _ _ _) | (with_reducible refine Box2.alloc ?_ _))); obtain ⟨c0x1, c1x1, f0x1, f1x1, zx1⟩ := id x1)
        go_wp2_with fail
        refine (valid_any _ _ (by omega) (by omega) (by omega) (by omega) _).mono ?_
        rw [VB.out]
        rintro e w2 ⟨rfl, hb2⟩
        (have ya : Box2 w2 w.heap.size (.int .i64 a1) (.int .i64 a2) := Box2.keep (by assumption) (by repeat' (first | (with_reducible assumption) | (with_reducible refine Box2.drewN ?_ _) | (with_reducible refine Box2.drew ?_) | (with_reducible exact Box2.new _ _ _ _) | (with_reducible exact Box2.new1 _ _ _ _ _) | (with_reducible exact Box2.new2 _ _ _ _ _ _) | (with_reducible refine Box2.alloc ?_ _))); obtain ⟨c0ya, c1ya, f0ya, f1ya, zya⟩ := id ya)
        (have yb : Box2 w2 (w.heap.size + 1) (.int .i64 0) (.int .i64 b2) := Box2.keep (by assumption) (by repeat' (first | (with_reducible assumption) | (with_reducible refine Box2.drewN ?_ _) | (with_reducible refine Box2.drew ?_) | (with_reducible exact Box2.new _ _ _ _) | (with_reducible exact Box2.new1 _ _ _ _ _) | (with_reducible exact Box2.new2 _ _ _ _ _ _) | (with_reducible refine Box2.alloc ?_ _))); obtain ⟨c0yb, c1yb, f0yb, f1yb, zyb⟩ := id yb)
        (have x2 : Box2 w2 (w.heap.size + 1 + 1) (.int .i64 0) (.int .i64 0) := Box2.keep (by assumption) (by repeat' (first | (with_reducible assumption) | (with_reducible refine Box2.drewN ?_ _) | (with_reducible refine Box2.drew ?_) | (with_reducible exact Box2.new _ _ _ _) | (with_reducible exact Box2.new1 _ _ _ _ _) | (with_reducible exact Box2.new2 _ _ _ _ _ _) | (with_reducible refine Box2.alloc ?_ _))); obtain ⟨c0x2, c1x2, f0x2, f1x2, zx2⟩ := id x2)
        clear xa c0xa c1xa f0xa f1xa zxa xb c0xb c1xb f0xb f1xb zxb x1 c0x1 c1x1 f0x1 f1x1
        go_wp2_with fail
        refine bodyPost_ret (v := .tuple #[.agg #[.int .i64 (0), .int .i64 (0)], .int .i64 (1)]) (by simp only [results, Tryd.results27]; go_simp) rfl ⟨?_, ?_⟩
        · exact ret_rat HM.out
        · exact (by repeat' (first | (with_reducible exact Below.refl _ _) | (with_reducible assumption) | (with_reducible refine below_drewN ?_ _) | (with_reducible refine below_step (by assumption) ?_ ?_) | (with_reducible refine Below.alloc ?_ ?_ _) | (with_reducible refine Below.setCell ?_ ?_ _) | (with_reducible refine Below.drew ?_) | go_size | (exact Below.size (by assumption)) | (refine Nat.le_trans (Below.size (by assumption)) ?_)))
      · have e0 : (b1 == 0) = false := by rw [beq_eq_false_iff_ne]; exact z0
        rw [divM_cases _ _ _ _ va vb z0] at hm
        have ba := vld_bd va
        have bb := vld_bd vb
        have m1 := mul_bd (x := a1) (y := b2) (by omega) (by omega) (by omega) (by omega)
        have m2 := mul_bd (x := b1) (y := a2) (by omega) (by omega) (by omega) (by omega)
        rw [Int.mul_comm b1 a2] at m2
        have HM := Lib.hid hm
        have VA := Lib.hid va
        have VB := Lib.hid vb
        clear hm va vb
        go_enter Tryd.func27, Tryd.ntmps27
        go_wp2_with fail
        refine (valid_any _ _ (by omega) (by omega) (by omega) (by omega) _).mono ?_
        rw [VA.out]
        rintro e w1 ⟨rfl, hb1⟩
        (have xa : Box2 w1 w.heap.size (.int .i64 a1) (.int .i64 a2) := Box2.keep (by assumption) (by repeat' (first | (with_reducible assumption) | (with_reducible refine Box2.drewN ?_ _) | (with_reducible refine Box2.drew ?_) | (with_reducible exact Box2.new _ _ _ _) | (with_reducible exact Box2.new1 _ _ _ _ _) | (with_reducible exact Box2.new2 _ _ _ _ _ _) | (with_reducible refine Box2.alloc ?_ _))); obtain ⟨c0xa, c1xa, f0xa, f1xa, zxa⟩ := id xa)
        (have xb : Box2 w1 (w.heap.size + 1) (.int .i64 b1) (.int .i64 b2) := Box2.keep (by assumption) (by repeat' (first | (with_reducible assumption) | (with_reducible refine Box2.drewN ?_ _) | (with_reducible refine Box2.drew ?_) | (with_reducible exact Box2.new _ _ _ _) | (with_reducible exact Box2.new1 _ _ _ _ _) | (with_reducible exact Box2.new2 _ _ _ _ _ _) | (with_reducible refine Box2.alloc ?_ _))); obtain ⟨c0xb, c1xb, f0xb, f1xb, zxb⟩ := id xb)
        (have x1 : Box2 w1 (w.heap.size + 1 + 1) (.int .i64 0) (.int .i64 0) := Box2.keep (by assumption) (by repeat' (first | (with_reducible assumption) | (with_reducible refine Box2.drewN ?_ _) | (with_reducible refine Box2.drew ?_) | (with_reducible exact Box2.new _ _ _ _) | (with_reducible exact Box2.new1 _ _ _ _ _) | (with_reducible exact Box2.new2 _ _ _ _ _ _) | (with_reducible refine Box2.alloc ?_ _))); obtain ⟨c0x1, c1x1, f0x1, f1x1, zx1⟩ := id x1)
        go_wp2_with fail
        refine (valid_any _ _ (by omega) (by omega) (by omega) (by omega) _).mono ?_
        rw [VB.out]
        rintro e w2 ⟨rfl, hb2⟩
        (have ya : Box2 w2 w.heap.size (.int .i64 a1) (.int .i64 a2) := Box2.keep (by assumption) (by repeat' (first | (with_reducible assumption) | (with_reducible refine Box2.drewN ?_ _) | (with_reducible refine Box2.drew ?_) | (with_reducible exact Box2.new _ _ _ _) | (with_reducible exact Box2.new1 _ _ _ _ _) | (with_reducible exact Box2.new2 _ _ _ _ _ _) | (with_reducible refine Box2.alloc ?_ _))); obtain ⟨c0ya, c1ya, f0ya, f1ya, zya⟩ := id ya)
        (have yb : Box2 w2 (w.heap.size + 1) (.int .i64 b1) (.int .i64 b2) := Box2.keep (by assumption) (by repeat' (first | (with_reducible assumption) | (with_reducible refine Box2.drewN ?_ _) | (with_reducible refine Box2.drew ?_) | (with_reducible exact Box2.new _ _ _ _) | (with_reducible exact Box2.new1 _ _ _ _ _) | (with_reducible exact Box2.new2 _ _ _ _ _ _) | (with_reducible refine Box2.alloc ?_ _))); obtain ⟨c0yb, c1yb, f0yb, f1yb, zyb⟩ := id yb)
        (have x2 : Box2 w2 (w.heap.size + 1 + 1) (.int .i64 0) (.int .i64 0) := Box2.keep (by assumption) (by repeat' (first | (with_reducible assumption) | (with_reducible refine Box2.drewN ?_ _) | (with_reducible refine Box2.drew ?_) | (with_reducible exact Box2.new _ _ _ _) | (with_reducible exact Box2.new1 _ _ _ _ _) | (with_reducible exact Box2.new2 _ _ _ _ _ _) | (with_reducible refine Box2.alloc ?_ _))); obtain ⟨c0x2, c1x2, f0x2, f1x2, zx2⟩ := id x2)
        clear xa c0xa c1xa f0xa f1xa zxa xb c0xb c1xb f0xb f1xb zxb x1 c0x1 c1x1 f0x1 f1x1
        go_wp2_with fail
        refine (make_any _ _ p q z HM.out (by omega) (by omega) (by omega) (by omega) _).mono ?_
        rintro e w3 ⟨rfl, hb3⟩
        (have x3 : Box2 w3 (w.heap.size + 1 + 1) (.int .i64 0) (.int .i64 0) := Box2.keep (by assumption) (by repeat' (first | (with_reducible assumption) | (with_reducible refine Box2.drewN ?_ _) | (with_reducible refine Box2.drew ?_) | (with_reducible exact Box2.new _ _ _ _) | (with_reducible exact Box2.new1 _ _ _ _ _) | (with_reducible exact Box2.new2 _ _ _ _ _ _) | (with_reducible refine Box2.alloc ?_ _))); obtain ⟨c0x3, c1x3, f0x3, f1x3, zx3⟩ := id x3)
        go_wp2
        refine bodyPost_ret (v := .tuple #[.agg #[.int .i64 (p), .int .i64 (q)], .int .i64 (z)]) (by simp only [results, Tryd.results27]; go_simp) rfl ⟨?_, ?_⟩
        · rfl
        · exact (by repeat' (first | (with_reducible exact Below.refl _ _) | (with_reducible assumption) | (with_reducible refine below_drewN ?_ _) | (with_reducible refine below_step (by assumption) ?_ ?_) | (with_reducible refine Below.alloc ?_ ?_ _) | (with_reducible refine Below.setCell ?_ ?_ _) | (with_reducible refine Below.drew ?_) | go_size | (exact Below.size (by assumption)) | (refine Nat.le_trans (Below.size (by assumption)) ?_)))

set_option maxHeartbeats 4000000 in
theorem product_any (neg : Bool) (n d m e : Nat) (p q z : Int) (hm : prodN neg n d m e = (p, q, z)) (dp : 0 < d) (ep : 0 < e) (h1 : n ≤ 1099511627776) (h2 : d ≤ 1099511627776) (h3 : m ≤ 1099511627776) (h4 : e ≤ 1099511627776) (w : World) :
    Calls Tryd.prog 63 #[.bool neg, .int .u64 n, .int .u64 d, .int .u64 m, .int .u64 e] w fun e w' => e = .returned (.tuple #[.agg #[.int .i64 p, .int .i64 q], .int .i64 z]) ∧ Below w.heap.size w w' := by
  have ca : Nat.gcd n e ≤ e := Nat.gcd_le_right _ (by omega)
  have cb : Nat.gcd m d ≤ d := Nat.gcd_le_right _ (by omega)
  have pa : 0 < Nat.gcd n e := Nat.gcd_pos_of_pos_right _ (by omega)
  have pb : 0 < Nat.gcd m d := Nat.gcd_pos_of_pos_right _ (by omega)
  have q3 := div_pos_of (Nat.gcd_dvd_right m d) dp
  have q4 := div_pos_of (Nat.gcd_dvd_right n e) ep
  have q1 : 0 < n → 0 < n / Nat.gcd n e := fun h => div_pos_of (Nat.gcd_dvd_left n e) h
  obtain ⟨g, hG⟩ : ∃ g, Nat.gcd n e = g := ⟨_, rfl⟩
  obtain ⟨h, hH⟩ : ∃ h, Nat.gcd m d = h := ⟨_, rfl⟩
  rw [prodN_def neg hG hH] at hm
  rw [hG] at ca pa q4 q1
  rw [hH] at cb pb q3
  have HG := Lib.hid hG
  have HH := Lib.hid hH
  clear hG hH
  have g0 : ¬ (g : Int) = 0 := by omega
  have k0 : ¬ (h : Int) = 0 := by omega
  by_cases z0 : n = 0
  · have y0 : ((n : Int) == 0) = true := by rw [beq_iff_eq]; omega
    rw [if_pos (.inl z0)] at hm
    clear q1 z0
    have HM := Lib.hid hm
    clear hm
    go_enter Tryd.func63, Tryd.ntmps63
    go_wp2_with (first | (go_at_call_of 61 (n); refine (rgcd_eq _ _ g HG.out _ (by omega) (by omega)).mono ?_; rintro e w1 ⟨rfl, m1, rfl⟩) | (go_at_call_of 61 (d); refine (rgcd_eq _ _ h HH.out _ (by omega) (by omega)).mono ?_; rintro e w1 ⟨rfl, m1, rfl⟩))
    go_returns
    exact ⟨ret_rat HM.out, (by repeat' (first | (with_reducible exact Below.refl _ _) | (with_reducible assumption) | (with_reducible refine below_drewN ?_ _) | (with_reducible refine below_step (by assumption) ?_ ?_) | (with_reducible refine Below.alloc ?_ ?_ _) | (with_reducible refine Below.setCell ?_ ?_ _) | (with_reducible refine Below.drew ?_) | go_size | (exact Below.size (by assumption)) | (refine Nat.le_trans (Below.size (by assumption)) ?_)))⟩
  · have y0 : ((n : Int) == 0) = false := by rw [beq_eq_false_iff_ne]; omega
    by_cases z1 : m = 0
    · have y1 : ((m : Int) == 0) = true := by rw [beq_iff_eq]; omega
      rw [if_pos (.inr z1)] at hm
      clear q1 z1
      have HM := Lib.hid hm
      clear hm
      go_enter Tryd.func63, Tryd.ntmps63
      go_wp2_with (first | (go_at_call_of 61 (n); refine (rgcd_eq _ _ g HG.out _ (by omega) (by omega)).mono ?_; rintro e w1 ⟨rfl, m1, rfl⟩) | (go_at_call_of 61 (d); refine (rgcd_eq _ _ h HH.out _ (by omega) (by omega)).mono ?_; rintro e w1 ⟨rfl, m1, rfl⟩))
      go_returns
      exact ⟨ret_rat HM.out, (by repeat' (first | (with_reducible exact Below.refl _ _) | (with_reducible assumption) | (with_reducible refine below_drewN ?_ _) | (with_reducible refine below_step (by assumption) ?_ ?_) | (with_reducible refine Below.alloc ?_ ?_ _) | (with_reducible refine Below.setCell ?_ ?_ _) | (with_reducible refine Below.drew ?_) | go_size | (exact Below.size (by assumption)) | (refine Nat.le_trans (Below.size (by assumption)) ?_)))⟩
    · have y1 : ((m : Int) == 0) = false := by rw [beq_eq_false_iff_ne]; omega
      rw [if_neg (by omega)] at hm
      have q1 := q1 (by omega)
      have l1 := Nat.div_le_self n g
      have l2 := Nat.div_le_self e g
      have l3 := Nat.div_le_self m h
      have l4 := Nat.div_le_self d h
      obtain ⟨n', hn⟩ : ∃ x, n / g = x := ⟨_, rfl⟩
      obtain ⟨e', he⟩ : ∃ x, e / g = x := ⟨_, rfl⟩
      obtain ⟨m', hm'⟩ : ∃ x, m / h = x := ⟨_, rfl⟩
      obtain ⟨d', hd⟩ : ∃ x, d / h = x := ⟨_, rfl⟩
      rw [hn, hm', hd, he] at hm
      have e1 : IntKind.u64.wrap ((n : Int) / (g : Int)) = (n' : Int) := by rw [← Int.natCast_ediv, hn]; exact IntWalk.u64_in _ ⟨by omega, by omega⟩
      have e2 : IntKind.u64.wrap ((e : Int) / (g : Int)) = (e' : Int) := by rw [← Int.natCast_ediv, he]; exact IntWalk.u64_in _ ⟨by omega, by omega⟩
      have e3 : IntKind.u64.wrap ((m : Int) / (h : Int)) = (m' : Int) := by rw [← Int.natCast_ediv, hm']; exact IntWalk.u64_in _ ⟨by omega, by omega⟩
      have e4 : IntKind.u64.wrap ((d : Int) / (h : Int)) = (d' : Int) := by rw [← Int.natCast_ediv, hd]; exact IntWalk.u64_in _ ⟨by omega, by omega⟩
      rw [hn] at l1 q1
      rw [he] at l2 q4
      rw [hm'] at l3
      rw [hd] at l4 q3
      clear hn he hm' hd
      have u1 : ¬ (n' : Int) = 0 := by omega
      have u2 : ¬ (d' : Int) = 0 := by omega
      have i1 : ((1099511627776 / n' : Nat) : Int) = (1099511627776 : Int) / (n' : Int) := Int.natCast_ediv _ _
      have i2 : ((1048576 / d' : Nat) : Int) = (1048576 : Int) / (d' : Int) := Int.natCast_ediv _ _
      by_cases z2 : (1099511627776 : Int) / (n' : Int) < (m' : Int)
      · rw [if_pos (.inl (by omega))] at hm
        clear i1 i2
        have HM := Lib.hid hm
        clear hm
        go_enter Tryd.func63, Tryd.ntmps63
        go_wp2_with (first | (go_at_call_of 61 (n); refine (rgcd_eq _ _ g HG.out _ (by omega) (by omega)).mono ?_; rintro e w1 ⟨rfl, m1, rfl⟩) | (go_at_call_of 61 (d); refine (rgcd_eq _ _ h HH.out _ (by omega) (by omega)).mono ?_; rintro e w1 ⟨rfl, m1, rfl⟩))
        go_quiet (fail)
        go_wp2
        go_returns
        exact ⟨ret_rat HM.out, (by repeat' (first | (with_reducible exact Below.refl _ _) | (with_reducible assumption) | (with_reducible refine below_drewN ?_ _) | (with_reducible refine below_step (by assumption) ?_ ?_) | (with_reducible refine Below.alloc ?_ ?_ _) | (with_reducible refine Below.setCell ?_ ?_ _) | (with_reducible refine Below.drew ?_) | go_size | (exact Below.size (by assumption)) | (refine Nat.le_trans (Below.size (by assumption)) ?_)))⟩
      · by_cases z3 : (1048576 : Int) / (d' : Int) < (e' : Int)
        · rw [if_pos (.inr (by omega))] at hm
          clear i1 i2
          have HM := Lib.hid hm
          clear hm
          go_enter Tryd.func63, Tryd.ntmps63
          go_wp2_with (first | (go_at_call_of 61 (n); refine (rgcd_eq _ _ g HG.out _ (by omega) (by omega)).mono ?_; rintro e w1 ⟨rfl, m1, rfl⟩) | (go_at_call_of 61 (d); refine (rgcd_eq _ _ h HH.out _ (by omega) (by omega)).mono ?_; rintro e w1 ⟨rfl, m1, rfl⟩))
          go_quiet (fail)
          go_wp2
          go_returns
          exact ⟨ret_rat HM.out, (by repeat' (first | (with_reducible exact Below.refl _ _) | (with_reducible assumption) | (with_reducible refine below_drewN ?_ _) | (with_reducible refine below_step (by assumption) ?_ ?_) | (with_reducible refine Below.alloc ?_ ?_ _) | (with_reducible refine Below.setCell ?_ ?_ _) | (with_reducible refine Below.drew ?_) | go_size | (exact Below.size (by assumption)) | (refine Nat.le_trans (Below.size (by assumption)) ?_)))⟩
        · rw [if_neg (by omega)] at hm
          have b1 := nat_mul_le (k := 1099511627776) (a := n') (b := m') (by omega)
          have b2 := nat_mul_le (k := 1048576) (a := d') (b := e') (by omega)
          have hde : 0 < d' * e' := Nat.mul_pos q3 q4
          have c1 : (n' : Int) * (m' : Int) ≤ 1099511627776 := by rw [← Int.natCast_mul]; omega
          have c2 : (d' : Int) * (e' : Int) ≤ 1048576 := by rw [← Int.natCast_mul]; omega
          have c3 : 0 ≤ (n' : Int) * (m' : Int) := by rw [← Int.natCast_mul]; omega
          have c4 : 0 ≤ (d' : Int) * (e' : Int) := by rw [← Int.natCast_mul]; omega
          have hz := mkN_ok hm b1 b2
          subst hz
          clear i1 i2
          have HM := Lib.hid hm
          clear hm
          go_enter Tryd.func63, Tryd.ntmps63
          go_wp2_with (first | (go_at_call_of 61 (n); refine (rgcd_eq _ _ g HG.out _ (by omega) (by omega)).mono ?_; rintro e w1 ⟨rfl, m1, rfl⟩) | (go_at_call_of 61 (d); refine (rgcd_eq _ _ h HH.out _ (by omega) (by omega)).mono ?_; rintro e w1 ⟨rfl, m1, rfl⟩))
          go_quiet (fail)
          go_wp2_with fail
          rw [show ((n' : Int) * (m' : Int)) = ((n' * m' : Nat) : Int) from (Int.natCast_mul _ _).symm, show ((d' : Int) * (e' : Int)) = ((d' * e' : Nat) : Int) from (Int.natCast_mul _ _).symm]
          refine (build_any neg _ _ p q 0 hde HM.out (by omega) (by omega) _).mono ?_
          rintro e w1 ⟨rfl, hb1⟩
          (have x1 : Box2 w1 w.heap.size (.int .i64 0) (.int .i64 0) := Box2.keep (by assumption) (by repeat' (first | (with_reducible assumption) | (with_reducible refine Box2.drewN ?_ _) | (with_reducible refine Box2.drew ?_) | (with_reducible exact Box2.new _ _ _ _) | (with_reducible exact Box2.new1 _ _ _ _ _) | (with_reducible exact Box2.new2 _ _ _ _ _ _) | (with_reducible refine Box2.alloc ?_ _))); obtain ⟨c0x1, c1x1, f0x1, f1x1, zx1⟩ := id x1)
          go_wp2
          refine bodyPost_ret (v := .tuple #[.agg #[.int .i64 (p), .int .i64 (q)], .int .i64 (0)]) (by simp only [results, Tryd.results63]; go_simp) rfl ⟨?_, ?_⟩
          · rfl
          · exact (by repeat' (first | (with_reducible exact Below.refl _ _) | (with_reducible assumption) | (with_reducible refine below_drewN ?_ _) | (with_reducible refine below_step (by assumption) ?_ ?_) | (with_reducible refine Below.alloc ?_ ?_ _) | (with_reducible refine Below.setCell ?_ ?_ _) | (with_reducible refine Below.drew ?_) | go_size | (exact Below.size (by assumption)) | (refine Nat.le_trans (Below.size (by assumption)) ?_)))

theorem product_mul (neg : Bool) (a1 a2 b1 b2 : Int) (p q z : Int) (hm : prodN neg a1.natAbs a2.natAbs b1.natAbs b2.natAbs = (p, q, z)) (h1 : a1.natAbs ≤ 1099511627776) (h2 : 0 < a2) (h3 : a2 ≤ 1048576) (h4 : b1.natAbs ≤ 1099511627776) (h5 : 0 < b2) (h6 : b2 ≤ 1048576) (w : World) :
    Calls Tryd.prog 63 #[.bool neg, .int .u64 a1.natAbs, .int .u64 a2, .int .u64 b1.natAbs, .int .u64 b2] w fun e w' => e = .returned (.tuple #[.agg #[.int .i64 p, .int .i64 q], .int .i64 z]) ∧ Below w.heap.size w w' := by
  obtain ⟨d, rfl⟩ := Int.eq_ofNat_of_zero_le (Int.le_of_lt h2)
  obtain ⟨e, rfl⟩ := Int.eq_ofNat_of_zero_le (Int.le_of_lt h5)
  exact product_any neg _ d _ e p q z hm (by omega) (by omega) (by omega) (by omega) (by omega) (by omega) w
theorem product_div (neg : Bool) (a1 a2 b1 b2 : Int) (p q z : Int) (hm : prodN neg a1.natAbs a2.natAbs b2.natAbs b1.natAbs = (p, q, z)) (h1 : a1.natAbs ≤ 1099511627776) (h2 : 0 < a2) (h3 : a2 ≤ 1048576) (h4 : b1.natAbs ≤ 1099511627776) (h5 : 0 < b2) (h6 : b2 ≤ 1048576) (h0 : b1 ≠ 0) (w : World) :
    Calls Tryd.prog 63 #[.bool neg, .int .u64 a1.natAbs, .int .u64 a2, .int .u64 b2, .int .u64 b1.natAbs] w fun e w' => e = .returned (.tuple #[.agg #[.int .i64 p, .int .i64 q], .int .i64 z]) ∧ Below w.heap.size w w' := by
  obtain ⟨d, rfl⟩ := Int.eq_ofNat_of_zero_le (Int.le_of_lt h2)
  obtain ⟨e, rfl⟩ := Int.eq_ofNat_of_zero_le (Int.le_of_lt h5)
  exact product_any neg _ d e _ p q z hm (by omega) (by omega) (by omega) (by omega) (by omega) (by omega) w

set_option maxRecDepth 100000 in
set_option maxHeartbeats 2000000 in
theorem rmul_any (a1 a2 b1 b2 p q z : Int) (hm : mulM a1 a2 b1 b2 = (p, q, z)) (h1 : -9223372036854775808 ≤ a1) (h2 : a1 ≤ 9223372036854775807) (h3 : -9223372036854775808 ≤ a2) (h4 : a2 ≤ 9223372036854775807)
    (h5 : -9223372036854775808 ≤ b1) (h6 : b1 ≤ 9223372036854775807) (h7 : -9223372036854775808 ≤ b2) (h8 : b2 ≤ 9223372036854775807) (w : World) :
    Calls Tryd.prog 26 #[.agg #[.int .i64 a1, .int .i64 a2], .agg #[.int .i64 b1, .int .i64 b2]] w fun e w' => e = .returned (.tuple #[.agg #[.int .i64 p, .int .i64 q], .int .i64 z]) ∧ Below w.heap.size w w' := by
  cases va : vld a1 a2
  · unfold mulM at hm
    rw [if_neg (by simp [va])] at hm
    have HM := Lib.hid hm
    have VA := Lib.hid va
    clear hm va
    go_enter Tryd.func26, Tryd.ntmps26
    go_wp2_with ((go_at_call 19; refine (rvalid_any _ _ (by omega) (by omega) (by omega) (by omega) _).mono ?_; rw [VA.out]; rintro e w1 ⟨rfl, hb1⟩; (have x1 : Box2 w1 (w.heap.size + 1 + 1) (.int .i64 0) (.int .i64 0) := Box2.keep (by assumption) (by repeat' (first | (with_reducible assumption) | (with_reducible refine Box2.drewN ?_ _) | (with_reducible refine Box2.drew ?_) | (with_reducible exact Box2.new _ _ _ _) | (with_reducible exact Box2.new1 _ _ _ _ _) | (with_reducible exact Box2.new2 _ _ _ _ _ _) | (with_reducible refine Box2.alloc ?_ _))); obtain ⟨c0x1, c1x1, f0x1, f1x1, zx1⟩ := id x1)))
    refine bodyPost_ret (v := .tuple #[.agg #[.int .i64 (0), .int .i64 (0)], .int .i64 (1)]) (by simp only [results, Tryd.results26]; go_simp) rfl ⟨?_, ?_⟩
    · exact ret_rat HM.out
    · exact (by repeat' (first | (with_reducible exact Below.refl _ _) | (with_reducible assumption) | (with_reducible refine below_drewN ?_ _) | (with_reducible refine below_step (by assumption) ?_ ?_) | (with_reducible refine Below.alloc ?_ ?_ _) | (with_reducible refine Below.setCell ?_ ?_ _) | (with_reducible refine Below.drew ?_) | go_size | (exact Below.size (by assumption)) | (refine Nat.le_trans (Below.size (by assumption)) ?_)))
  · cases vb : vld b1 b2
    · unfold mulM at hm
      rw [if_neg (by simp [vb])] at hm
      have HM := Lib.hid hm
      have VA := Lib.hid va
      have VB := Lib.hid vb
      clear hm va vb
      go_enter Tryd.func26, Tryd.ntmps26
      go_wp2_with fail
      refine (rvalid_any _ _ (by omega) (by omega) (by omega) (by omega) _).mono ?_
      rw [VA.out]
      rintro e w1 ⟨rfl, hb1⟩
      (have xb : Box2 w1 (w.heap.size + 1) (.int .i64 b1) (.int .i64 b2) := Box2.keep (by assumption) (by repeat' (first | (with_reducible assumption) | (with_reducible refine Box2.drewN ?_ _) | (with_reducible refine Box2.drew ?_) | (with_reducible exact Box2.new _ _ _ _) | (with_reducible exact Box2.new1 _ _ _ _ _) | (with_reducible exact Box2.new2 _ _ _ _ _ _) | (with_reducible refine Box2.alloc ?_ _))); obtain ⟨c0xb, c1xb, f0xb, f1xb, zxb⟩ := id xb)
      (have x1 : Box2 w1 (w.heap.size + 1 + 1) (.int .i64 0) (.int .i64 0) := Box2.keep (by assumption) (by repeat' (first | (with_reducible assumption) | (with_reducible refine Box2.drewN ?_ _) | (with_reducible refine Box2.drew ?_) | (with_reducible exact Box2.new _ _ _ _) | (with_reducible exact Box2.new1 _ _ _ _ _) | (with_reducible exact Box2.new2 _ _ _ _ _ _) | (with_reducible refine Box2.alloc ?_ _))); obtain ⟨c0x1, c1x1, f0x1, f1x1, zx1⟩ := id x1)
      go_wp2_with fail
      refine (rvalid_any _ _ (by omega) (by omega) (by omega) (by omega) _).mono ?_
      rw [VB.out]
      rintro e w2 ⟨rfl, hb2⟩
      (have x2 : Box2 w2 (w.heap.size + 1 + 1) (.int .i64 0) (.int .i64 0) := Box2.keep (by assumption) (by repeat' (first | (with_reducible assumption) | (with_reducible refine Box2.drewN ?_ _) | (with_reducible refine Box2.drew ?_) | (with_reducible exact Box2.new _ _ _ _) | (with_reducible exact Box2.new1 _ _ _ _ _) | (with_reducible exact Box2.new2 _ _ _ _ _ _) | (with_reducible refine Box2.alloc ?_ _))); obtain ⟨c0x2, c1x2, f0x2, f1x2, zx2⟩ := id x2)
      go_wp2
      refine bodyPost_ret (v := .tuple #[.agg #[.int .i64 (0), .int .i64 (0)], .int .i64 (1)]) (by simp only [results, Tryd.results26]; go_simp) rfl ⟨?_, ?_⟩
      · exact ret_rat HM.out
      · exact (by repeat' (first | (with_reducible exact Below.refl _ _) | (with_reducible assumption) | (with_reducible refine below_drewN ?_ _) | (with_reducible refine below_step (by assumption) ?_ ?_) | (with_reducible refine Below.alloc ?_ ?_ _) | (with_reducible refine Below.setCell ?_ ?_ _) | (with_reducible refine Below.drew ?_) | go_size | (exact Below.size (by assumption)) | (refine Nat.le_trans (Below.size (by assumption)) ?_)))
    · rw [mulM_both _ _ _ _ va vb] at hm
      have ba := vld_bd va
      have bb := vld_bd vb
      have HM := Lib.hid hm
      have VA := Lib.hid va
      have VB := Lib.hid vb
      clear hm va vb
      go_enter Tryd.func26, Tryd.ntmps26
      go_wp2_with fail
      refine (rvalid_any _ _ (by omega) (by omega) (by omega) (by omega) _).mono ?_
      rw [VA.out]
      rintro e w1 ⟨rfl, hb1⟩
      (have xa : Box2 w1 w.heap.size (.int .i64 a1) (.int .i64 a2) := Box2.keep (by assumption) (by repeat' (first | (with_reducible assumption) | (with_reducible refine Box2.drewN ?_ _) | (with_reducible refine Box2.drew ?_) | (with_reducible exact Box2.new _ _ _ _) | (with_reducible exact Box2.new1 _ _ _ _ _) | (with_reducible exact Box2.new2 _ _ _ _ _ _) | (with_reducible refine Box2.alloc ?_ _))); obtain ⟨c0xa, c1xa, f0xa, f1xa, zxa⟩ := id xa)
      (have xb : Box2 w1 (w.heap.size + 1) (.int .i64 b1) (.int .i64 b2) := Box2.keep (by assumption) (by repeat' (first | (with_reducible assumption) | (with_reducible refine Box2.drewN ?_ _) | (with_reducible refine Box2.drew ?_) | (with_reducible exact Box2.new _ _ _ _) | (with_reducible exact Box2.new1 _ _ _ _ _) | (with_reducible exact Box2.new2 _ _ _ _ _ _) | (with_reducible refine Box2.alloc ?_ _))); obtain ⟨c0xb, c1xb, f0xb, f1xb, zxb⟩ := id xb)
      (have x1 : Box2 w1 (w.heap.size + 1 + 1) (.int .i64 0) (.int .i64 0) := Box2.keep (by assumption) (by repeat' (first | (with_reducible assumption) | (with_reducible refine Box2.drewN ?_ _) | (with_reducible refine Box2.drew ?_) | (with_reducible exact Box2.new _ _ _ _) | (with_reducible exact Box2.new1 _ _ _ _ _) | (with_reducible exact Box2.new2 _ _ _ _ _ _) | (with_reducible refine Box2.alloc ?_ _))); obtain ⟨c0x1, c1x1, f0x1, f1x1, zx1⟩ := id x1)
      go_wp2_with fail
      refine (rvalid_any _ _ (by omega) (by omega) (by omega) (by omega) _).mono ?_
      rw [VB.out]
      rintro e w2 ⟨rfl, hb2⟩
      (have ya : Box2 w2 w.heap.size (.int .i64 a1) (.int .i64 a2) := Box2.keep (by assumption) (by repeat' (first | (with_reducible assumption) | (with_reducible refine Box2.drewN ?_ _) | (with_reducible refine Box2.drew ?_) | (with_reducible exact Box2.new _ _ _ _) | (with_reducible exact Box2.new1 _ _ _ _ _) | (with_reducible exact Box2.new2 _ _ _ _ _ _) | (with_reducible refine Box2.alloc ?_ _))); obtain ⟨c0ya, c1ya, f0ya, f1ya, zya⟩ := id ya)
      (have yb : Box2 w2 (w.heap.size + 1) (.int .i64 b1) (.int .i64 b2) := Box2.keep (by assumption) (by repeat' (first | (with_reducible assumption) | (with_reducible refine Box2.drewN ?_ _) | (with_reducible refine Box2.drew ?_) | (with_reducible exact Box2.new _ _ _ _) | (with_reducible exact Box2.new1 _ _ _ _ _) | (with_reducible exact Box2.new2 _ _ _ _ _ _) | (with_reducible refine Box2.alloc ?_ _))); obtain ⟨c0yb, c1yb, f0yb, f1yb, zyb⟩ := id yb)
      (have x2 : Box2 w2 (w.heap.size + 1 + 1) (.int .i64 0) (.int .i64 0) := Box2.keep (by assumption) (by repeat' (first | (with_reducible assumption) | (with_reducible refine Box2.drewN ?_ _) | (with_reducible refine Box2.drew ?_) | (with_reducible exact Box2.new _ _ _ _) | (with_reducible exact Box2.new1 _ _ _ _ _) | (with_reducible exact Box2.new2 _ _ _ _ _ _) | (with_reducible refine Box2.alloc ?_ _))); obtain ⟨c0x2, c1x2, f0x2, f1x2, zx2⟩ := id x2)
      clear xa c0xa c1xa f0xa f1xa zxa xb c0xb c1xb f0xb f1xb zxb x1 c0x1 c1x1 f0x1 f1x1
      go_wp2_with fail
      refine region_grow_tail 22 (by kernel_rfl) (by kernel_rfl) ?_
      simp only [List.take_succ_cons, List.take_zero, List.drop_succ_cons, List.drop_zero]
      repeat (go_big_quiet_step ((first | (go_at_call 59; exact grow_call_same (size_any _ (by omega) (by omega) _)) | (go_at_call 63; exact grow_call (product_mul _ a1 a2 b1 b2 p q z HM.out (by omega) (by omega) (by omega) (by omega) (by omega) (by omega) _)))))
      refine wpQuiet_nil ?_
      rintro w3 ⟨xg, hxg⟩
      have hb3 := below_grow w2 xg
      rw [← hxg] at hb3
      clear hxg xg
      (have x3 : Box2 w3 (w.heap.size + 1 + 1) (.int .i64 0) (.int .i64 0) := Box2.keep (by assumption) (by repeat' (first | (with_reducible assumption) | (with_reducible refine Box2.drewN ?_ _) | (with_reducible refine Box2.drew ?_) | (with_reducible exact Box2.new _ _ _ _) | (with_reducible exact Box2.new1 _ _ _ _ _) | (with_reducible exact Box2.new2 _ _ _ _ _ _) | (with_reducible refine Box2.alloc ?_ _))); obtain ⟨c0x3, c1x3, f0x3, f1x3, zx3⟩ := id x3)
      go_wp2
      refine bodyPost_ret (v := .tuple #[.agg #[.int .i64 (p), .int .i64 (q)], .int .i64 (z)]) (by simp only [results, Tryd.results26]; go_simp) rfl ⟨?_, ?_⟩
      · rfl
      · exact (by repeat' (first | (with_reducible exact Below.refl _ _) | (with_reducible assumption) | (with_reducible refine below_drewN ?_ _) | (with_reducible refine below_step (by assumption) ?_ ?_) | (with_reducible refine Below.alloc ?_ ?_ _) | (with_reducible refine Below.setCell ?_ ?_ _) | (with_reducible refine Below.drew ?_) | go_size | (exact Below.size (by assumption)) | (refine Nat.le_trans (Below.size (by assumption)) ?_)))

set_option maxRecDepth 100000 in
set_option maxHeartbeats 2000000 in
theorem rdiv_any (a1 a2 b1 b2 p q z : Int) (hm : divM a1 a2 b1 b2 = (p, q, z)) (h1 : -9223372036854775808 ≤ a1) (h2 : a1 ≤ 9223372036854775807) (h3 : -9223372036854775808 ≤ a2) (h4 : a2 ≤ 9223372036854775807)
    (h5 : -9223372036854775808 ≤ b1) (h6 : b1 ≤ 9223372036854775807) (h7 : -9223372036854775808 ≤ b2) (h8 : b2 ≤ 9223372036854775807) (w : World) :
    Calls Tryd.prog 28 #[.agg #[.int .i64 a1, .int .i64 a2], .agg #[.int .i64 b1, .int .i64 b2]] w fun e w' => e = .returned (.tuple #[.agg #[.int .i64 p, .int .i64 q], .int .i64 z]) ∧ Below w.heap.size w w' := by
  cases va : vld a1 a2
  · unfold divM at hm
    rw [if_neg (by simp [va])] at hm
    have HM := Lib.hid hm
    have VA := Lib.hid va
    clear hm va
    go_enter Tryd.func28, Tryd.ntmps28
    go_wp2_with ((go_at_call 19; refine (rvalid_any _ _ (by omega) (by omega) (by omega) (by omega) _).mono ?_; rw [VA.out]; rintro e w1 ⟨rfl, hb1⟩; (have x1 : Box2 w1 (w.heap.size + 1 + 1) (.int .i64 0) (.int .i64 0) := Box2.keep (by assumption) (by repeat' (first | (with_reducible assumption) | (with_reducible refine Box2.drewN ?_ _) | (with_reducible refine Box2.drew ?_) | (with_reducible exact Box2.new _ _ _ _) | (with_reducible exact Box2.new1 _ _ _ _ _) | (with_reducible exact Box2.new2 _ _ _ _ _ _) | (with_reducible refine Box2.alloc ?_ _))); obtain ⟨c0x1, c1x1, f0x1, f1x1, zx1⟩ := id x1)))
    refine bodyPost_ret (v := .tuple #[.agg #[.int .i64 (0), .int .i64 (0)], .int .i64 (1)]) (by simp only [results, Tryd.results28]; go_simp) rfl ⟨?_, ?_⟩
    · exact ret_rat HM.out
    · exact (by repeat' (first | (with_reducible exact Below.refl _ _) | (with_reducible assumption) | (with_reducible refine below_drewN ?_ _) | (with_reducible refine below_step (by assumption) ?_ ?_) | (with_reducible refine Below.alloc ?_ ?_ _) | (with_reducible refine Below.setCell ?_ ?_ _) | (with_reducible refine Below.drew ?_) | go_size | (exact Below.size (by assumption)) | (refine Nat.le_trans (Below.size (by assumption)) ?_)))
  · cases vb : vld b1 b2
    · unfold divM at hm
      rw [if_neg (by simp [vb])] at hm
      have HM := Lib.hid hm
      have VA := Lib.hid va
      have VB := Lib.hid vb
      clear hm va vb
      go_enter Tryd.func28, Tryd.ntmps28
      go_wp2_with fail
      refine (rvalid_any _ _ (by omega) (by omega) (by omega) (by omega) _).mono ?_
      rw [VA.out]
      rintro e w1 ⟨rfl, hb1⟩
      (have xb : Box2 w1 (w.heap.size + 1) (.int .i64 b1) (.int .i64 b2) := Box2.keep (by assumption) (by repeat' (first | (with_reducible assumption) | (with_reducible refine Box2.drewN ?_ _) | (with_reducible refine Box2.drew ?_) | (with_reducible exact Box2.new _ _ _ _) | (with_reducible exact Box2.new1 _ _ _ _ _) | (with_reducible exact Box2.new2 _ _ _ _ _ _) | (with_reducible refine Box2.alloc ?_ _))); obtain ⟨c0xb, c1xb, f0xb, f1xb, zxb⟩ := id xb)
      (have x1 : Box2 w1 (w.heap.size + 1 + 1) (.int .i64 0) (.int .i64 0) := Box2.keep (by assumption) (by repeat' (first | (with_reducible assumption) | (with_reducible refine Box2.drewN ?_ _) | (with_reducible refine Box2.drew ?_) | (with_reducible exact Box2.new _ _ _ _) | (with_reducible exact Box2.new1 _ _ _ _ _) | (with_reducible exact Box2.new2 _ _ _ _ _ _) | (with_reducible refine Box2.alloc ?_ _))); obtain ⟨c0x1, c1x1, f0x1, f1x1, zx1⟩ := id x1)
      go_wp2_with fail
      refine (rvalid_any _ _ (by omega) (by omega) (by omega) (by omega) _).mono ?_
      rw [VB.out]
      rintro e w2 ⟨rfl, hb2⟩
      (have x2 : Box2 w2 (w.heap.size + 1 + 1) (.int .i64 0) (.int .i64 0) := Box2.keep (by assumption) (by repeat' (first | (with_reducible assumption) | (with_reducible refine Box2.drewN ?_ _) | (with_reducible refine Box2.drew ?_) | (with_reducible exact Box2.new _ _ _ _) | (with_reducible exact Box2.new1 _ _ _ _ _) | (with_reducible exact Box2.new2 _ _ _ _ _ _) | (with_reducible refine Box2.alloc ?_ _))); obtain ⟨c0x2, c1x2, f0x2, f1x2, zx2⟩ := id x2)
      go_wp2
      refine bodyPost_ret (v := .tuple #[.agg #[.int .i64 (0), .int .i64 (0)], .int .i64 (1)]) (by simp only [results, Tryd.results28]; go_simp) rfl ⟨?_, ?_⟩
      · exact ret_rat HM.out
      · exact (by repeat' (first | (with_reducible exact Below.refl _ _) | (with_reducible assumption) | (with_reducible refine below_drewN ?_ _) | (with_reducible refine below_step (by assumption) ?_ ?_) | (with_reducible refine Below.alloc ?_ ?_ _) | (with_reducible refine Below.setCell ?_ ?_ _) | (with_reducible refine Below.drew ?_) | go_size | (exact Below.size (by assumption)) | (refine Nat.le_trans (Below.size (by assumption)) ?_)))
    · by_cases z0 : b1 = 0
      · subst z0
        rw [divM_zero] at hm
        have HM := Lib.hid hm
        have VA := Lib.hid va
        have VB := Lib.hid vb
        clear hm va vb
        go_enter Tryd.func28, Tryd.ntmps28
        go_wp2_with fail
        refine (rvalid_any _ _ (by omega) (by omega) (by omega) (by omega) _).mono ?_
        rw [VA.out]
        rintro e w1 ⟨rfl, hb1⟩
        (have xa : Box2 w1 w.heap.size (.int .i64 a1) (.int .i64 a2) := Box2.keep (by assumption) (by repeat' (first | (with_reducible assumption) | (with_reducible refine Box2.drewN ?_ _) | (with_reducible refine Box2.drew ?_) | (with_reducible exact Box2.new _ _ _ _) | (with_reducible exact Box2.new1 _ _ _ _ _) | (with_reducible exact Box2.new2 _ _ _ _ _ _) | (with_reducible refine Box2.alloc ?_ _))); obtain ⟨c0xa, c1xa, f0xa, f1xa, zxa⟩ := id xa)
        (have xb : Box2 w1 (w.heap.size + 1) (.int .i64 0) (.int .i64 b2) := Box2.keep (by assumption) (by repeat' (first | (with_reducible assumption) | (with_reducible refine Box2.drewN ?_ _) | (with_reducible refine Box2.drew ?_) | (with_reducible exact Box2.new _ _ _ _) | (with_reducible exact Box2.new1 _ _ _ _ _) | (with_reducible exact Box2.new2 _ _ _ _ _ _) | (with_reducible refine Box2.alloc ?_ _))); obtain ⟨c0xb, c1xb, f0xb, f1xb, zxb⟩ := id xb)
        (have x1 : Box2 w1 (w.heap.size + 1 + 1) (.int .i64 0) (.int .i64 0) := Box2.keep (by assumption) (by repeat' (first | (with_reducible assumption) | (with_reducible refine Box2.drewN ?_ _) | (with_reducible refine Box2.drew ?_) | (with_reducible exact Box2.new _ _ _ _) | (with_reducible exact Box2.new1 _ _ _ _ _) | (with_reducible exact Box2.new2 _ _ _ _ _ _) | (with_reducible refine Box2.alloc ?_ _))); obtain ⟨c0x1, c1x1, f0x1, f1x1, zx1⟩ := id x1)
        go_wp2_with fail
        refine (rvalid_any _ _ (by omega) (by omega) (by omega) (by omega) _).mono ?_
        rw [VB.out]
        rintro e w2 ⟨rfl, hb2⟩
        (have ya : Box2 w2 w.heap.size (.int .i64 a1) (.int .i64 a2) := Box2.keep (by assumption) (by repeat' (first | (with_reducible assumption) | (with_reducible refine Box2.drewN ?_ _) | (with_reducible refine Box2.drew ?_) | (with_reducible exact Box2.new _ _ _ _) | (with_reducible exact Box2.new1 _ _ _ _ _) | (with_reducible exact Box2.new2 _ _ _ _ _ _) | (with_reducible refine Box2.alloc ?_ _))); obtain ⟨c0ya, c1ya, f0ya, f1ya, zya⟩ := id ya)
        (have yb : Box2 w2 (w.heap.size + 1) (.int .i64 0) (.int .i64 b2) := Box2.keep (by assumption) (by repeat' (first | (with_reducible assumption) | (with_reducible refine Box2.drewN ?_ _) | (with_reducible refine Box2.drew ?_) | (with_reducible exact Box2.new _ _ _ _) | (with_reducible exact Box2.new1 _ _ _ _ _) | (with_reducible exact Box2.new2 _ _ _ _ _ _) | (with_reducible refine Box2.alloc ?_ _))); obtain ⟨c0yb, c1yb, f0yb, f1yb, zyb⟩ := id yb)
        (have x2 : Box2 w2 (w.heap.size + 1 + 1) (.int .i64 0) (.int .i64 0) := Box2.keep (by assumption) (by repeat' (first | (with_reducible assumption) | (with_reducible refine Box2.drewN ?_ _) | (with_reducible refine Box2.drew ?_) | (with_reducible exact Box2.new _ _ _ _) | (with_reducible exact Box2.new1 _ _ _ _ _) | (with_reducible exact Box2.new2 _ _ _ _ _ _) | (with_reducible refine Box2.alloc ?_ _))); obtain ⟨c0x2, c1x2, f0x2, f1x2, zx2⟩ := id x2)
        clear xa c0xa c1xa f0xa f1xa zxa xb c0xb c1xb f0xb f1xb zxb x1 c0x1 c1x1 f0x1 f1x1
        go_wp2_with fail
        refine bodyPost_ret (v := .tuple #[.agg #[.int .i64 (0), .int .i64 (0)], .int .i64 (1)]) (by simp only [results, Tryd.results28]; go_simp) rfl ⟨?_, ?_⟩
        · exact ret_rat HM.out
        · exact (by repeat' (first | (with_reducible exact Below.refl _ _) | (with_reducible assumption) | (with_reducible refine below_drewN ?_ _) | (with_reducible refine below_step (by assumption) ?_ ?_) | (with_reducible refine Below.alloc ?_ ?_ _) | (with_reducible refine Below.setCell ?_ ?_ _) | (with_reducible refine Below.drew ?_) | go_size | (exact Below.size (by assumption)) | (refine Nat.le_trans (Below.size (by assumption)) ?_)))
      · have e0 : (b1 == 0) = false := by rw [beq_eq_false_iff_ne]; exact z0
        rw [divM_both _ _ _ _ va vb z0] at hm
        have ba := vld_bd va
        have bb := vld_bd vb
        have HM := Lib.hid hm
        have VA := Lib.hid va
        have VB := Lib.hid vb
        clear hm va vb
        go_enter Tryd.func28, Tryd.ntmps28
        go_wp2_with fail
        refine (rvalid_any _ _ (by omega) (by omega) (by omega) (by omega) _).mono ?_
        rw [VA.out]
        rintro e w1 ⟨rfl, hb1⟩
        (have xa : Box2 w1 w.heap.size (.int .i64 a1) (.int .i64 a2) := Box2.keep (by assumption) (by repeat' (first | (with_reducible assumption) | (with_reducible refine Box2.drewN ?_ _) | (with_reducible refine Box2.drew ?_) | (with_reducible exact Box2.new _ _ _ _) | (with_reducible exact Box2.new1 _ _ _ _ _) | (with_reducible exact Box2.new2 _ _ _ _ _ _) | (with_reducible refine Box2.alloc ?_ _))); obtain ⟨c0xa, c1xa, f0xa, f1xa, zxa⟩ := id xa)
        (have xb : Box2 w1 (w.heap.size + 1) (.int .i64 b1) (.int .i64 b2) := Box2.keep (by assumption) (by repeat' (first | (with_reducible assumption) | (with_reducible refine Box2.drewN ?_ _) | (with_reducible refine Box2.drew ?_) | (with_reducible exact Box2.new _ _ _ _) | (with_reducible exact Box2.new1 _ _ _ _ _) | (with_reducible exact Box2.new2 _ _ _ _ _ _) | (with_reducible refine Box2.alloc ?_ _))); obtain ⟨c0xb, c1xb, f0xb, f1xb, zxb⟩ := id xb)
        (have x1 : Box2 w1 (w.heap.size + 1 + 1) (.int .i64 0) (.int .i64 0) := Box2.keep (by assumption) (by repeat' (first | (with_reducible assumption) | (with_reducible refine Box2.drewN ?_ _) | (with_reducible refine Box2.drew ?_) | (with_reducible exact Box2.new _ _ _ _) | (with_reducible exact Box2.new1 _ _ _ _ _) | (with_reducible exact Box2.new2 _ _ _ _ _ _) | (with_reducible refine Box2.alloc ?_ _))); obtain ⟨c0x1, c1x1, f0x1, f1x1, zx1⟩ := id x1)
        go_wp2_with fail
        refine (rvalid_any _ _ (by omega) (by omega) (by omega) (by omega) _).mono ?_
        rw [VB.out]
        rintro e w2 ⟨rfl, hb2⟩
        (have ya : Box2 w2 w.heap.size (.int .i64 a1) (.int .i64 a2) := Box2.keep (by assumption) (by repeat' (first | (with_reducible assumption) | (with_reducible refine Box2.drewN ?_ _) | (with_reducible refine Box2.drew ?_) | (with_reducible exact Box2.new _ _ _ _) | (with_reducible exact Box2.new1 _ _ _ _ _) | (with_reducible exact Box2.new2 _ _ _ _ _ _) | (with_reducible refine Box2.alloc ?_ _))); obtain ⟨c0ya, c1ya, f0ya, f1ya, zya⟩ := id ya)
        (have yb : Box2 w2 (w.heap.size + 1) (.int .i64 b1) (.int .i64 b2) := Box2.keep (by assumption) (by repeat' (first | (with_reducible assumption) | (with_reducible refine Box2.drewN ?_ _) | (with_reducible refine Box2.drew ?_) | (with_reducible exact Box2.new _ _ _ _) | (with_reducible exact Box2.new1 _ _ _ _ _) | (with_reducible exact Box2.new2 _ _ _ _ _ _) | (with_reducible refine Box2.alloc ?_ _))); obtain ⟨c0yb, c1yb, f0yb, f1yb, zyb⟩ := id yb)
        (have x2 : Box2 w2 (w.heap.size + 1 + 1) (.int .i64 0) (.int .i64 0) := Box2.keep (by assumption) (by repeat' (first | (with_reducible assumption) | (with_reducible refine Box2.drewN ?_ _) | (with_reducible refine Box2.drew ?_) | (with_reducible exact Box2.new _ _ _ _) | (with_reducible exact Box2.new1 _ _ _ _ _) | (with_reducible exact Box2.new2 _ _ _ _ _ _) | (with_reducible refine Box2.alloc ?_ _))); obtain ⟨c0x2, c1x2, f0x2, f1x2, zx2⟩ := id x2)
        clear xa c0xa c1xa f0xa f1xa zxa xb c0xb c1xb f0xb f1xb zxb x1 c0x1 c1x1 f0x1 f1x1
        go_wp2_with fail
        refine region_grow_tail 22 (by kernel_rfl) (by kernel_rfl) ?_
        simp only [List.take_succ_cons, List.take_zero, List.drop_succ_cons, List.drop_zero]
        repeat (go_big_quiet_step ((first | (go_at_call 59; exact grow_call_same (size_any _ (by omega) (by omega) _)) | (go_at_call 63; exact grow_call (product_div _ a1 a2 b1 b2 p q z HM.out (by omega) (by omega) (by omega) (by omega) (by omega) (by omega) z0 _)))))
        refine wpQuiet_nil ?_
        rintro w3 ⟨xg, hxg⟩
        have hb3 := below_grow w2 xg
        rw [← hxg] at hb3
        clear hxg xg
        (have x3 : Box2 w3 (w.heap.size + 1 + 1) (.int .i64 0) (.int .i64 0) := Box2.keep (by assumption) (by repeat' (first | (with_reducible assumption) | (with_reducible refine Box2.drewN ?_ _) | (with_reducible refine Box2.drew ?_) | (with_reducible exact Box2.new _ _ _ _) | (with_reducible exact Box2.new1 _ _ _ _ _) | (with_reducible exact Box2.new2 _ _ _ _ _ _) | (with_reducible refine Box2.alloc ?_ _))); obtain ⟨c0x3, c1x3, f0x3, f1x3, zx3⟩ := id x3)
        go_wp2
        refine bodyPost_ret (v := .tuple #[.agg #[.int .i64 (p), .int .i64 (q)], .int .i64 (z)]) (by simp only [results, Tryd.results28]; go_simp) rfl ⟨?_, ?_⟩
        · rfl
        · exact (by repeat' (first | (with_reducible exact Below.refl _ _) | (with_reducible assumption) | (with_reducible refine below_drewN ?_ _) | (with_reducible refine below_step (by assumption) ?_ ?_) | (with_reducible refine Below.alloc ?_ ?_ _) | (with_reducible refine Below.setCell ?_ ?_ _) | (with_reducible refine Below.drew ?_) | go_size | (exact Below.size (by assumption)) | (refine Nat.le_trans (Below.size (by assumption)) ?_)))
end Go.Proofs.YtclbjgelefbmlaaDoor
