/-
  THE WALKS OF Compare, Floor AND Round, THE PROGRAM'S AND THE REFERENCE'S.
-/
import Derived.Test.YtdgmpaijpjkeoaaNumB
namespace Go.Proofs.Ytdgmpaijpjkeoaa
open Go.RowKit
def cmpI (x y : Int) : Int := if x < y then -1 else if y < x then 1 else 0
def cmpM (a1 a2 b1 b2 : Int) : Int × Int := if vld a1 a2 = true ∧ vld b1 b2 = true then (cmpI (a1 * b2) (b1 * a2), 0) else (0, 1)
theorem cmpM_cases (a1 a2 b1 b2 : Int) : vld a1 a2 = true → vld b1 b2 = true → cmpM a1 a2 b1 b2 = (cmpI (a1 * b2) (b1 * a2), 0) := fun h k => if_pos ⟨h, k⟩
theorem ret_two {a b c d : Int} (h : (a, b) = (c, d)) : Ending.returned (.tuple #[.int .i64 a, .int .i64 b]) = .returned (.tuple #[.int .i64 c, .int .i64 d]) := by
  simp only [Prod.mk.injEq] at h
  obtain ⟨rfl, rfl⟩ := h
  rfl
theorem compare_any (x y : Int) (w : World) :
    Calls Try.prog 82 #[.int .i64 x, .int .i64 y] w fun e w' => e = .returned (.int .i64 (cmpI x y)) ∧ w = w' := by
  by_cases h1 : x < y
  · go_enter Try.func82, Try.ntmps82
    have hs : x ≤ y := by omega
    have hne : (x == x) = true := by simp
    have hne2 : (y == y) = true := by simp
    go_wp2
    go_ret
    exact ⟨ret_int (by rw [cmpI, if_pos h1]), rfl⟩
  · by_cases h2 : y < x
    · go_enter Try.func82, Try.ntmps82
      go_wp2
      go_ret
      exact ⟨ret_int (by rw [cmpI, if_neg (by omega), if_pos h2]), rfl⟩
    · go_enter Try.func82, Try.ntmps82
      go_wp2
      go_ret
      exact ⟨ret_int (by rw [cmpI, if_neg (by omega), if_neg (by omega)]), rfl⟩

set_option maxHeartbeats 2000000 in
theorem ncompare_any (a1 a2 b1 b2 x z : Int) (hm : cmpM a1 a2 b1 b2 = (x, z)) (h1 : -9223372036854775808 ≤ a1) (h2 : a1 ≤ 9223372036854775807) (h3 : -9223372036854775808 ≤ a2) (h4 : a2 ≤ 9223372036854775807)
    (h5 : -9223372036854775808 ≤ b1) (h6 : b1 ≤ 9223372036854775807) (h7 : -9223372036854775808 ≤ b2) (h8 : b2 ≤ 9223372036854775807) (w : World) :
    Calls Try.prog 49 #[.agg #[.int .i64 a1, .int .i64 a2], .agg #[.int .i64 b1, .int .i64 b2]] w fun e w' => e = .returned (.tuple #[.int .i64 x, .int .i64 z]) ∧ Below w.heap.size w w' := by
  cases va : vld a1 a2
  · unfold cmpM at hm
    rw [if_neg (by simp [va])] at hm
    have HM := Lib.hid hm
    have VA := Lib.hid va
    clear hm va
    go_enter Try.func49, Try.ntmps49
    go_wp2_with fail
    refine (valid_any _ _ (by omega) (by omega) (by omega) (by omega) _).mono ?_
    rw [VA.out]
    rintro e w1 ⟨rfl, hb1⟩
    go_wp2
    go_ret2
    exact ⟨ret_two HM.out, (by repeat' (first | (with_reducible exact Below.refl _ _) | (with_reducible assumption) | (with_reducible refine below_drewN ?_ _) | (with_reducible refine below_step (by assumption) ?_ ?_) | (with_reducible refine Below.alloc ?_ ?_ _) | (with_reducible refine Below.setCell ?_ ?_ _) | (with_reducible refine Below.drew ?_) | go_size | (exact Below.size (by assumption)) | (refine Nat.le_trans (Below.size (by assumption)) ?_)))⟩
  · cases vb : vld b1 b2
    · unfold cmpM at hm
      rw [if_neg (by simp [vb])] at hm
      have HM := Lib.hid hm
      have VA := Lib.hid va
      have VB := Lib.hid vb
      clear hm va vb
      go_enter Try.func49, Try.ntmps49
      go_wp2_with fail
      refine (valid_any _ _ (by omega) (by omega) (by omega) (by omega) _).mono ?_
      rw [VA.out]
      rintro e w1 ⟨rfl, hb1⟩
      (have xb : Box2 w1 (w.heap.size + 1) (.int .i64 b1) (.int .i64 b2) := Box2.keep (by assumption) (by repeat' (first | (with_reducible assumption) | (with_reducible refine Box2.drewN ?_ _) | (with_reducible refine Box2.drew ?_) | (with_reducible exact Box2.new _ _ _ _) | (with_reducible exact Box2.new1 _ _ _ _ _) | (with_reducible exact Box2.new2 _ _ _ _ _ _) | (with_reducible refine Box2.alloc ?_ _))); obtain ⟨c0xb, c1xb, f0xb, f1xb, zxb⟩ := id xb)
      go_wp2_with fail
      refine (valid_any _ _ (by omega) (by omega) (by omega) (by omega) _).mono ?_
      rw [VB.out]
      rintro e w2 ⟨rfl, hb2⟩
      go_wp2
      go_ret2
      exact ⟨ret_two HM.out, (by repeat' (first | (with_reducible exact Below.refl _ _) | (with_reducible assumption) | (with_reducible refine below_drewN ?_ _) | (with_reducible refine below_step (by assumption) ?_ ?_) | (with_reducible refine Below.alloc ?_ ?_ _) | (with_reducible refine Below.setCell ?_ ?_ _) | (with_reducible refine Below.drew ?_) | go_size | (exact Below.size (by assumption)) | (refine Nat.le_trans (Below.size (by assumption)) ?_)))⟩
    · rw [cmpM_cases _ _ _ _ va vb] at hm
      have ba := vld_bd va
      have bb := vld_bd vb
      have m1 := mul_bd (x := a1) (y := b2) (by omega) (by omega) (by omega) (by omega)
      have m2 := mul_bd (x := b1) (y := a2) (by omega) (by omega) (by omega) (by omega)
      have u1 : IntKind.i64.wrap (a1 * b2) = a1 * b2 := IntWalk.i64_in _ ⟨by omega, by omega⟩
      have u2 : IntKind.i64.wrap (b1 * a2) = b1 * a2 := IntWalk.i64_in _ ⟨by omega, by omega⟩
      have HM := Lib.hid hm
      have VA := Lib.hid va
      have VB := Lib.hid vb
      clear hm va vb
      go_enter Try.func49, Try.ntmps49
      go_wp2_with fail
      refine (valid_any _ _ (by omega) (by omega) (by omega) (by omega) _).mono ?_
      rw [VA.out]
      rintro e w1 ⟨rfl, hb1⟩
      (have xa : Box2 w1 w.heap.size (.int .i64 a1) (.int .i64 a2) := Box2.keep (by assumption) (by repeat' (first | (with_reducible assumption) | (with_reducible refine Box2.drewN ?_ _) | (with_reducible refine Box2.drew ?_) | (with_reducible exact Box2.new _ _ _ _) | (with_reducible exact Box2.new1 _ _ _ _ _) | (with_reducible exact Box2.new2 _ _ _ _ _ _) | (with_reducible refine Box2.alloc ?_ _))); obtain ⟨c0xa, c1xa, f0xa, f1xa, zxa⟩ := id xa)
      (have xb : Box2 w1 (w.heap.size + 1) (.int .i64 b1) (.int .i64 b2) := Box2.keep (by assumption) (by repeat' (first | (with_reducible assumption) | (with_reducible refine Box2.drewN ?_ _) | (with_reducible refine Box2.drew ?_) | (with_reducible exact Box2.new _ _ _ _) | (with_reducible exact Box2.new1 _ _ _ _ _) | (with_reducible exact Box2.new2 _ _ _ _ _ _) | (with_reducible refine Box2.alloc ?_ _))); obtain ⟨c0xb, c1xb, f0xb, f1xb, zxb⟩ := id xb)
      go_wp2_with fail
      refine (valid_any _ _ (by omega) (by omega) (by omega) (by omega) _).mono ?_
      rw [VB.out]
      rintro e w2 ⟨rfl, hb2⟩
      (have ya : Box2 w2 w.heap.size (.int .i64 a1) (.int .i64 a2) := Box2.keep (by assumption) (by repeat' (first | (with_reducible assumption) | (with_reducible refine Box2.drewN ?_ _) | (with_reducible refine Box2.drew ?_) | (with_reducible exact Box2.new _ _ _ _) | (with_reducible exact Box2.new1 _ _ _ _ _) | (with_reducible exact Box2.new2 _ _ _ _ _ _) | (with_reducible refine Box2.alloc ?_ _))); obtain ⟨c0ya, c1ya, f0ya, f1ya, zya⟩ := id ya)
      (have yb : Box2 w2 (w.heap.size + 1) (.int .i64 b1) (.int .i64 b2) := Box2.keep (by assumption) (by repeat' (first | (with_reducible assumption) | (with_reducible refine Box2.drewN ?_ _) | (with_reducible refine Box2.drew ?_) | (with_reducible exact Box2.new _ _ _ _) | (with_reducible exact Box2.new1 _ _ _ _ _) | (with_reducible exact Box2.new2 _ _ _ _ _ _) | (with_reducible refine Box2.alloc ?_ _))); obtain ⟨c0yb, c1yb, f0yb, f1yb, zyb⟩ := id yb)
      go_wp2_with fail
      refine (compare_any _ _ _).mono ?_
      rintro e w' ⟨rfl, rfl⟩
      go_wp2
      go_ret2
      exact ⟨ret_two HM.out, (by repeat' (first | (with_reducible exact Below.refl _ _) | (with_reducible assumption) | (with_reducible refine below_drewN ?_ _) | (with_reducible refine below_step (by assumption) ?_ ?_) | (with_reducible refine Below.alloc ?_ ?_ _) | (with_reducible refine Below.setCell ?_ ?_ _) | (with_reducible refine Below.drew ?_) | go_size | (exact Below.size (by assumption)) | (refine Nat.le_trans (Below.size (by assumption)) ?_)))⟩

theorem floor_neg {n d : Int} (hd : 0 < d) (h : n.tmod d < 0) : n / d = n.tdiv d - 1 := by
  have h1 := Int.mul_tdiv_add_tmod n d
  have h2 := Int.mul_ediv_add_emod n d
  have h3 := Int.lt_tmod_of_pos n hd
  have h4 := Int.emod_nonneg n (show d ≠ 0 by omega)
  have h5 := Int.emod_lt_of_pos n hd
  refine Int.le_antisymm ?_ ?_
  · refine Int.le_of_lt_add_one ?_
    refine Int.lt_of_mul_lt_mul_left (a := d) ?_ (Int.le_of_lt hd)
    have : d * (n.tdiv d - 1 + 1) = d * n.tdiv d := by rw [Int.sub_add_cancel]
    rw [this]
    omega
  · refine Int.le_of_lt_add_one ?_
    refine Int.lt_of_mul_lt_mul_left (a := d) ?_ (Int.le_of_lt hd)
    have e1 : d * (n.tdiv d - 1) = d * n.tdiv d - d := by rw [Int.mul_sub, Int.mul_one]
    have e2 : d * (n / d + 1) = d * (n / d) + d := by rw [Int.mul_add, Int.mul_one]
    rw [e1, e2]
    omega
theorem floor_pos {n d : Int} (hd : 0 < d) (h : ¬ n.tmod d < 0) : n / d = n.tdiv d := by
  have h1 := Int.mul_tdiv_add_tmod n d
  have h2 := Int.mul_ediv_add_emod n d
  have h3 := Int.tmod_lt_of_pos n hd
  have h4 := Int.emod_nonneg n (show d ≠ 0 by omega)
  have h5 := Int.emod_lt_of_pos n hd
  refine Int.le_antisymm ?_ ?_
  · refine Int.le_of_lt_add_one ?_
    refine Int.lt_of_mul_lt_mul_left (a := d) ?_ (Int.le_of_lt hd)
    rw [Int.mul_add, Int.mul_one]
    omega
  · refine Int.le_of_lt_add_one ?_
    refine Int.lt_of_mul_lt_mul_left (a := d) ?_ (Int.le_of_lt hd)
    rw [Int.mul_add, Int.mul_one]
    omega

/-- The nearest integer, the even one of two. -/
def rndI (n d : Int) : Int :=
  if d < 2 * (n - n / d * d) then n / d + 1
  else if 2 * (n - n / d * d) = d ∧ (n / d).tmod 2 ≠ 0 then n / d + 1
  else n / d
theorem fl_bd {n d : Int} (hd : 1 ≤ d) (h1 : -1099511627776 ≤ n) (h2 : n ≤ 1099511627776) : -1099511627776 ≤ n / d ∧ n / d ≤ 1099511627776 ∧ 0 ≤ n - n / d * d ∧ n - n / d * d < d := by
  have e1 := Int.mul_ediv_add_emod n d
  have e2 := Int.emod_nonneg n (show d ≠ 0 by omega)
  have e3 := Int.emod_lt_of_pos n (show 0 < d by omega)
  rw [Int.mul_comm d] at e1
  have b1 : n / d ≤ 1099511627776 := by
    rcases Int.le_total 0 n with h | h
    · exact Int.le_trans (Int.ediv_le_self d h) h2
    · have : n / d ≤ 0 := by
        have := Int.ediv_nonpos_of_nonpos_of_neg h (show 0 < d by omega)
        exact this
      omega
  have b2 : -1099511627776 ≤ n / d := Int.le_ediv_of_mul_le (by omega) (by
    have : -1099511627776 * d ≤ -1099511627776 * 1 := Int.mul_le_mul_of_nonpos_left (by omega) (by omega)
    omega)
  omega

end Go.Proofs.Ytdgmpaijpjkeoaa
