/-
  THE WALKS OF Compare, Floor AND Round, THE PROGRAM'S AND THE REFERENCE'S.
-/
import Derived.Test.YtaadelcmhbgpnaaGreatDoorNumB
namespace Go.Proofs.YtaadelcmhbgpnaaGreatDoor
open Go.RowKit
def cmpI (x y : Int) : Int := if x < y then -1 else if y < x then 1 else 0
def cmpM (a1 a2 b1 b2 : Int) : Int × Int := if vld a1 a2 = true ∧ vld b1 b2 = true then (cmpI (a1 * b2) (b1 * a2), 0) else (0, 1)
theorem cmpM_cases (a1 a2 b1 b2 : Int) : vld a1 a2 = true → vld b1 b2 = true → cmpM a1 a2 b1 b2 = (cmpI (a1 * b2) (b1 * a2), 0) := fun h k => if_pos ⟨h, k⟩
theorem ret_two {a b c d : Int} (h : (a, b) = (c, d)) : Ending.returned (.tuple #[.int .i64 a, .int .i64 b]) = .returned (.tuple #[.int .i64 c, .int .i64 d]) := by
  simp only [Prod.mk.injEq] at h
  obtain ⟨rfl, rfl⟩ := h
  rfl
theorem floor_neg {n d : Int} (hd : 0 < d) (h : n.tmod d < 0) : n / d = n.tdiv d - 1 := by
  have h1 := Int.mul_tdiv_add_tmod n d
  have h2 := Int.mul_ediv_add_emod n d
  have h3 := Int.lt_tmod_of_pos n hd
  have h4 := Int.emod_nonneg n (show d ≠ 0 by omega)
  have h5 := Int.emod_lt_of_pos n hd
  refine Int.le_antisymm ?_ ?_
  · refine Int.le_of_lt_add_one ?_
    refine Int.lt_of_mul_lt_mul_left (a := d) ?_ (Int.le_of_lt hd)
    have : d * (n.tdiv d - 1 + 1) = d * n.tdiv d := by rw [Int.sub_add_cancel]
    rw [this]
    omega
  · refine Int.le_of_lt_add_one ?_
    refine Int.lt_of_mul_lt_mul_left (a := d) ?_ (Int.le_of_lt hd)
    have e1 : d * (n.tdiv d - 1) = d * n.tdiv d - d := by rw [Int.mul_sub, Int.mul_one]
    have e2 : d * (n / d + 1) = d * (n / d) + d := by rw [Int.mul_add, Int.mul_one]
    rw [e1, e2]
    omega
theorem floor_pos {n d : Int} (hd : 0 < d) (h : ¬ n.tmod d < 0) : n / d = n.tdiv d := by
  have h1 := Int.mul_tdiv_add_tmod n d
  have h2 := Int.mul_ediv_add_emod n d
  have h3 := Int.tmod_lt_of_pos n hd
  have h4 := Int.emod_nonneg n (show d ≠ 0 by omega)
  have h5 := Int.emod_lt_of_pos n hd
  refine Int.le_antisymm ?_ ?_
  · refine Int.le_of_lt_add_one ?_
    refine Int.lt_of_mul_lt_mul_left (a := d) ?_ (Int.le_of_lt hd)
    rw [Int.mul_add, Int.mul_one]
    omega
  · refine Int.le_of_lt_add_one ?_
    refine Int.lt_of_mul_lt_mul_left (a := d) ?_ (Int.le_of_lt hd)
    rw [Int.mul_add, Int.mul_one]
    omega

theorem floor_any (n d : Int) (hd : 1 ≤ d) (hd2 : d ≤ 1048576) (h1 : -1099511627776 ≤ n) (h2 : n ≤ 1099511627776) (w : World) :
    Calls Tryz.prog 85 #[.int .i64 n, .int .i64 d] w fun e w' => e = .returned (.int .i64 (n / d)) ∧ w = w' := by
  have hz : ¬ d = 0 := by omega
  have b1 : (n.tdiv d).natAbs ≤ n.natAbs := by rw [Int.natAbs_tdiv]; exact Nat.div_le_self _ _
  by_cases h : n.tmod d < 0
  · have H := Lib.hid (floor_neg (by omega) h)
    go_enter Tryz.func85, Tryz.ntmps85
    go_wp2
    go_ret
    exact ⟨ret_int H.out.symm, rfl⟩
  · have H := Lib.hid (floor_pos (by omega) h)
    go_enter Tryz.func85, Tryz.ntmps85
    go_wp2
    go_ret
    exact ⟨ret_int H.out.symm, rfl⟩

/-- The nearest integer, the even one of two. -/
def rndI (n d : Int) : Int :=
  if d < 2 * (n - n / d * d) then n / d + 1
  else if 2 * (n - n / d * d) = d ∧ (n / d).tmod 2 ≠ 0 then n / d + 1
  else n / d
theorem fl_bd {n d : Int} (hd : 1 ≤ d) (h1 : -1099511627776 ≤ n) (h2 : n ≤ 1099511627776) : -1099511627776 ≤ n / d ∧ n / d ≤ 1099511627776 ∧ 0 ≤ n - n / d * d ∧ n - n / d * d < d := by
  have e1 := Int.mul_ediv_add_emod n d
  have e2 := Int.emod_nonneg n (show d ≠ 0 by omega)
  have e3 := Int.emod_lt_of_pos n (show 0 < d by omega)
  rw [Int.mul_comm d] at e1
  have b1 : n / d ≤ 1099511627776 := by
    rcases Int.le_total 0 n with h | h
    · exact Int.le_trans (Int.ediv_le_self d h) h2
    · have : n / d ≤ 0 := by
        have := Int.ediv_nonpos_of_nonpos_of_neg h (show 0 < d by omega)
        exact this
      omega
  have b2 : -1099511627776 ≤ n / d := Int.le_ediv_of_mul_le (by omega) (by
    have : -1099511627776 * d ≤ -1099511627776 * 1 := Int.mul_le_mul_of_nonpos_left (by omega) (by omega)
    omega)
  omega

set_option maxHeartbeats 1000000 in
theorem round_any (a1 a2 x z : Int) (hm : (if vld a1 a2 = true then (rndI a1 a2, 0) else (0, 1)) = (x, z)) (h1 : -9223372036854775808 ≤ a1) (h2 : a1 ≤ 9223372036854775807) (h3 : -9223372036854775808 ≤ a2) (h4 : a2 ≤ 9223372036854775807) (w : World) :
    Calls Tryz.prog 64 #[.agg #[.int .i64 a1, .int .i64 a2]] w fun e w' => e = .returned (.tuple #[.int .i64 x, .int .i64 z]) ∧ Below w.heap.size w w' := by
  cases va : vld a1 a2
  · rw [if_neg (by simp [va])] at hm
    have HM := Lib.hid hm
    have VA := Lib.hid va
    clear hm va
    go_enter Tryz.func64, Tryz.ntmps64
    go_wp2_with fail
    refine (valid_any _ _ (by omega) (by omega) (by omega) (by omega) _).mono ?_
    rw [VA.out]
    rintro e w1 ⟨rfl, hb1⟩
    go_wp2
    go_ret2
    exact ⟨ret_two HM.out, (by repeat' (first | (with_reducible exact Below.refl _ _) | (with_reducible assumption) | (with_reducible refine below_drewN ?_ _) | (with_reducible refine below_step (by assumption) ?_ ?_) | (with_reducible refine Below.alloc ?_ ?_ _) | (with_reducible refine Below.setCell ?_ ?_ _) | (with_reducible refine Below.drew ?_) | go_size | (exact Below.size (by assumption)) | (refine Nat.le_trans (Below.size (by assumption)) ?_)))⟩
  · rw [if_pos va] at hm
    have ba := vld_bd va
    have fb := fl_bd (n := a1) (d := a2) (by omega) (by omega) (by omega)
    unfold rndI at hm
    have VA := Lib.hid va
    clear va
    have F1 := floor_any a1 a2 (by omega) (by omega) (by omega) (by omega)
    obtain ⟨q, hq⟩ : ∃ q, a1 / a2 = q := ⟨_, rfl⟩
    rw [hq] at hm fb F1
    clear hq
    by_cases c1 : a2 < 2 * (a1 - q * a2)
    · rw [if_pos c1] at hm
      have d1 : decide (a2 < 2 * (a1 - q * a2)) = true := decide_eq_true c1
      have HM := Lib.hid hm
      clear hm
      go_enter Tryz.func64, Tryz.ntmps64
      go_wp2_with fail
      refine (valid_any _ _ (by omega) (by omega) (by omega) (by omega) _).mono ?_
      rw [VA.out]
      rintro e w1 ⟨rfl, hb1⟩
      (have xa : Box2 w1 w.heap.size (.int .i64 a1) (.int .i64 a2) := Box2.keep (by assumption) (by repeat' (first | (with_reducible assumption) | (with_reducible refine Box2.drewN ?_ _) | (with_reducible refine Box2.drew ?_) | (with_reducible exact Box2.new _ _ _ _) | (with_reducible exact Box2.new1 _ _ _ _ _) | (with_reducible exact Box2.new2 _ _ _ _ _ _) | (with_reducible refine Box2.alloc ?_ _))); obtain ⟨c0xa, c1xa, f0xa, f1xa, zxa⟩ := id xa)
      go_wp2_with fail
      refine (F1 _).mono ?_
      rintro e w' ⟨rfl, rfl⟩
      go_wp2
      go_ret2
      exact ⟨ret_two HM.out, (by repeat' (first | (with_reducible exact Below.refl _ _) | (with_reducible assumption) | (with_reducible refine below_drewN ?_ _) | (with_reducible refine below_step (by assumption) ?_ ?_) | (with_reducible refine Below.alloc ?_ ?_ _) | (with_reducible refine Below.setCell ?_ ?_ _) | (with_reducible refine Below.drew ?_) | go_size | (exact Below.size (by assumption)) | (refine Nat.le_trans (Below.size (by assumption)) ?_)))⟩
    · by_cases c2 : 2 * (a1 - q * a2) = a2
      · by_cases c3 : q.tmod 2 = 0
        · rw [if_neg c1, if_neg (fun h => h.2 c3)] at hm
          have d1 : decide (a2 < 2 * (a1 - q * a2)) = false := decide_eq_false c1
          have d2 : (2 * (a1 - q * a2) == a2) = true := by rw [beq_iff_eq]; exact c2
          have d3 : (q.tmod 2 != 0) = false := by rw [c3]; rfl
          clear c2 c3
          have HM := Lib.hid hm
          clear hm
          go_enter Tryz.func64, Tryz.ntmps64
          go_wp2_with fail
          refine (valid_any _ _ (by omega) (by omega) (by omega) (by omega) _).mono ?_
          rw [VA.out]
          rintro e w1 ⟨rfl, hb1⟩
          (have xa : Box2 w1 w.heap.size (.int .i64 a1) (.int .i64 a2) := Box2.keep (by assumption) (by repeat' (first | (with_reducible assumption) | (with_reducible refine Box2.drewN ?_ _) | (with_reducible refine Box2.drew ?_) | (with_reducible exact Box2.new _ _ _ _) | (with_reducible exact Box2.new1 _ _ _ _ _) | (with_reducible exact Box2.new2 _ _ _ _ _ _) | (with_reducible refine Box2.alloc ?_ _))); obtain ⟨c0xa, c1xa, f0xa, f1xa, zxa⟩ := id xa)
          go_wp2_with fail
          refine (F1 _).mono ?_
          rintro e w' ⟨rfl, rfl⟩
          go_wp2
          go_ret2
          exact ⟨ret_two HM.out, (by repeat' (first | (with_reducible exact Below.refl _ _) | (with_reducible assumption) | (with_reducible refine below_drewN ?_ _) | (with_reducible refine below_step (by assumption) ?_ ?_) | (with_reducible refine Below.alloc ?_ ?_ _) | (with_reducible refine Below.setCell ?_ ?_ _) | (with_reducible refine Below.drew ?_) | go_size | (exact Below.size (by assumption)) | (refine Nat.le_trans (Below.size (by assumption)) ?_)))⟩
        · rw [if_neg c1, if_pos ⟨c2, c3⟩] at hm
          have d1 : decide (a2 < 2 * (a1 - q * a2)) = false := decide_eq_false c1
          have d2 : (2 * (a1 - q * a2) == a2) = true := by rw [beq_iff_eq]; exact c2
          have d3 : (q.tmod 2 != 0) = true := by rw [bne_iff_ne]; exact c3
          clear c2
          have HM := Lib.hid hm
          clear hm
          go_enter Tryz.func64, Tryz.ntmps64
          go_wp2_with fail
          refine (valid_any _ _ (by omega) (by omega) (by omega) (by omega) _).mono ?_
          rw [VA.out]
          rintro e w1 ⟨rfl, hb1⟩
          (have xa : Box2 w1 w.heap.size (.int .i64 a1) (.int .i64 a2) := Box2.keep (by assumption) (by repeat' (first | (with_reducible assumption) | (with_reducible refine Box2.drewN ?_ _) | (with_reducible refine Box2.drew ?_) | (with_reducible exact Box2.new _ _ _ _) | (with_reducible exact Box2.new1 _ _ _ _ _) | (with_reducible exact Box2.new2 _ _ _ _ _ _) | (with_reducible refine Box2.alloc ?_ _))); obtain ⟨c0xa, c1xa, f0xa, f1xa, zxa⟩ := id xa)
          go_wp2_with fail
          refine (F1 _).mono ?_
          rintro e w' ⟨rfl, rfl⟩
          go_wp2
          go_ret2
          exact ⟨ret_two HM.out, (by repeat' (first | (with_reducible exact Below.refl _ _) | (with_reducible assumption) | (with_reducible refine below_drewN ?_ _) | (with_reducible refine below_step (by assumption) ?_ ?_) | (with_reducible refine Below.alloc ?_ ?_ _) | (with_reducible refine Below.setCell ?_ ?_ _) | (with_reducible refine Below.drew ?_) | go_size | (exact Below.size (by assumption)) | (refine Nat.le_trans (Below.size (by assumption)) ?_)))⟩
      · rw [if_neg c1, if_neg (fun h => c2 h.1)] at hm
        have d1 : decide (a2 < 2 * (a1 - q * a2)) = false := decide_eq_false c1
        have d2 : (2 * (a1 - q * a2) == a2) = false := by rw [beq_eq_false_iff_ne]; exact c2
        have HM := Lib.hid hm
        clear hm
        go_enter Tryz.func64, Tryz.ntmps64
        go_wp2_with fail
        refine (valid_any _ _ (by omega) (by omega) (by omega) (by omega) _).mono ?_
        rw [VA.out]
        rintro e w1 ⟨rfl, hb1⟩
        (have xa : Box2 w1 w.heap.size (.int .i64 a1) (.int .i64 a2) := Box2.keep (by assumption) (by repeat' (first | (with_reducible assumption) | (with_reducible refine Box2.drewN ?_ _) | (with_reducible refine Box2.drew ?_) | (with_reducible exact Box2.new _ _ _ _) | (with_reducible exact Box2.new1 _ _ _ _ _) | (with_reducible exact Box2.new2 _ _ _ _ _ _) | (with_reducible refine Box2.alloc ?_ _))); obtain ⟨c0xa, c1xa, f0xa, f1xa, zxa⟩ := id xa)
        go_wp2_with fail
        refine (F1 _).mono ?_
        rintro e w' ⟨rfl, rfl⟩
        go_wp2
        go_ret2
        exact ⟨ret_two HM.out, (by repeat' (first | (with_reducible exact Below.refl _ _) | (with_reducible assumption) | (with_reducible refine below_drewN ?_ _) | (with_reducible refine below_step (by assumption) ?_ ?_) | (with_reducible refine Below.alloc ?_ ?_ _) | (with_reducible refine Below.setCell ?_ ?_ _) | (with_reducible refine Below.drew ?_) | go_size | (exact Below.size (by assumption)) | (refine Nat.le_trans (Below.size (by assumption)) ?_)))⟩

end Go.Proofs.YtaadelcmhbgpnaaGreatDoor
