/-
  hours: THE WALK.
-/
import Derived.Test.YtclbjgelefbmlaaDoorCalG
import Derived.Test.YtclbjgelefbmlaaDoorCalH
namespace Go.Proofs.YtclbjgelefbmlaaDoor
open Go.RowKit
theorem hours_shut {k : Cal} {d a b : Int} (h : opn k d = false) : hrs k d a b = 0 := by rw [hrs, h]; rfl
theorem hours_open {k : Cal} {d a b lo hi : Int} (h : opn k d = true) (h1 : lo = max a (d * 1440 + k.s)) (h2 : hi = min b (d * 1440 + k.e)) : hrs k d a b = max 0 (hi - lo) := by rw [hrs, if_pos h, h1, h2]
set_option maxRecDepth 100000 in
set_option maxHeartbeats 4000000 in
theorem hours_any (K : Cal) (day a b : Int) (h0 : 0 ≤ day) (h1 : day ≤ 2000) (ha : 0 ≤ a) (ha2 : a ≤ 2880000) (hb : 0 ≤ b) (hb2 : b ≤ 2880000) (hh : ¬ badHours K.s K.e) (w : World) (hk : CalIn w K) :
    Calls Tryd.prog 69 #[K.v, .int .i64 day, .int .i64 a, .int .i64 b] w fun e w' => e = .returned (.int .i64 (hrs K day a b)) ∧ Below w.heap.size w w' := by
  obtain ⟨y, hy⟩ : ∃ y, opn K day = y := ⟨_, rfl⟩
  have HY := Lib.hid hy
  have HK := Lib.hid hk
  obtain ⟨s, e, A1, n1, m1, A2, n2, m2, ls, ld⟩ := K
  simp only [badHours] at hh
  have s0 : 0 ≤ s := by omega
  have s1 : s ≤ 1439 := by omega
  have e0 : 1 ≤ e := by omega
  have e1 : e ≤ 1440 := by omega
  clear hy hk hh
  simp only [Cal.v]
  cases y
  · go_enter Tryd.func69, Tryd.ntmps69
    go_wp2_with fail
    refine (ropen_any ⟨s, e, A1, n1, m1, A2, n2, m2, ls, ld⟩ day h0 _ (HK.out.below (by repeat' (first | (with_reducible exact Below.refl _ _) | (with_reducible assumption) | (with_reducible refine below_drewN ?_ _) | (with_reducible refine below_step (by assumption) ?_ ?_) | (with_reducible refine Below.alloc ?_ ?_ _) | (with_reducible refine Below.setCell ?_ ?_ _) | (with_reducible refine Below.drew ?_) | go_size | (exact Below.size (by assumption)) | (refine Nat.le_trans (Below.size (by assumption)) ?_))))).mono ?_
    rw [HY.out]
    rintro e' w1 ⟨rfl, hb1⟩
    go_wp2
    go_ret
    exact ⟨ret_int2 (hours_shut HY.out), (by repeat' (first | (with_reducible exact Below.refl _ _) | (with_reducible assumption) | (with_reducible refine below_drewN ?_ _) | (with_reducible refine below_step (by assumption) ?_ ?_) | (with_reducible refine Below.alloc ?_ ?_ _) | (with_reducible refine Below.setCell ?_ ?_ _) | (with_reducible refine Below.drew ?_) | go_size | (exact Below.size (by assumption)) | (refine Nat.le_trans (Below.size (by assumption)) ?_)))⟩
  · obtain ⟨p, hp⟩ : ∃ p, p = day * 1440 := ⟨_, rfl⟩
    have q1 : IntKind.i64.wrap (day * 1440) = p := by rw [hp]; exact IntWalk.i64_in _ ⟨by omega, by omega⟩
    have q2 : IntKind.i64.wrap (p + s) = p + s := IntWalk.i64_in _ ⟨by omega, by omega⟩
    have q3 : IntKind.i64.wrap (p + e) = p + e := IntWalk.i64_in _ ⟨by omega, by omega⟩
    have r0 : 0 ≤ p := by omega
    have r1 : p ≤ 2880000 := by omega
    have HP := Lib.hid hp
    clear hp
    by_cases c1 : p + s < a
    · skip
      by_cases c2 : b < p + e
      · skip
        by_cases c3 : b < a
        · skip
          go_enter Tryd.func69, Tryd.ntmps69
          go_wp2_with fail
          refine (ropen_any ⟨s, e, A1, n1, m1, A2, n2, m2, ls, ld⟩ day h0 _ (HK.out.below (by repeat' (first | (with_reducible exact Below.refl _ _) | (with_reducible assumption) | (with_reducible refine below_drewN ?_ _) | (with_reducible refine below_step (by assumption) ?_ ?_) | (with_reducible refine Below.alloc ?_ ?_ _) | (with_reducible refine Below.setCell ?_ ?_ _) | (with_reducible refine Below.drew ?_) | go_size | (exact Below.size (by assumption)) | (refine Nat.le_trans (Below.size (by assumption)) ?_))))).mono ?_
          rw [HY.out]
          rintro e' w1 ⟨rfl, hb1⟩
          have k1 := (Box4.new w ⟨s, e, A1, n1, m1, A2, n2, m2, ls, ld⟩ 41).keep hb1
          obtain ⟨p0, p1, p2, p3, p4⟩ := id k1
          simp only at p0 p1 p2 p3
          go_wp2
          go_quiet (fail)
          go_wp2
          go_ret
          exact ⟨ret_int2 ((hours_open (lo := a) (hi := b) HY.out (by simp only [← HP.out]; omega) (by simp only [← HP.out]; omega)).trans (by omega)), (by repeat' (first | (with_reducible exact Below.refl _ _) | (with_reducible assumption) | (with_reducible refine below_drewN ?_ _) | (with_reducible refine below_step (by assumption) ?_ ?_) | (with_reducible refine Below.alloc ?_ ?_ _) | (with_reducible refine Below.setCell ?_ ?_ _) | (with_reducible refine Below.drew ?_) | go_size | (exact Below.size (by assumption)) | (refine Nat.le_trans (Below.size (by assumption)) ?_)))⟩
        · have d3 : decide (b < a) = false := decide_eq_false c3
          have c3' : a ≤ b := by omega
          go_enter Tryd.func69, Tryd.ntmps69
          go_wp2_with fail
          refine (ropen_any ⟨s, e, A1, n1, m1, A2, n2, m2, ls, ld⟩ day h0 _ (HK.out.below (by repeat' (first | (with_reducible exact Below.refl _ _) | (with_reducible assumption) | (with_reducible refine below_drewN ?_ _) | (with_reducible refine below_step (by assumption) ?_ ?_) | (with_reducible refine Below.alloc ?_ ?_ _) | (with_reducible refine Below.setCell ?_ ?_ _) | (with_reducible refine Below.drew ?_) | go_size | (exact Below.size (by assumption)) | (refine Nat.le_trans (Below.size (by assumption)) ?_))))).mono ?_
          rw [HY.out]
          rintro e' w1 ⟨rfl, hb1⟩
          have k1 := (Box4.new w ⟨s, e, A1, n1, m1, A2, n2, m2, ls, ld⟩ 41).keep hb1
          obtain ⟨p0, p1, p2, p3, p4⟩ := id k1
          simp only at p0 p1 p2 p3
          go_wp2
          go_quiet (fail)
          go_wp2
          go_ret
          exact ⟨ret_int2 ((hours_open (lo := a) (hi := b) HY.out (by simp only [← HP.out]; omega) (by simp only [← HP.out]; omega)).trans (by omega)), (by repeat' (first | (with_reducible exact Below.refl _ _) | (with_reducible assumption) | (with_reducible refine below_drewN ?_ _) | (with_reducible refine below_step (by assumption) ?_ ?_) | (with_reducible refine Below.alloc ?_ ?_ _) | (with_reducible refine Below.setCell ?_ ?_ _) | (with_reducible refine Below.drew ?_) | go_size | (exact Below.size (by assumption)) | (refine Nat.le_trans (Below.size (by assumption)) ?_)))⟩
      · have d2 : decide (b < p + e) = false := decide_eq_false c2
        have c2' : p + e ≤ b := by omega
        by_cases c3 : p + e < a
        · skip
          go_enter Tryd.func69, Tryd.ntmps69
          go_wp2_with fail
          refine (ropen_any ⟨s, e, A1, n1, m1, A2, n2, m2, ls, ld⟩ day h0 _ (HK.out.below (by repeat' (first | (with_reducible exact Below.refl _ _) | (with_reducible assumption) | (with_reducible refine below_drewN ?_ _) | (with_reducible refine below_step (by assumption) ?_ ?_) | (with_reducible refine Below.alloc ?_ ?_ _) | (with_reducible refine Below.setCell ?_ ?_ _) | (with_reducible refine Below.drew ?_) | go_size | (exact Below.size (by assumption)) | (refine Nat.le_trans (Below.size (by assumption)) ?_))))).mono ?_
          rw [HY.out]
          rintro e' w1 ⟨rfl, hb1⟩
          have k1 := (Box4.new w ⟨s, e, A1, n1, m1, A2, n2, m2, ls, ld⟩ 41).keep hb1
          obtain ⟨p0, p1, p2, p3, p4⟩ := id k1
          simp only at p0 p1 p2 p3
          go_wp2
          go_quiet (fail)
          go_wp2
          go_ret
          exact ⟨ret_int2 ((hours_open (lo := a) (hi := p + e) HY.out (by simp only [← HP.out]; omega) (by simp only [← HP.out]; omega)).trans (by omega)), (by repeat' (first | (with_reducible exact Below.refl _ _) | (with_reducible assumption) | (with_reducible refine below_drewN ?_ _) | (with_reducible refine below_step (by assumption) ?_ ?_) | (with_reducible refine Below.alloc ?_ ?_ _) | (with_reducible refine Below.setCell ?_ ?_ _) | (with_reducible refine Below.drew ?_) | go_size | (exact Below.size (by assumption)) | (refine Nat.le_trans (Below.size (by assumption)) ?_)))⟩
        · have d3 : decide (p + e < a) = false := decide_eq_false c3
          have c3' : a ≤ p + e := by omega
          go_enter Tryd.func69, Tryd.ntmps69
          go_wp2_with fail
          refine (ropen_any ⟨s, e, A1, n1, m1, A2, n2, m2, ls, ld⟩ day h0 _ (HK.out.below (by repeat' (first | (with_reducible exact Below.refl _ _) | (with_reducible assumption) | (with_reducible refine below_drewN ?_ _) | (with_reducible refine below_step (by assumption) ?_ ?_) | (with_reducible refine Below.alloc ?_ ?_ _) | (with_reducible refine Below.setCell ?_ ?_ _) | (with_reducible refine Below.drew ?_) | go_size | (exact Below.size (by assumption)) | (refine Nat.le_trans (Below.size (by assumption)) ?_))))).mono ?_
          rw [HY.out]
          rintro e' w1 ⟨rfl, hb1⟩
          have k1 := (Box4.new w ⟨s, e, A1, n1, m1, A2, n2, m2, ls, ld⟩ 41).keep hb1
          obtain ⟨p0, p1, p2, p3, p4⟩ := id k1
          simp only at p0 p1 p2 p3
          go_wp2
          go_quiet (fail)
          go_wp2
          go_ret
          exact ⟨ret_int2 ((hours_open (lo := a) (hi := p + e) HY.out (by simp only [← HP.out]; omega) (by simp only [← HP.out]; omega)).trans (by omega)), (by repeat' (first | (with_reducible exact Below.refl _ _) | (with_reducible assumption) | (with_reducible refine below_drewN ?_ _) | (with_reducible refine below_step (by assumption) ?_ ?_) | (with_reducible refine Below.alloc ?_ ?_ _) | (with_reducible refine Below.setCell ?_ ?_ _) | (with_reducible refine Below.drew ?_) | go_size | (exact Below.size (by assumption)) | (refine Nat.le_trans (Below.size (by assumption)) ?_)))⟩
    · have d1 : decide (p + s < a) = false := decide_eq_false c1
      have c1' : a ≤ p + s := by omega
      by_cases c2 : b < p + e
      · skip
        by_cases c3 : b < p + s
        · skip
          go_enter Tryd.func69, Tryd.ntmps69
          go_wp2_with fail
          refine (ropen_any ⟨s, e, A1, n1, m1, A2, n2, m2, ls, ld⟩ day h0 _ (HK.out.below (by repeat' (first | (with_reducible exact Below.refl _ _) | (with_reducible assumption) | (with_reducible refine below_drewN ?_ _) | (with_reducible refine below_step (by assumption) ?_ ?_) | (with_reducible refine Below.alloc ?_ ?_ _) | (with_reducible refine Below.setCell ?_ ?_ _) | (with_reducible refine Below.drew ?_) | go_size | (exact Below.size (by assumption)) | (refine Nat.le_trans (Below.size (by assumption)) ?_))))).mono ?_
          rw [HY.out]
          rintro e' w1 ⟨rfl, hb1⟩
          have k1 := (Box4.new w ⟨s, e, A1, n1, m1, A2, n2, m2, ls, ld⟩ 41).keep hb1
          obtain ⟨p0, p1, p2, p3, p4⟩ := id k1
          simp only at p0 p1 p2 p3
          go_wp2
          go_quiet (fail)
          go_wp2
          go_ret
          exact ⟨ret_int2 ((hours_open (lo := p + s) (hi := b) HY.out (by simp only [← HP.out]; omega) (by simp only [← HP.out]; omega)).trans (by omega)), (by repeat' (first | (with_reducible exact Below.refl _ _) | (with_reducible assumption) | (with_reducible refine below_drewN ?_ _) | (with_reducible refine below_step (by assumption) ?_ ?_) | (with_reducible refine Below.alloc ?_ ?_ _) | (with_reducible refine Below.setCell ?_ ?_ _) | (with_reducible refine Below.drew ?_) | go_size | (exact Below.size (by assumption)) | (refine Nat.le_trans (Below.size (by assumption)) ?_)))⟩
        · have d3 : decide (b < p + s) = false := decide_eq_false c3
          have c3' : p + s ≤ b := by omega
          go_enter Tryd.func69, Tryd.ntmps69
          go_wp2_with fail
          refine (ropen_any ⟨s, e, A1, n1, m1, A2, n2, m2, ls, ld⟩ day h0 _ (HK.out.below (by repeat' (first | (with_reducible exact Below.refl _ _) | (with_reducible assumption) | (with_reducible refine below_drewN ?_ _) | (with_reducible refine below_step (by assumption) ?_ ?_) | (with_reducible refine Below.alloc ?_ ?_ _) | (with_reducible refine Below.setCell ?_ ?_ _) | (with_reducible refine Below.drew ?_) | go_size | (exact Below.size (by assumption)) | (refine Nat.le_trans (Below.size (by assumption)) ?_))))).mono ?_
          rw [HY.out]
          rintro e' w1 ⟨rfl, hb1⟩
          have k1 := (Box4.new w ⟨s, e, A1, n1, m1, A2, n2, m2, ls, ld⟩ 41).keep hb1
          obtain ⟨p0, p1, p2, p3, p4⟩ := id k1
          simp only at p0 p1 p2 p3
          go_wp2
          go_quiet (fail)
          go_wp2
          go_ret
          exact ⟨ret_int2 ((hours_open (lo := p + s) (hi := b) HY.out (by simp only [← HP.out]; omega) (by simp only [← HP.out]; omega)).trans (by omega)), (by repeat' (first | (with_reducible exact Below.refl _ _) | (with_reducible assumption) | (with_reducible refine below_drewN ?_ _) | (with_reducible refine below_step (by assumption) ?_ ?_) | (with_reducible refine Below.alloc ?_ ?_ _) | (with_reducible refine Below.setCell ?_ ?_ _) | (with_reducible refine Below.drew ?_) | go_size | (exact Below.size (by assumption)) | (refine Nat.le_trans (Below.size (by assumption)) ?_)))⟩
      · have d2 : decide (b < p + e) = false := decide_eq_false c2
        have c2' : p + e ≤ b := by omega
        by_cases c3 : p + e < p + s
        · skip
          go_enter Tryd.func69, Tryd.ntmps69
          go_wp2_with fail
          refine (ropen_any ⟨s, e, A1, n1, m1, A2, n2, m2, ls, ld⟩ day h0 _ (HK.out.below (by repeat' (first | (with_reducible exact Below.refl _ _) | (with_reducible assumption) | (with_reducible refine below_drewN ?_ _) | (with_reducible refine below_step (by assumption) ?_ ?_) | (with_reducible refine Below.alloc ?_ ?_ _) | (with_reducible refine Below.setCell ?_ ?_ _) | (with_reducible refine Below.drew ?_) | go_size | (exact Below.size (by assumption)) | (refine Nat.le_trans (Below.size (by assumption)) ?_))))).mono ?_
          rw [HY.out]
          rintro e' w1 ⟨rfl, hb1⟩
          have k1 := (Box4.new w ⟨s, e, A1, n1, m1, A2, n2, m2, ls, ld⟩ 41).keep hb1
          obtain ⟨p0, p1, p2, p3, p4⟩ := id k1
          simp only at p0 p1 p2 p3
          go_wp2
          go_quiet (fail)
          go_wp2
          go_ret
          exact ⟨ret_int2 ((hours_open (lo := p + s) (hi := p + e) HY.out (by simp only [← HP.out]; omega) (by simp only [← HP.out]; omega)).trans (by omega)), (by repeat' (first | (with_reducible exact Below.refl _ _) | (with_reducible assumption) | (with_reducible refine below_drewN ?_ _) | (with_reducible refine below_step (by assumption) ?_ ?_) | (with_reducible refine Below.alloc ?_ ?_ _) | (with_reducible refine Below.setCell ?_ ?_ _) | (with_reducible refine Below.drew ?_) | go_size | (exact Below.size (by assumption)) | (refine Nat.le_trans (Below.size (by assumption)) ?_)))⟩
        · have d3 : decide (p + e < p + s) = false := decide_eq_false c3
          have c3' : p + s ≤ p + e := by omega
          go_enter Tryd.func69, Tryd.ntmps69
          go_wp2_with fail
          refine (ropen_any ⟨s, e, A1, n1, m1, A2, n2, m2, ls, ld⟩ day h0 _ (HK.out.below (by repeat' (first | (with_reducible exact Below.refl _ _) | (with_reducible assumption) | (with_reducible refine below_drewN ?_ _) | (with_reducible refine below_step (by assumption) ?_ ?_) | (with_reducible refine Below.alloc ?_ ?_ _) | (with_reducible refine Below.setCell ?_ ?_ _) | (with_reducible refine Below.drew ?_) | go_size | (exact Below.size (by assumption)) | (refine Nat.le_trans (Below.size (by assumption)) ?_))))).mono ?_
          rw [HY.out]
          rintro e' w1 ⟨rfl, hb1⟩
          have k1 := (Box4.new w ⟨s, e, A1, n1, m1, A2, n2, m2, ls, ld⟩ 41).keep hb1
          obtain ⟨p0, p1, p2, p3, p4⟩ := id k1
          simp only at p0 p1 p2 p3
          go_wp2
          go_quiet (fail)
          go_wp2
          go_ret
          exact ⟨ret_int2 ((hours_open (lo := p + s) (hi := p + e) HY.out (by simp only [← HP.out]; omega) (by simp only [← HP.out]; omega)).trans (by omega)), (by repeat' (first | (with_reducible exact Below.refl _ _) | (with_reducible assumption) | (with_reducible refine below_drewN ?_ _) | (with_reducible refine below_step (by assumption) ?_ ?_) | (with_reducible refine Below.alloc ?_ ?_ _) | (with_reducible refine Below.setCell ?_ ?_ _) | (with_reducible refine Below.drew ?_) | go_size | (exact Below.size (by assumption)) | (refine Nat.le_trans (Below.size (by assumption)) ?_)))⟩
end Go.Proofs.YtclbjgelefbmlaaDoor
