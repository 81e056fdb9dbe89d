/-
  Working, THE PROGRAM'S AND THE REFERENCE'S.
-/
import Derived.Test.YtclbjgelefbmlaaDoorCalI
namespace Go.Proofs.YtclbjgelefbmlaaDoor
open Go.RowKit
noncomputable def wrk (K : Cal) (a b : Int) : Int × Int := if cerr K = 0 then if 0 ≤ a ∧ a ≤ b ∧ b ≤ 2880000 then (total K a b 2000, 0) else (0, 1) else (0, cerr K)
theorem wrk_err {K : Cal} {a b z : Int} (hz : cerr K = z) (h : z ≠ 0) : wrk K a b = (0, z) := by rw [wrk, hz, if_neg h]
theorem wrk_out {K : Cal} {a b : Int} (hz : cerr K = 0) (h : ¬ (0 ≤ a ∧ a ≤ b ∧ b ≤ 2880000)) : wrk K a b = (0, 1) := by rw [wrk, if_pos hz, if_neg h]
theorem wrk_in {K : Cal} {a b : Int} (hz : cerr K = 0) (h : 0 ≤ a ∧ a ≤ b ∧ b ≤ 2880000) : wrk K a b = (total K a b 2000, 0) := by rw [wrk, if_pos hz, if_pos h]
theorem total_succ (K : Cal) (a b : Int) (n : Nat) : total K a b (n + 1) = total K a b n + hrs K n a b := rfl
set_option maxRecDepth 100000 in
set_option maxHeartbeats 4000000 in
theorem rworking_any (K : Cal) (a b v z : Int) (hr : wrk K a b = (v, z)) (w : World) (hk : CalIn w K) :
    Calls Tryd.prog 39 #[K.v, .int .i64 a, .int .i64 b] w fun e w' => e = .returned (.tuple #[.int .i64 v, .int .i64 z]) ∧ Below w.heap.size w w' := by
  have HK := Lib.hid hk
  have HR := Lib.hid hr
  obtain ⟨x, hx⟩ : ∃ x, cerr K = x := ⟨_, rfl⟩
  have HX := Lib.hid hx
  obtain ⟨s, e, A1, n1, m1, A2, n2, m2, ls, ld⟩ := K
  clear hr hk hx
  simp only [Cal.v]
  by_cases c0 : x = 0
  · subst c0
    by_cases c3 : 0 ≤ a ∧ a ≤ b ∧ b ≤ 2880000
    · have HN := Lib.hid ((wrk_in HX.out c3).symm.trans HR.out)
      obtain ⟨c3, c4, c5⟩ := c3
      have d1 : decide (a < 0) = false := decide_eq_false (by omega)
      have d2 : decide (b < a) = false := decide_eq_false (by omega)
      have d3 : decide (2880000 < b) = false := decide_eq_false (by omega)
      have BH := Lib.hid (cerr_zero HX.out).1
      go_enter Tryd.func39, Tryd.ntmps39
      go_wp2_with fail
      refine (rvalidate_any ⟨s, e, A1, n1, m1, A2, n2, m2, ls, ld⟩ 0 HX.out _ (HK.out.below (by repeat' (first | (with_reducible exact Below.refl _ _) | (with_reducible assumption) | (with_reducible refine below_drewN ?_ _) | (with_reducible refine below_step (by assumption) ?_ ?_) | (with_reducible refine Below.alloc ?_ ?_ _) | (with_reducible refine Below.setCell ?_ ?_ _) | (with_reducible refine Below.drew ?_) | go_size | (exact Below.size (by assumption)) | (refine Nat.le_trans (Below.size (by assumption)) ?_))))).mono ?_
      rintro e' w1 ⟨rfl, hb1⟩
      have k1 := (Box4.new w ⟨s, e, A1, n1, m1, A2, n2, m2, ls, ld⟩ 41).keep hb1
      obtain ⟨p0, p1, p2, p3, p4⟩ := id k1
      simp only at p0 p1 p2 p3
      have hW : Below w.heap.size w w1 := (by repeat' (first | (with_reducible exact Below.refl _ _) | (with_reducible assumption) | (with_reducible refine below_drewN ?_ _) | (with_reducible refine below_step (by assumption) ?_ ?_) | (with_reducible refine Below.alloc ?_ ?_ _) | (with_reducible refine Below.setCell ?_ ?_ _) | (with_reducible refine Below.drew ?_) | go_size | (exact Below.size (by assumption)) | (refine Nat.le_trans (Below.size (by assumption)) ?_)))
      have HK1 := Lib.hid (HK.out.below hW)
      have HW := Lib.hid hW
      clear hW hb1
      go_wp2
      go_loopw [9, 10] (fun t i wr => ∃ (k : Nat) (u : Int), i = .int .i64 k ∧ t = .int .i64 u ∧ k ≤ 2000 ∧ 0 ≤ u ∧ u ≤ 1440 * k ∧ Hid (Below w.heap.size w wr ∧ CalIn wr ⟨s, e, A1, n1, m1, A2, n2, m2, ls, ld⟩ ∧ Box4 wr w.heap.size ⟨s, e, A1, n1, m1, A2, n2, m2, ls, ld⟩ ∧ total ⟨s, e, A1, n1, m1, A2, n2, m2, ls, ld⟩ a b k = u)) (fun _ i _ => 2000 - (intOf i).toNat)
      case atStart => exact ⟨0, 0, rfl, rfl, by omega, by omega, by omega, HW.out, HK1.out, k1, rfl⟩
      case round =>
        obtain ⟨k, u, rfl, rfl, hk, hu1, hu2, hs⟩ := hrel
        obtain ⟨hb, hc, hx, hn⟩ := hs.out
        by_cases hlt : k < 2000
        · clear p0 p1 p2 p3 p4
          obtain ⟨p0, p1, p2, p3, p4⟩ := id hx
          simp only at p0 p1 p2 p3
          obtain ⟨y, hy⟩ : ∃ y, hrs ⟨s, e, A1, n1, m1, A2, n2, m2, ls, ld⟩ k a b = y := ⟨_, rfl⟩
          have h1 := total_succ ⟨s, e, A1, n1, m1, A2, n2, m2, ls, ld⟩ a b k
          rw [hn, hy] at h1
          have H1 := Lib.hid h1
          have y1 : 0 ≤ y := by rw [← hy]; exact (hrs_bd (K := ⟨s, e, A1, n1, m1, A2, n2, m2, ls, ld⟩) BH.out k a b).1
          have y2 : y ≤ 1440 := by rw [← hy]; exact (hrs_bd (K := ⟨s, e, A1, n1, m1, A2, n2, m2, ls, ld⟩) BH.out k a b).2
          have HY := Lib.hid hy
          clear hb hc hx hn h1 hy
          go_wp2_with fail
          refine (hours_any ⟨s, e, A1, n1, m1, A2, n2, m2, ls, ld⟩ k a b (by omega) (by omega) c3 (by omega) (by omega) c5 BH.out _ hs.out.2.1).mono ?_
          rw [HY.out]
          rintro e' w2 ⟨rfl, hb2⟩
          have hb3 : Below w.heap.size w w2 := hs.out.1.trans (hb2.mono hs.out.1.size)
          have k2 := hs.out.2.2.1.keep hb2
          have HC := Lib.hid (hs.out.2.1.below hb2)
          have HB := Lib.hid hb3
          clear hb2 hb3
          go_wp2
          go_roundw
          case rel => exact ⟨k + 1, u + y, by go_num, by go_num, by omega, by omega, by omega, HB.out, HC.out, k2, H1.out⟩
          case measure => simp [intOf]; omega
        · have : k = 2000 := by omega
          subst this
          clear hb hc hx hn
          go_wp2
          go_ret2
          exact ⟨ret_ii (by rw [← HN.out, hs.out.2.2.2]), hs.out.1⟩
    · have C3 := Lib.hid c3
      by_cases c4 : a < 0
      · clear c3
        go_enter Tryd.func39, Tryd.ntmps39
        go_wp2_with fail
        refine (rvalidate_any ⟨s, e, A1, n1, m1, A2, n2, m2, ls, ld⟩ 0 HX.out _ (HK.out.below (by repeat' (first | (with_reducible exact Below.refl _ _) | (with_reducible assumption) | (with_reducible refine below_drewN ?_ _) | (with_reducible refine below_step (by assumption) ?_ ?_) | (with_reducible refine Below.alloc ?_ ?_ _) | (with_reducible refine Below.setCell ?_ ?_ _) | (with_reducible refine Below.drew ?_) | go_size | (exact Below.size (by assumption)) | (refine Nat.le_trans (Below.size (by assumption)) ?_))))).mono ?_
        rintro e' w1 ⟨rfl, hb1⟩
        have k1 := (Box4.new w ⟨s, e, A1, n1, m1, A2, n2, m2, ls, ld⟩ 41).keep hb1
        obtain ⟨p0, p1, p2, p3, p4⟩ := id k1
        simp only at p0 p1 p2 p3
        have hW : Below w.heap.size w w1 := (by repeat' (first | (with_reducible exact Below.refl _ _) | (with_reducible assumption) | (with_reducible refine below_drewN ?_ _) | (with_reducible refine below_step (by assumption) ?_ ?_) | (with_reducible refine Below.alloc ?_ ?_ _) | (with_reducible refine Below.setCell ?_ ?_ _) | (with_reducible refine Below.drew ?_) | go_size | (exact Below.size (by assumption)) | (refine Nat.le_trans (Below.size (by assumption)) ?_)))
        have HK1 := Lib.hid (HK.out.below hW)
        have HW := Lib.hid hW
        clear hW hb1
        go_wp2
        go_ret2
        exact ⟨ret_ii (HR.out.symm.trans (wrk_out HX.out C3.out)), HW.out⟩
      · have d1 : decide (a < 0) = false := decide_eq_false c4
        by_cases c5 : b < a
        · clear c3 c4
          go_enter Tryd.func39, Tryd.ntmps39
          go_wp2_with fail
          refine (rvalidate_any ⟨s, e, A1, n1, m1, A2, n2, m2, ls, ld⟩ 0 HX.out _ (HK.out.below (by repeat' (first | (with_reducible exact Below.refl _ _) | (with_reducible assumption) | (with_reducible refine below_drewN ?_ _) | (with_reducible refine below_step (by assumption) ?_ ?_) | (with_reducible refine Below.alloc ?_ ?_ _) | (with_reducible refine Below.setCell ?_ ?_ _) | (with_reducible refine Below.drew ?_) | go_size | (exact Below.size (by assumption)) | (refine Nat.le_trans (Below.size (by assumption)) ?_))))).mono ?_
          rintro e' w1 ⟨rfl, hb1⟩
          have k1 := (Box4.new w ⟨s, e, A1, n1, m1, A2, n2, m2, ls, ld⟩ 41).keep hb1
          obtain ⟨p0, p1, p2, p3, p4⟩ := id k1
          simp only at p0 p1 p2 p3
          have hW : Below w.heap.size w w1 := (by repeat' (first | (with_reducible exact Below.refl _ _) | (with_reducible assumption) | (with_reducible refine below_drewN ?_ _) | (with_reducible refine below_step (by assumption) ?_ ?_) | (with_reducible refine Below.alloc ?_ ?_ _) | (with_reducible refine Below.setCell ?_ ?_ _) | (with_reducible refine Below.drew ?_) | go_size | (exact Below.size (by assumption)) | (refine Nat.le_trans (Below.size (by assumption)) ?_)))
          have HK1 := Lib.hid (HK.out.below hW)
          have HW := Lib.hid hW
          clear hW hb1
          go_wp2
          go_ret2
          exact ⟨ret_ii (HR.out.symm.trans (wrk_out HX.out C3.out)), HW.out⟩
        · have d2 : decide (b < a) = false := decide_eq_false c5
          have d3 : 2880000 < b := by omega
          clear c3 c4 c5
          go_enter Tryd.func39, Tryd.ntmps39
          go_wp2_with fail
          refine (rvalidate_any ⟨s, e, A1, n1, m1, A2, n2, m2, ls, ld⟩ 0 HX.out _ (HK.out.below (by repeat' (first | (with_reducible exact Below.refl _ _) | (with_reducible assumption) | (with_reducible refine below_drewN ?_ _) | (with_reducible refine below_step (by assumption) ?_ ?_) | (with_reducible refine Below.alloc ?_ ?_ _) | (with_reducible refine Below.setCell ?_ ?_ _) | (with_reducible refine Below.drew ?_) | go_size | (exact Below.size (by assumption)) | (refine Nat.le_trans (Below.size (by assumption)) ?_))))).mono ?_
          rintro e' w1 ⟨rfl, hb1⟩
          have k1 := (Box4.new w ⟨s, e, A1, n1, m1, A2, n2, m2, ls, ld⟩ 41).keep hb1
          obtain ⟨p0, p1, p2, p3, p4⟩ := id k1
          simp only at p0 p1 p2 p3
          have hW : Below w.heap.size w w1 := (by repeat' (first | (with_reducible exact Below.refl _ _) | (with_reducible assumption) | (with_reducible refine below_drewN ?_ _) | (with_reducible refine below_step (by assumption) ?_ ?_) | (with_reducible refine Below.alloc ?_ ?_ _) | (with_reducible refine Below.setCell ?_ ?_ _) | (with_reducible refine Below.drew ?_) | go_size | (exact Below.size (by assumption)) | (refine Nat.le_trans (Below.size (by assumption)) ?_)))
          have HK1 := Lib.hid (HK.out.below hW)
          have HW := Lib.hid hW
          clear hW hb1
          go_wp2
          go_ret2
          exact ⟨ret_ii (HR.out.symm.trans (wrk_out HX.out C3.out)), HW.out⟩
  · have cx := errne c0
    have C0 := Lib.hid c0
    clear c0
    go_enter Tryd.func39, Tryd.ntmps39
    go_wp2_with fail
    refine (rvalidate_any ⟨s, e, A1, n1, m1, A2, n2, m2, ls, ld⟩ x HX.out _ (HK.out.below (by repeat' (first | (with_reducible exact Below.refl _ _) | (with_reducible assumption) | (with_reducible refine below_drewN ?_ _) | (with_reducible refine below_step (by assumption) ?_ ?_) | (with_reducible refine Below.alloc ?_ ?_ _) | (with_reducible refine Below.setCell ?_ ?_ _) | (with_reducible refine Below.drew ?_) | go_size | (exact Below.size (by assumption)) | (refine Nat.le_trans (Below.size (by assumption)) ?_))))).mono ?_
    rintro e' w1 ⟨rfl, hb1⟩
    have k1 := (Box4.new w ⟨s, e, A1, n1, m1, A2, n2, m2, ls, ld⟩ 41).keep hb1
    obtain ⟨p0, p1, p2, p3, p4⟩ := id k1
    simp only at p0 p1 p2 p3
    have hW : Below w.heap.size w w1 := (by repeat' (first | (with_reducible exact Below.refl _ _) | (with_reducible assumption) | (with_reducible refine below_drewN ?_ _) | (with_reducible refine below_step (by assumption) ?_ ?_) | (with_reducible refine Below.alloc ?_ ?_ _) | (with_reducible refine Below.setCell ?_ ?_ _) | (with_reducible refine Below.drew ?_) | go_size | (exact Below.size (by assumption)) | (refine Nat.le_trans (Below.size (by assumption)) ?_)))
    have HK1 := Lib.hid (HK.out.below hW)
    have HW := Lib.hid hW
    clear hW hb1
    go_wp2
    go_ret2
    exact ⟨ret_ii (HR.out.symm.trans (wrk_err HX.out C0.out)), HW.out⟩
end Go.Proofs.YtclbjgelefbmlaaDoor
