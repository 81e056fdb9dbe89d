/-
  After, THE REFERENCE'S.
-/
import Derived.Test.YtclbjgelefbmlaaDoorCalK
namespace Go.Proofs.YtclbjgelefbmlaaDoor
open Go.RowKit
noncomputable def aftR (K : Cal) (a m : Int) : Int × Int := if cerr K = 0 then if 0 ≤ a ∧ a ≤ 2880000 ∧ 0 ≤ m then if m = 0 then (a, 0) else aft K a 2000 m else (0, 1) else (0, cerr K)
theorem aftR_err {K : Cal} {a m z : Int} (hz : cerr K = z) (h : z ≠ 0) : aftR K a m = (0, z) := by rw [aftR, hz, if_neg h]
theorem aftR_out {K : Cal} {a m : Int} (hz : cerr K = 0) (h : ¬ (0 ≤ a ∧ a ≤ 2880000 ∧ 0 ≤ m)) : aftR K a m = (0, 1) := by rw [aftR, if_pos hz, if_neg h]
theorem aftR_zero {K : Cal} {a : Int} (hz : cerr K = 0) (h : 0 ≤ a ∧ a ≤ 2880000) : aftR K a 0 = (a, 0) := by rw [aftR, if_pos hz, if_pos ⟨h.1, h.2, by omega⟩, if_pos rfl]
theorem aftR_in {K : Cal} {a m : Int} (hz : cerr K = 0) (h : 0 ≤ a ∧ a ≤ 2880000) (hm : 0 < m) : aftR K a m = aft K a 2000 m := by rw [aftR, if_pos hz, if_pos ⟨h.1, h.2, by omega⟩, if_neg (by omega)]
set_option maxRecDepth 100000 in
set_option maxHeartbeats 2000000 in
theorem rafter_any (K : Cal) (a m v z : Int) (hr : aftR K a m = (v, z)) (g1 : -9223372036854775808 ≤ m) (g2 : m ≤ 9223372036854775807) (w : World) (hk : CalIn w K) :
    Calls Tryd.prog 47 #[K.v, .int .i64 a, .int .i64 m] w fun e w' => e = .returned (.tuple #[.int .i64 v, .int .i64 z]) ∧ Below w.heap.size w w' := by
  have HK := Lib.hid hk
  have HR := Lib.hid hr
  obtain ⟨x, hx⟩ : ∃ x, cerr K = x := ⟨_, rfl⟩
  have HX := Lib.hid hx
  obtain ⟨s, e, A1, n1, m1, A2, n2, m2, ls, ld⟩ := K
  clear hr hk hx
  simp only [Cal.v]
  by_cases c0 : x = 0
  · subst c0
    by_cases c3 : 0 ≤ a ∧ a ≤ 2880000
    · have C3 := Lib.hid c3
      rcases (show m < 0 ∨ m = 0 ∨ 0 < m by omega) with c4 | rfl | c4
      · go_enter Tryd.func47, Tryd.ntmps47
        go_wp2_with fail
        refine (rvalidate_any ⟨s, e, A1, n1, m1, A2, n2, m2, ls, ld⟩ 0 HX.out _ (HK.out.below (by repeat' (first | (with_reducible exact Below.refl _ _) | (with_reducible assumption) | (with_reducible refine below_drewN ?_ _) | (with_reducible refine below_step (by assumption) ?_ ?_) | (with_reducible refine Below.alloc ?_ ?_ _) | (with_reducible refine Below.setCell ?_ ?_ _) | (with_reducible refine Below.drew ?_) | go_size | (exact Below.size (by assumption)) | (refine Nat.le_trans (Below.size (by assumption)) ?_))))).mono ?_
        rintro e' w1 ⟨rfl, hb1⟩
        have k1 := (Box4.new w ⟨s, e, A1, n1, m1, A2, n2, m2, ls, ld⟩ 41).keep hb1
        obtain ⟨p0, p1, p2, p3, p4⟩ := id k1
        simp only at p0 p1 p2 p3
        have hW : Below w.heap.size w w1 := (by repeat' (first | (with_reducible exact Below.refl _ _) | (with_reducible assumption) | (with_reducible refine below_drewN ?_ _) | (with_reducible refine below_step (by assumption) ?_ ?_) | (with_reducible refine Below.alloc ?_ ?_ _) | (with_reducible refine Below.setCell ?_ ?_ _) | (with_reducible refine Below.drew ?_) | go_size | (exact Below.size (by assumption)) | (refine Nat.le_trans (Below.size (by assumption)) ?_)))
        have HK1 := Lib.hid (HK.out.below hW)
        have HW := Lib.hid hW
        clear hW hb1
        go_wp2_with (go_at_call 60; refine (within_yes _ _ _ c3.1 c3.2 _).mono ?_; rintro e w' ⟨rfl, rfl⟩)
        go_ret2
        exact ⟨ret_ii (HR.out.symm.trans (aftR_out HX.out (by omega))), HW.out⟩
      · go_enter Tryd.func47, Tryd.ntmps47
        go_wp2_with fail
        refine (rvalidate_any ⟨s, e, A1, n1, m1, A2, n2, m2, ls, ld⟩ 0 HX.out _ (HK.out.below (by repeat' (first | (with_reducible exact Below.refl _ _) | (with_reducible assumption) | (with_reducible refine below_drewN ?_ _) | (with_reducible refine below_step (by assumption) ?_ ?_) | (with_reducible refine Below.alloc ?_ ?_ _) | (with_reducible refine Below.setCell ?_ ?_ _) | (with_reducible refine Below.drew ?_) | go_size | (exact Below.size (by assumption)) | (refine Nat.le_trans (Below.size (by assumption)) ?_))))).mono ?_
        rintro e' w1 ⟨rfl, hb1⟩
        have k1 := (Box4.new w ⟨s, e, A1, n1, m1, A2, n2, m2, ls, ld⟩ 41).keep hb1
        obtain ⟨p0, p1, p2, p3, p4⟩ := id k1
        simp only at p0 p1 p2 p3
        have hW : Below w.heap.size w w1 := (by repeat' (first | (with_reducible exact Below.refl _ _) | (with_reducible assumption) | (with_reducible refine below_drewN ?_ _) | (with_reducible refine below_step (by assumption) ?_ ?_) | (with_reducible refine Below.alloc ?_ ?_ _) | (with_reducible refine Below.setCell ?_ ?_ _) | (with_reducible refine Below.drew ?_) | go_size | (exact Below.size (by assumption)) | (refine Nat.le_trans (Below.size (by assumption)) ?_)))
        have HK1 := Lib.hid (HK.out.below hW)
        have HW := Lib.hid hW
        clear hW hb1
        go_wp2_with (go_at_call 60; refine (within_yes _ _ _ c3.1 c3.2 _).mono ?_; rintro e w' ⟨rfl, rfl⟩)
        go_ret2
        exact ⟨ret_ii (HR.out.symm.trans (aftR_zero HX.out C3.out)), HW.out⟩
      · have HN := Lib.hid ((aftR_in HX.out c3 c4).symm.trans HR.out)
        have BH := Lib.hid (cerr_zero HX.out).1
        have d1 : decide (m < 0) = false := decide_eq_false (by omega)
        have d2 : (m == 0) = false := by rw [beq_eq_false_iff_ne]; omega
        go_enter Tryd.func47, Tryd.ntmps47
        go_wp2_with fail
        refine (rvalidate_any ⟨s, e, A1, n1, m1, A2, n2, m2, ls, ld⟩ 0 HX.out _ (HK.out.below (by repeat' (first | (with_reducible exact Below.refl _ _) | (with_reducible assumption) | (with_reducible refine below_drewN ?_ _) | (with_reducible refine below_step (by assumption) ?_ ?_) | (with_reducible refine Below.alloc ?_ ?_ _) | (with_reducible refine Below.setCell ?_ ?_ _) | (with_reducible refine Below.drew ?_) | go_size | (exact Below.size (by assumption)) | (refine Nat.le_trans (Below.size (by assumption)) ?_))))).mono ?_
        rintro e' w1 ⟨rfl, hb1⟩
        have k1 := (Box4.new w ⟨s, e, A1, n1, m1, A2, n2, m2, ls, ld⟩ 41).keep hb1
        obtain ⟨p0, p1, p2, p3, p4⟩ := id k1
        simp only at p0 p1 p2 p3
        have hW : Below w.heap.size w w1 := (by repeat' (first | (with_reducible exact Below.refl _ _) | (with_reducible assumption) | (with_reducible refine below_drewN ?_ _) | (with_reducible refine below_step (by assumption) ?_ ?_) | (with_reducible refine Below.alloc ?_ ?_ _) | (with_reducible refine Below.setCell ?_ ?_ _) | (with_reducible refine Below.drew ?_) | go_size | (exact Below.size (by assumption)) | (refine Nat.le_trans (Below.size (by assumption)) ?_)))
        have HK1 := Lib.hid (HK.out.below hW)
        have HW := Lib.hid hW
        clear hW hb1
        go_wp2_with (go_at_call 60; refine (within_yes _ _ _ c3.1 c3.2 _).mono ?_; rintro e w' ⟨rfl, rfl⟩)
        clear d1 d2
        go_loopw [2, 9] (fun t i wr => ∃ (k : Nat) (u : Int), i = .int .i64 k ∧ t = .int .i64 u ∧ k ≤ 2000 ∧ 0 < u ∧ u ≤ 9223372036854775807 ∧ Hid (Below w.heap.size w wr ∧ CalIn wr ⟨s, e, A1, n1, m1, A2, n2, m2, ls, ld⟩ ∧ Box4 wr w.heap.size ⟨s, e, A1, n1, m1, A2, n2, m2, ls, ld⟩ ∧ aft ⟨s, e, A1, n1, m1, A2, n2, m2, ls, ld⟩ a (2000 - k) u = (v, z))) (fun _ i _ => 2000 - (intOf i).toNat)
        case atStart => exact ⟨0, m, rfl, rfl, by omega, c4, g2, HW.out, HK1.out, k1, HN.out⟩
        case round =>
          obtain ⟨k, u, rfl, rfl, hk, hu1, hu2, hs⟩ := hrel
          obtain ⟨hb, hc, hx, hn⟩ := hs.out
          by_cases hlt : k < 2000
          · clear p0 p1 p2 p3 p4
            obtain ⟨p0, p1, p2, p3, p4⟩ := id hx
            simp only at p0 p1 p2 p3
            obtain ⟨h1, h2⟩ := aft_step hlt hn
            obtain ⟨y, hy⟩ : ∃ y, hrs ⟨s, e, A1, n1, m1, A2, n2, m2, ls, ld⟩ k a 2880000 = y := ⟨_, rfl⟩
            rw [hy] at h1 h2
            have y1 : 0 ≤ y := by rw [← hy]; exact (hrs_bd (K := ⟨s, e, A1, n1, m1, A2, n2, m2, ls, ld⟩) BH.out k a 2880000).1
            have y2 : y ≤ 1440 := by rw [← hy]; exact (hrs_bd (K := ⟨s, e, A1, n1, m1, A2, n2, m2, ls, ld⟩) BH.out k a 2880000).2
            have bh := BH.out
            simp only [badHours] at bh
            have hs0 : 0 ≤ s := by omega
            have hs1 : s < 1440 := by omega
            have HY := Lib.hid hy
            have H1 := Lib.hid h1
            have H2 := Lib.hid h2
            clear hb hc hx hn h1 h2 hy bh
            obtain ⟨a0, a1⟩ := C3.out
            by_cases hyu : y < u
            · go_wp2_with fail
              refine (hours_any ⟨s, e, A1, n1, m1, A2, n2, m2, ls, ld⟩ k a 2880000 (by omega) (by omega) a0 a1 (by omega) (by omega) BH.out _ hs.out.2.1).mono ?_
              rw [HY.out]
              rintro e' w2 ⟨rfl, hb2⟩
              have hb3 : Below w.heap.size w w2 := hs.out.1.trans (hb2.mono hs.out.1.size)
              have k2 := hs.out.2.2.1.keep hb2
              have HC := Lib.hid (hs.out.2.1.below hb2)
              have HB := Lib.hid hb3
              clear hb2 hb3
              go_wp2
              go_roundw
              case rel => exact ⟨k + 1, u - y, by go_num, by go_num, by omega, by omega, by omega, HB.out, HC.out, k2, H1.out hyu⟩
              case measure => simp [intOf]; omega
            · obtain ⟨b, hbb⟩ : ∃ b : Int, b = k * 1440 + s := ⟨_, rfl⟩
              have hb1 : wrap64 ((k : Int) * 1440) = k * 1440 := IntWalk.wrap64_in _ ⟨by omega, by omega⟩
              by_cases hab : k * 1440 + s < a
              · go_wp2_with fail
                refine (hours_any ⟨s, e, A1, n1, m1, A2, n2, m2, ls, ld⟩ k a 2880000 (by omega) (by omega) a0 a1 (by omega) (by omega) BH.out _ hs.out.2.1).mono ?_
                rw [HY.out]
                rintro e' w2 ⟨rfl, hb2⟩
                have hb3 : Below w.heap.size w w2 := hs.out.1.trans (hb2.mono hs.out.1.size)
                have k2 := hs.out.2.2.1.keep hb2
                obtain ⟨p0, p1, p2, p3, p4⟩ := id k2
                simp only at p0 p1 p2 p3
                have HB := Lib.hid hb3
                clear hb2 hb3
                go_wp2
                go_ret2
                refine ⟨ret_ii ((H2.out hyu).symm.trans ?_), HB.out⟩
                simp only [Prod.mk.injEq, and_true]
                omega
              · go_wp2_with fail
                refine (hours_any ⟨s, e, A1, n1, m1, A2, n2, m2, ls, ld⟩ k a 2880000 (by omega) (by omega) a0 a1 (by omega) (by omega) BH.out _ hs.out.2.1).mono ?_
                rw [HY.out]
                rintro e' w2 ⟨rfl, hb2⟩
                have hb3 : Below w.heap.size w w2 := hs.out.1.trans (hb2.mono hs.out.1.size)
                have k2 := hs.out.2.2.1.keep hb2
                obtain ⟨p0, p1, p2, p3, p4⟩ := id k2
                simp only at p0 p1 p2 p3
                have HB := Lib.hid hb3
                clear hb2 hb3
                go_wp2
                go_ret2
                refine ⟨ret_ii ((H2.out hyu).symm.trans ?_), HB.out⟩
                simp only [Prod.mk.injEq, and_true]
                omega
          · have : k = 2000 := by omega
            subst this
            have hz : ((0 : Int), (4 : Int)) = (v, z) := hn
            have HZ := Lib.hid hz
            clear hb hc hx hn hz
            go_wp2
            go_ret2
            exact ⟨ret_ii HZ.out.symm, hs.out.1⟩
    · have C3 := Lib.hid c3
      go_enter Tryd.func47, Tryd.ntmps47
      go_wp2_with fail
      refine (rvalidate_any ⟨s, e, A1, n1, m1, A2, n2, m2, ls, ld⟩ 0 HX.out _ (HK.out.below (by repeat' (first | (with_reducible exact Below.refl _ _) | (with_reducible assumption) | (with_reducible refine below_drewN ?_ _) | (with_reducible refine below_step (by assumption) ?_ ?_) | (with_reducible refine Below.alloc ?_ ?_ _) | (with_reducible refine Below.setCell ?_ ?_ _) | (with_reducible refine Below.drew ?_) | go_size | (exact Below.size (by assumption)) | (refine Nat.le_trans (Below.size (by assumption)) ?_))))).mono ?_
      rintro e' w1 ⟨rfl, hb1⟩
      have k1 := (Box4.new w ⟨s, e, A1, n1, m1, A2, n2, m2, ls, ld⟩ 41).keep hb1
      obtain ⟨p0, p1, p2, p3, p4⟩ := id k1
      simp only at p0 p1 p2 p3
      have hW : Below w.heap.size w w1 := (by repeat' (first | (with_reducible exact Below.refl _ _) | (with_reducible assumption) | (with_reducible refine below_drewN ?_ _) | (with_reducible refine below_step (by assumption) ?_ ?_) | (with_reducible refine Below.alloc ?_ ?_ _) | (with_reducible refine Below.setCell ?_ ?_ _) | (with_reducible refine Below.drew ?_) | go_size | (exact Below.size (by assumption)) | (refine Nat.le_trans (Below.size (by assumption)) ?_)))
      have HK1 := Lib.hid (HK.out.below hW)
      have HW := Lib.hid hW
      clear hW hb1
      go_wp2_with (go_at_call 60; refine (within_no _ _ _ c3 _).mono ?_; rintro e w' ⟨rfl, rfl⟩)
      go_ret2
      exact ⟨ret_ii (HR.out.symm.trans (aftR_out HX.out (fun h => C3.out ⟨h.1, h.2.1⟩))), HW.out⟩
  · have cx := errne c0
    have C0 := Lib.hid c0
    clear c0
    go_enter Tryd.func47, Tryd.ntmps47
    go_wp2_with fail
    refine (rvalidate_any ⟨s, e, A1, n1, m1, A2, n2, m2, ls, ld⟩ x HX.out _ (HK.out.below (by repeat' (first | (with_reducible exact Below.refl _ _) | (with_reducible assumption) | (with_reducible refine below_drewN ?_ _) | (with_reducible refine below_step (by assumption) ?_ ?_) | (with_reducible refine Below.alloc ?_ ?_ _) | (with_reducible refine Below.setCell ?_ ?_ _) | (with_reducible refine Below.drew ?_) | go_size | (exact Below.size (by assumption)) | (refine Nat.le_trans (Below.size (by assumption)) ?_))))).mono ?_
    rintro e' w1 ⟨rfl, hb1⟩
    have k1 := (Box4.new w ⟨s, e, A1, n1, m1, A2, n2, m2, ls, ld⟩ 41).keep hb1
    obtain ⟨p0, p1, p2, p3, p4⟩ := id k1
    simp only at p0 p1 p2 p3
    have hW : Below w.heap.size w w1 := (by repeat' (first | (with_reducible exact Below.refl _ _) | (with_reducible assumption) | (with_reducible refine below_drewN ?_ _) | (with_reducible refine below_step (by assumption) ?_ ?_) | (with_reducible refine Below.alloc ?_ ?_ _) | (with_reducible refine Below.setCell ?_ ?_ _) | (with_reducible refine Below.drew ?_) | go_size | (exact Below.size (by assumption)) | (refine Nat.le_trans (Below.size (by assumption)) ?_)))
    have HK1 := Lib.hid (HK.out.below hW)
    have HW := Lib.hid hW
    clear hW hb1
    go_wp2
    go_ret2
    exact ⟨ret_ii (HR.out.symm.trans (aftR_err HX.out C0.out)), HW.out⟩
end Go.Proofs.YtclbjgelefbmlaaDoor
