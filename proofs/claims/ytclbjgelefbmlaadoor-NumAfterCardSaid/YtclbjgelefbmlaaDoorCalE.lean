/-
  IsOpen AND NextOpen, THE PROGRAM'S AND THE REFERENCE'S.
-/
import Derived.Test.YtclbjgelefbmlaaDoorCalD
namespace Go.Proofs.YtclbjgelefbmlaaDoor
open Go.RowKit
attribute [local go_sem] grow_cell grow_frozen
theorem ret_bi {a b : Bool} {c d : Int} (h : (b, d) = (a, c)) : Ending.returned (.tuple #[.bool a, .int .i64 c]) = .returned (.tuple #[.bool b, .int .i64 d]) := by
  simp only [Prod.mk.injEq] at h
  obtain ⟨rfl, rfl⟩ := h
  rfl
theorem ret_ii {a b c d : Int} (h : (b, d) = (a, c)) : Ending.returned (.tuple #[.int .i64 a, .int .i64 c]) = .returned (.tuple #[.int .i64 b, .int .i64 d]) := by
  simp only [Prod.mk.injEq] at h
  obtain ⟨rfl, rfl⟩ := h
  rfl
theorem errne {z : Int} (h : z ≠ 0) : (z != 0) = true := by simpa using h
noncomputable def isO (K : Cal) (day : Int) : Bool × Int := if cerr K = 0 then if 0 ≤ day ∧ day ≤ 1999 then (opn K day, 0) else (false, 1) else (false, cerr K)
theorem isO_err {K : Cal} {day : Int} {z : Int} (hz : cerr K = z) (h : z ≠ 0) : isO K day = (false, z) := by rw [isO, hz, if_neg h]
theorem isO_out {K : Cal} {day : Int} (hz : cerr K = 0) (h : ¬ (0 ≤ day ∧ day ≤ 1999)) : isO K day = (false, 1) := by rw [isO, if_pos hz, if_neg h]
theorem isO_in {K : Cal} {day : Int} (hz : cerr K = 0) (h : 0 ≤ day ∧ day ≤ 1999) : isO K day = (opn K day, 0) := by rw [isO, if_pos hz, if_pos h]
theorem rest_set {K : Cal} {w : World} (hk : CalIn w K) (hz : cerr K = 0) : SetTo K.rs 6 K.n1 := by
  have := (cerr_zero hz).2.1
  rwa [hk.l1.1] at this
set_option maxRecDepth 100000 in
set_option maxHeartbeats 4000000 in
theorem isOpen2_any (K : Cal) (day : Int) (b : Bool) (z : Int) (hr : isO K day = (b, z)) (w : World) (hk : CalIn w K) :
    Calls Tryd.prog 40 #[K.v, .int .i64 day] w fun e w' => e = .returned (.tuple #[.bool b, .int .i64 z]) ∧ Below w.heap.size w w' := by
  have HK := Lib.hid hk
  have HR := Lib.hid hr
  obtain ⟨x, hx⟩ : ∃ x, cerr K = x := ⟨_, rfl⟩
  have HX := Lib.hid hx
  obtain ⟨s, e, A1, n1, m1, A2, n2, m2, ls, ld⟩ := K
  clear hr hk hx
  simp only [Cal.v]
  by_cases c0 : x = 0
  · subst c0
    by_cases c3 : 0 ≤ day ∧ day ≤ 1999
    · obtain ⟨c3, c4⟩ := c3
      have d1 : decide (day < 0) = false := decide_eq_false (by omega)
      have d2 : decide (2000 ≤ day) = false := decide_eq_false (by omega)
      go_enter Tryd.func40, Tryd.ntmps40
      go_wp2_with fail
      refine (validate_any ⟨s, e, A1, n1, m1, A2, n2, m2, ls, ld⟩ 0 HX.out _ (HK.out.below (by repeat' (first | (with_reducible exact Below.refl _ _) | (with_reducible assumption) | (with_reducible refine below_drewN ?_ _) | (with_reducible refine below_step (by assumption) ?_ ?_) | (with_reducible refine Below.alloc ?_ ?_ _) | (with_reducible refine Below.setCell ?_ ?_ _) | (with_reducible refine Below.drew ?_) | go_size | (exact Below.size (by assumption)) | (refine Nat.le_trans (Below.size (by assumption)) ?_))))).mono ?_
      rintro e' w1 ⟨rfl, hb1⟩
      have k1 := (Box4.new w ⟨s, e, A1, n1, m1, A2, n2, m2, ls, ld⟩ 41).keep hb1
      obtain ⟨p0, p1, p2, p3, p4⟩ := id k1
      simp only at p0 p1 p2 p3
      have hW : Below w.heap.size w w1 := (by repeat' (first | (with_reducible exact Below.refl _ _) | (with_reducible assumption) | (with_reducible refine below_drewN ?_ _) | (with_reducible refine below_step (by assumption) ?_ ?_) | (with_reducible refine Below.alloc ?_ ?_ _) | (with_reducible refine Below.setCell ?_ ?_ _) | (with_reducible refine Below.drew ?_) | go_size | (exact Below.size (by assumption)) | (refine Nat.le_trans (Below.size (by assumption)) ?_)))
      have HK1 := Lib.hid (HK.out.below hW)
      have HW := Lib.hid hW
      clear hW hb1
      go_wp2
      refine region_grow (by kernel_rfl) (by kernel_rfl) ?_
      repeat (go_big_quiet_step ((first | (go_at_call 67; exact grow_call (week_any ⟨s, e, A1, n1, m1, A2, n2, m2, ls, ld⟩ _ (HK1.out.below (below_grow _ _)) (rest_set HK1.out HX.out))) | (go_at_call 68; exact grow_call (isOpen_any ⟨s, e, A1, n1, m1, A2, n2, m2, ls, ld⟩ (fun j => decide ((j : Int) ∈ ls)) day (fun _ => rfl) c3 _ (HK1.out.below (below_grow _ _)))))))
      refine wpQuiet_nil ?_
      rintro w2 ⟨xg, hxg⟩
      have hb2 := below_grow w1 xg
      rw [← hxg] at hb2
      clear hxg xg
      go_wp2
      go_ret2
      exact ⟨ret_bi (HR.out.symm.trans (isO_in HX.out ⟨c3, c4⟩)), HW.out.trans (hb2.mono HW.out.size)⟩
    · have C3 := Lib.hid c3
      by_cases c4 : day < 0
      · clear c3
        go_enter Tryd.func40, Tryd.ntmps40
        go_wp2_with fail
        refine (validate_any ⟨s, e, A1, n1, m1, A2, n2, m2, ls, ld⟩ 0 HX.out _ (HK.out.below (by repeat' (first | (with_reducible exact Below.refl _ _) | (with_reducible assumption) | (with_reducible refine below_drewN ?_ _) | (with_reducible refine below_step (by assumption) ?_ ?_) | (with_reducible refine Below.alloc ?_ ?_ _) | (with_reducible refine Below.setCell ?_ ?_ _) | (with_reducible refine Below.drew ?_) | go_size | (exact Below.size (by assumption)) | (refine Nat.le_trans (Below.size (by assumption)) ?_))))).mono ?_
        rintro e' w1 ⟨rfl, hb1⟩
        have k1 := (Box4.new w ⟨s, e, A1, n1, m1, A2, n2, m2, ls, ld⟩ 41).keep hb1
        obtain ⟨p0, p1, p2, p3, p4⟩ := id k1
        simp only at p0 p1 p2 p3
        have hW : Below w.heap.size w w1 := (by repeat' (first | (with_reducible exact Below.refl _ _) | (with_reducible assumption) | (with_reducible refine below_drewN ?_ _) | (with_reducible refine below_step (by assumption) ?_ ?_) | (with_reducible refine Below.alloc ?_ ?_ _) | (with_reducible refine Below.setCell ?_ ?_ _) | (with_reducible refine Below.drew ?_) | go_size | (exact Below.size (by assumption)) | (refine Nat.le_trans (Below.size (by assumption)) ?_)))
        have HK1 := Lib.hid (HK.out.below hW)
        have HW := Lib.hid hW
        clear hW hb1
        go_wp2
        go_ret2
        exact ⟨ret_bi (HR.out.symm.trans (isO_out HX.out C3.out)), HW.out⟩
      · have d1 : decide (day < 0) = false := decide_eq_false (by omega)
        have d2 : 2000 ≤ day := by omega
        clear c3 c4
        go_enter Tryd.func40, Tryd.ntmps40
        go_wp2_with fail
        refine (validate_any ⟨s, e, A1, n1, m1, A2, n2, m2, ls, ld⟩ 0 HX.out _ (HK.out.below (by repeat' (first | (with_reducible exact Below.refl _ _) | (with_reducible assumption) | (with_reducible refine below_drewN ?_ _) | (with_reducible refine below_step (by assumption) ?_ ?_) | (with_reducible refine Below.alloc ?_ ?_ _) | (with_reducible refine Below.setCell ?_ ?_ _) | (with_reducible refine Below.drew ?_) | go_size | (exact Below.size (by assumption)) | (refine Nat.le_trans (Below.size (by assumption)) ?_))))).mono ?_
        rintro e' w1 ⟨rfl, hb1⟩
        have k1 := (Box4.new w ⟨s, e, A1, n1, m1, A2, n2, m2, ls, ld⟩ 41).keep hb1
        obtain ⟨p0, p1, p2, p3, p4⟩ := id k1
        simp only at p0 p1 p2 p3
        have hW : Below w.heap.size w w1 := (by repeat' (first | (with_reducible exact Below.refl _ _) | (with_reducible assumption) | (with_reducible refine below_drewN ?_ _) | (with_reducible refine below_step (by assumption) ?_ ?_) | (with_reducible refine Below.alloc ?_ ?_ _) | (with_reducible refine Below.setCell ?_ ?_ _) | (with_reducible refine Below.drew ?_) | go_size | (exact Below.size (by assumption)) | (refine Nat.le_trans (Below.size (by assumption)) ?_)))
        have HK1 := Lib.hid (HK.out.below hW)
        have HW := Lib.hid hW
        clear hW hb1
        go_wp2
        go_ret2
        exact ⟨ret_bi (HR.out.symm.trans (isO_out HX.out C3.out)), HW.out⟩
  · have cx := errne c0
    have C0 := Lib.hid c0
    clear c0
    go_enter Tryd.func40, Tryd.ntmps40
    go_wp2_with fail
    refine (validate_any ⟨s, e, A1, n1, m1, A2, n2, m2, ls, ld⟩ x HX.out _ (HK.out.below (by repeat' (first | (with_reducible exact Below.refl _ _) | (with_reducible assumption) | (with_reducible refine below_drewN ?_ _) | (with_reducible refine below_step (by assumption) ?_ ?_) | (with_reducible refine Below.alloc ?_ ?_ _) | (with_reducible refine Below.setCell ?_ ?_ _) | (with_reducible refine Below.drew ?_) | go_size | (exact Below.size (by assumption)) | (refine Nat.le_trans (Below.size (by assumption)) ?_))))).mono ?_
    rintro e' w1 ⟨rfl, hb1⟩
    have k1 := (Box4.new w ⟨s, e, A1, n1, m1, A2, n2, m2, ls, ld⟩ 41).keep hb1
    obtain ⟨p0, p1, p2, p3, p4⟩ := id k1
    simp only at p0 p1 p2 p3
    have hW : Below w.heap.size w w1 := (by repeat' (first | (with_reducible exact Below.refl _ _) | (with_reducible assumption) | (with_reducible refine below_drewN ?_ _) | (with_reducible refine below_step (by assumption) ?_ ?_) | (with_reducible refine Below.alloc ?_ ?_ _) | (with_reducible refine Below.setCell ?_ ?_ _) | (with_reducible refine Below.drew ?_) | go_size | (exact Below.size (by assumption)) | (refine Nat.le_trans (Below.size (by assumption)) ?_)))
    have HK1 := Lib.hid (HK.out.below hW)
    have HW := Lib.hid hW
    clear hW hb1
    go_wp2
    go_ret2
    exact ⟨ret_bi (HR.out.symm.trans (isO_err HX.out C0.out)), HW.out⟩
set_option maxRecDepth 100000 in
set_option maxHeartbeats 4000000 in
theorem risOpen_any (K : Cal) (day : Int) (b : Bool) (z : Int) (hr : isO K day = (b, z)) (w : World) (hk : CalIn w K) :
    Calls Tryd.prog 41 #[K.v, .int .i64 day] w fun e w' => e = .returned (.tuple #[.bool b, .int .i64 z]) ∧ Below w.heap.size w w' := by
  have HK := Lib.hid hk
  have HR := Lib.hid hr
  obtain ⟨x, hx⟩ : ∃ x, cerr K = x := ⟨_, rfl⟩
  have HX := Lib.hid hx
  obtain ⟨s, e, A1, n1, m1, A2, n2, m2, ls, ld⟩ := K
  clear hr hk hx
  simp only [Cal.v]
  by_cases c0 : x = 0
  · subst c0
    by_cases c3 : 0 ≤ day ∧ day ≤ 1999
    · have C3 := Lib.hid c3
      clear c3
      go_enter Tryd.func41, Tryd.ntmps41
      go_wp2_with fail
      refine (rvalidate_any ⟨s, e, A1, n1, m1, A2, n2, m2, ls, ld⟩ 0 HX.out _ (HK.out.below (by repeat' (first | (with_reducible exact Below.refl _ _) | (with_reducible assumption) | (with_reducible refine below_drewN ?_ _) | (with_reducible refine below_step (by assumption) ?_ ?_) | (with_reducible refine Below.alloc ?_ ?_ _) | (with_reducible refine Below.setCell ?_ ?_ _) | (with_reducible refine Below.drew ?_) | go_size | (exact Below.size (by assumption)) | (refine Nat.le_trans (Below.size (by assumption)) ?_))))).mono ?_
      rintro e' w1 ⟨rfl, hb1⟩
      have k1 := (Box4.new w ⟨s, e, A1, n1, m1, A2, n2, m2, ls, ld⟩ 41).keep hb1
      obtain ⟨p0, p1, p2, p3, p4⟩ := id k1
      simp only at p0 p1 p2 p3
      have hW : Below w.heap.size w w1 := (by repeat' (first | (with_reducible exact Below.refl _ _) | (with_reducible assumption) | (with_reducible refine below_drewN ?_ _) | (with_reducible refine below_step (by assumption) ?_ ?_) | (with_reducible refine Below.alloc ?_ ?_ _) | (with_reducible refine Below.setCell ?_ ?_ _) | (with_reducible refine Below.drew ?_) | go_size | (exact Below.size (by assumption)) | (refine Nat.le_trans (Below.size (by assumption)) ?_)))
      have HK1 := Lib.hid (HK.out.below hW)
      have HW := Lib.hid hW
      clear hW hb1
      go_wp2_with fail
      refine (within_yes _ _ _ C3.out.1 C3.out.2 _).mono ?_
      rintro e' w2 ⟨rfl, rfl⟩
      go_wp2_with fail
      refine (ropen_any ⟨s, e, A1, n1, m1, A2, n2, m2, ls, ld⟩ day C3.out.1 _ HK1.out).mono ?_
      rintro e' w2 ⟨rfl, hb2⟩
      go_wp2
      go_ret2
      exact ⟨ret_bi (HR.out.symm.trans (isO_in HX.out C3.out)), HW.out.trans (hb2.mono HW.out.size)⟩
    · have C3 := Lib.hid c3
      clear c3
      go_enter Tryd.func41, Tryd.ntmps41
      go_wp2_with fail
      refine (rvalidate_any ⟨s, e, A1, n1, m1, A2, n2, m2, ls, ld⟩ 0 HX.out _ (HK.out.below (by repeat' (first | (with_reducible exact Below.refl _ _) | (with_reducible assumption) | (with_reducible refine below_drewN ?_ _) | (with_reducible refine below_step (by assumption) ?_ ?_) | (with_reducible refine Below.alloc ?_ ?_ _) | (with_reducible refine Below.setCell ?_ ?_ _) | (with_reducible refine Below.drew ?_) | go_size | (exact Below.size (by assumption)) | (refine Nat.le_trans (Below.size (by assumption)) ?_))))).mono ?_
      rintro e' w1 ⟨rfl, hb1⟩
      have k1 := (Box4.new w ⟨s, e, A1, n1, m1, A2, n2, m2, ls, ld⟩ 41).keep hb1
      obtain ⟨p0, p1, p2, p3, p4⟩ := id k1
      simp only at p0 p1 p2 p3
      have hW : Below w.heap.size w w1 := (by repeat' (first | (with_reducible exact Below.refl _ _) | (with_reducible assumption) | (with_reducible refine below_drewN ?_ _) | (with_reducible refine below_step (by assumption) ?_ ?_) | (with_reducible refine Below.alloc ?_ ?_ _) | (with_reducible refine Below.setCell ?_ ?_ _) | (with_reducible refine Below.drew ?_) | go_size | (exact Below.size (by assumption)) | (refine Nat.le_trans (Below.size (by assumption)) ?_)))
      have HK1 := Lib.hid (HK.out.below hW)
      have HW := Lib.hid hW
      clear hW hb1
      go_wp2_with fail
      refine (within_no _ _ _ C3.out _).mono ?_
      rintro e' w2 ⟨rfl, rfl⟩
      go_wp2
      go_ret2
      exact ⟨ret_bi (HR.out.symm.trans (isO_out HX.out C3.out)), HW.out⟩
  · have cx := errne c0
    have C0 := Lib.hid c0
    clear c0
    go_enter Tryd.func41, Tryd.ntmps41
    go_wp2_with fail
    refine (rvalidate_any ⟨s, e, A1, n1, m1, A2, n2, m2, ls, ld⟩ x HX.out _ (HK.out.below (by repeat' (first | (with_reducible exact Below.refl _ _) | (with_reducible assumption) | (with_reducible refine below_drewN ?_ _) | (with_reducible refine below_step (by assumption) ?_ ?_) | (with_reducible refine Below.alloc ?_ ?_ _) | (with_reducible refine Below.setCell ?_ ?_ _) | (with_reducible refine Below.drew ?_) | go_size | (exact Below.size (by assumption)) | (refine Nat.le_trans (Below.size (by assumption)) ?_))))).mono ?_
    rintro e' w1 ⟨rfl, hb1⟩
    have k1 := (Box4.new w ⟨s, e, A1, n1, m1, A2, n2, m2, ls, ld⟩ 41).keep hb1
    obtain ⟨p0, p1, p2, p3, p4⟩ := id k1
    simp only at p0 p1 p2 p3
    have hW : Below w.heap.size w w1 := (by repeat' (first | (with_reducible exact Below.refl _ _) | (with_reducible assumption) | (with_reducible refine below_drewN ?_ _) | (with_reducible refine below_step (by assumption) ?_ ?_) | (with_reducible refine Below.alloc ?_ ?_ _) | (with_reducible refine Below.setCell ?_ ?_ _) | (with_reducible refine Below.drew ?_) | go_size | (exact Below.size (by assumption)) | (refine Nat.le_trans (Below.size (by assumption)) ?_)))
    have HK1 := Lib.hid (HK.out.below hW)
    have HW := Lib.hid hW
    clear hW hb1
    go_wp2
    go_ret2
    exact ⟨ret_bi (HR.out.symm.trans (isO_err HX.out C0.out)), HW.out⟩
end Go.Proofs.YtclbjgelefbmlaaDoor
