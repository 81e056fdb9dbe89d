/-
  After, THE PROGRAM'S.
-/
import Derived.Test.YtplgndllfkceiaaDoorCalM
namespace Go.Proofs.YtplgndllfkceiaaDoor
open Go.RowKit
theorem aft_val {K : Cal} {k : Nat} {a s e : Int} (ho : opn K k = true) (es : s = K.s) (ee : e = K.e) (k1 : k < 2000) (b o : Int) (hb : b = max a (k * 1440 + s)) (hx : o = max 0 (k * 1440 + e - b)) (e1 : e ≤ 1440 := by omega) :
    hrs K k a 2880000 = o := by
  rw [hrs, if_pos ho, ← es, ← ee, hx, hb]
  omega
set_option maxRecDepth 100000 in
set_option maxHeartbeats 2000000 in
theorem after_any (K : Cal) (a m v z : Int) (hr : aftR K a m = (v, z)) (g1 : -9223372036854775808 ≤ m) (g2 : m ≤ 9223372036854775807) (w : World) (hk : CalIn w K) :
    Calls Tryd.prog 8 #[K.v, .int .i64 a, .int .i64 m] w fun e w' => e = .returned (.tuple #[.int .i64 v, .int .i64 z]) ∧ Below w.heap.size w w' := by
  obtain ⟨f, hf⟩ : ∃ f : Nat → Bool, ∀ j, f j = decide ((j : Int) ∈ K.rs) := ⟨_, fun _ => rfl⟩
  have HF := Lib.hid hf
  clear hf
  have HK := Lib.hid hk
  have HR := Lib.hid hr
  obtain ⟨x, hx⟩ : ∃ x, cerr K = x := ⟨_, rfl⟩
  have HX := Lib.hid hx
  obtain ⟨s, e, A1, n1, m1, A2, n2, m2, ls, ld⟩ := K
  clear hr hk hx
  simp only [Cal.v]
  by_cases c0 : x = 0
  · subst c0
    by_cases c3 : 0 ≤ a ∧ a ≤ 2880000 ∧ 0 < m
    · have C3 := Lib.hid c3
      obtain ⟨c3, c4, c5⟩ := c3
      have HN := Lib.hid ((aftR_in HX.out ⟨c3, c4⟩ c5).symm.trans HR.out)
      have BH := Lib.hid (cerr_zero HX.out).1
      have d1 : decide (a < 0) = false := decide_eq_false (by omega)
      have d2 : decide (2880000 < a) = false := decide_eq_false (by omega)
      have d3 : decide (m < 0) = false := decide_eq_false (by omega)
      have d4 : (m == 0) = false := by rw [beq_eq_false_iff_ne]; omega
      obtain ⟨q, hq⟩ : ∃ q : Nat, a / 1440 = (q : Int) := Int.eq_ofNat_of_zero_le (by omega)
      have hq2 : Int.tdiv a 1440 = (q : Int) := by rw [Int.tdiv_eq_ediv_of_nonneg c3, hq]
      have q0 : (q : Int) * 1440 ≤ a := by omega
      clear hq
      go_enter Tryd.func8, Tryd.ntmps8
      go_wp2_with fail
      refine (validate_any ⟨s, e, A1, n1, m1, A2, n2, m2, ls, ld⟩ 0 HX.out _ (HK.out.below (by repeat' (first | (with_reducible exact Below.refl _ _) | (with_reducible assumption) | (with_reducible refine below_drewN ?_ _) | (with_reducible refine below_step (by assumption) ?_ ?_) | (with_reducible refine Below.alloc ?_ ?_ _) | (with_reducible refine Below.setCell ?_ ?_ _) | (with_reducible refine Below.drew ?_) | go_size | (exact Below.size (by assumption)) | (refine Nat.le_trans (Below.size (by assumption)) ?_))))).mono ?_
      rintro e' w1 ⟨rfl, hb1⟩
      have k1 := (Box4.new w ⟨s, e, A1, n1, m1, A2, n2, m2, ls, ld⟩ 24).keep hb1
      obtain ⟨p0, p1, p2, p3, p4⟩ := id k1
      simp only at p0 p1 p2 p3
      have hW : Below w.heap.size w w1 := (by repeat' (first | (with_reducible exact Below.refl _ _) | (with_reducible assumption) | (with_reducible refine below_drewN ?_ _) | (with_reducible refine below_step (by assumption) ?_ ?_) | (with_reducible refine Below.alloc ?_ ?_ _) | (with_reducible refine Below.setCell ?_ ?_ _) | (with_reducible refine Below.drew ?_) | go_size | (exact Below.size (by assumption)) | (refine Nat.le_trans (Below.size (by assumption)) ?_)))
      have HK1 := Lib.hid (HK.out.below hW)
      have HW := Lib.hid hW
      clear hW hb1
      go_wp2_with fail
      refine (week_f ⟨s, e, A1, n1, m1, A2, n2, m2, ls, ld⟩ f HF.out _ HK1.out (rest_set HK1.out HX.out)).mono ?_
      rintro e' w2 ⟨rfl, hb2⟩
      have hW2 : Below w.heap.size w w2 := HW.out.trans (hb2.mono HW.out.size)
      have k2 := k1.keep hb2
      have HK2 := Lib.hid (HK1.out.below hb2)
      have HW2 := Lib.hid hW2
      clear k1 p0 p1 p2 p3 p4 hW2 hb2
      obtain ⟨p0, p1, p2, p3, p4⟩ := id k2
      simp only at p0 p1 p2 p3
      go_wp2
      clear d1 d2 d3 d4
      go_loopw [2, 10] (fun t i wr => ∃ (k : Nat) (u : Int), i = .int .i64 k ∧ t = .int .i64 u ∧ k ≤ 2000 ∧ 0 < u ∧ u ≤ 9223372036854775807 ∧ Hid (Below w.heap.size w wr ∧ CalIn wr ⟨s, e, A1, n1, m1, A2, n2, m2, ls, ld⟩ ∧ Box4 wr w.heap.size ⟨s, e, A1, n1, m1, A2, n2, m2, ls, ld⟩ ∧ Seven wr w2.heap.size f ∧ aft ⟨s, e, A1, n1, m1, A2, n2, m2, ls, ld⟩ a (2000 - k) u = (v, z))) (fun _ i _ => 2000 - (intOf i).toNat)
      case atStart =>
        have hF := Seven.fill w2 f 41
        have hB : Below w2.heap.size w2 (w2.alloc (.cells #[.bool (f 0), .bool (f 1), .bool (f 2), .bool (f 3), .bool (f 4), .bool (f 5), .bool (f 6)] 41)) := (Below.refl _ _).alloc (Nat.le_refl _) _
        exact ⟨q, m, rfl, rfl, by omega, c5, g2, HW2.out.trans (hB.mono HW2.out.size), HK2.out.below hB, k2.keep hB, hF, (aft_skip (K := ⟨s, e, A1, n1, m1, A2, n2, m2, ls, ld⟩) BH.out c5 q q0 (by omega)).symm.trans HN.out⟩
      case round =>
        obtain ⟨k, u, rfl, rfl, hk, hu1, hu2, hs⟩ := hrel
        obtain ⟨hb, hc, hx, h7, hn⟩ := hs.out
        by_cases hlt : k < 2000
        · clear p0 p1 p2 p3 p4
          obtain ⟨p0, p1, p2, p3, p4⟩ := id hx
          obtain ⟨s0, -⟩ := h7.1 0 (by omega)
          obtain ⟨s1, -⟩ := h7.1 1 (by omega)
          obtain ⟨s2, -⟩ := h7.1 2 (by omega)
          obtain ⟨s3, -⟩ := h7.1 3 (by omega)
          obtain ⟨s4, -⟩ := h7.1 4 (by omega)
          obtain ⟨s5, -⟩ := h7.1 5 (by omega)
          obtain ⟨s6, -⟩ := h7.1 6 (by omega)
          simp only at p0 p1 p2 p3
          obtain ⟨h1, h2⟩ := aft_step hlt hn
          have H1 := Lib.hid h1
          have H2 := Lib.hid h2
          clear hb hc hx hn h1 h2 h7
          obtain ⟨y, hy⟩ : ∃ y, opn ⟨s, e, A1, n1, m1, A2, n2, m2, ls, ld⟩ k = y := ⟨_, rfl⟩
          have HY := Lib.hid hy
          clear hy
          go_wp2_with fail
          refine (isOpen_any ⟨s, e, A1, n1, m1, A2, n2, m2, ls, ld⟩ f k HF.out (by omega) _ hs.out.2.1).mono ?_
          rw [HY.out]
          rintro e' w3 ⟨rfl, hb2⟩
          have hb3 : Below w.heap.size w w3 := hs.out.1.trans (hb2.mono hs.out.1.size)
          have k3 := hs.out.2.2.1.keep hb2
          have h3 := hs.out.2.2.2.1.keep hb2
          have H3 := Lib.hid h3
          have HC := Lib.hid (hs.out.2.1.below hb2)
          have HB := Lib.hid hb3
          obtain ⟨t0, t1, -, -, -⟩ := id k3
          simp only at t0 t1
          clear hb2 hb3 h3
          cases y
          · go_wp2
            go_roundw
            case rel => exact ⟨k + 1, u, by go_num, rfl, by omega, by omega, by omega, HB.out, HC.out, k3, H3.out, by have := H1.out; rw [hours_shut HY.out, Int.sub_zero] at this; exact this (by omega)⟩
            case measure => simp [intOf]; omega
          · have bh := BH.out
            simp only [badHours] at bh
            have s0 : 0 ≤ s := by omega
            have s1 : s ≤ 1439 := by omega
            have t2 : 0 ≤ e := by omega
            have t3 : e ≤ 1440 := by omega
            clear bh
            rcases (show (a < k * 1440 + s) ∨ (k * 1440 + s ≤ a) by omega) with ca | ca
            · rcases (show (0 < k * 1440 + e - (k * 1440 + s)) ∨ (k * 1440 + e - (k * 1440 + s) ≤ 0) by omega) with cb | cb
              · have E4 : Hid (hrs ⟨s, e, A1, n1, m1, A2, n2, m2, ls, ld⟩ k a 2880000 = (k * 1440 + e - (k * 1440 + s))) := Lib.hid (aft_val (K := ⟨s, e, A1, n1, m1, A2, n2, m2, ls, ld⟩) (s := s) (e := e) HY.out rfl rfl hlt (k * 1440 + s) (k * 1440 + e - (k * 1440 + s)) (by omega) (by omega))
                rcases (show ((k * 1440 + e - (k * 1440 + s)) < u) ∨ (u ≤ (k * 1440 + e - (k * 1440 + s))) by omega) with cu | cu
                · have du : decide (u ≤ (k * 1440 + e - (k * 1440 + s))) = false := decide_eq_false (by omega)
                  go_wp2
                  go_roundw
                  case rel => exact ⟨k + 1, u - (k * 1440 + e - (k * 1440 + s)), by go_num, by go_num, by omega, by omega, by omega, HB.out, HC.out, k3, H3.out, by have h := H1.out; rw [E4.out] at h; exact h cu⟩
                  case measure => simp [intOf]; omega
                · go_wp2
                  go_ret2
                  refine ⟨ret_ii ((H2.out (by rw [E4.out]; omega)).symm.trans ?_), HB.out⟩
                  simp only [Prod.mk.injEq, and_true]
                  omega
              · have db : decide (0 < k * 1440 + e - (k * 1440 + s)) = false := decide_eq_false (by omega)
                have E4 : Hid (hrs ⟨s, e, A1, n1, m1, A2, n2, m2, ls, ld⟩ k a 2880000 = 0) := Lib.hid (aft_val (K := ⟨s, e, A1, n1, m1, A2, n2, m2, ls, ld⟩) (s := s) (e := e) HY.out rfl rfl hlt (k * 1440 + s) 0 (by omega) (by omega))
                rcases (show (0 < u) ∨ (u ≤ 0) by omega) with cu | cu
                · have du : decide (u ≤ 0) = false := decide_eq_false (by omega)
                  go_wp2
                  go_roundw
                  case rel => exact ⟨k + 1, u - 0, by go_num, by go_num, by omega, by omega, by omega, HB.out, HC.out, k3, H3.out, by have h := H1.out; rw [E4.out] at h; exact h cu⟩
                  case measure => simp [intOf]; omega
                · exact absurd cu (by omega)
            · have da : decide (a < k * 1440 + s) = false := decide_eq_false (by omega)
              rcases (show (0 < k * 1440 + e - a) ∨ (k * 1440 + e - a ≤ 0) by omega) with cb | cb
              · have E4 : Hid (hrs ⟨s, e, A1, n1, m1, A2, n2, m2, ls, ld⟩ k a 2880000 = (k * 1440 + e - a)) := Lib.hid (aft_val (K := ⟨s, e, A1, n1, m1, A2, n2, m2, ls, ld⟩) (s := s) (e := e) HY.out rfl rfl hlt a (k * 1440 + e - a) (by omega) (by omega))
                rcases (show ((k * 1440 + e - a) < u) ∨ (u ≤ (k * 1440 + e - a)) by omega) with cu | cu
                · have du : decide (u ≤ (k * 1440 + e - a)) = false := decide_eq_false (by omega)
                  go_wp2
                  go_roundw
                  case rel => exact ⟨k + 1, u - (k * 1440 + e - a), by go_num, by go_num, by omega, by omega, by omega, HB.out, HC.out, k3, H3.out, by have h := H1.out; rw [E4.out] at h; exact h cu⟩
                  case measure => simp [intOf]; omega
                · go_wp2
                  go_ret2
                  refine ⟨ret_ii ((H2.out (by rw [E4.out]; omega)).symm.trans ?_), HB.out⟩
                  simp only [Prod.mk.injEq, and_true]
                  omega
              · have db : decide (0 < k * 1440 + e - a) = false := decide_eq_false (by omega)
                have E4 : Hid (hrs ⟨s, e, A1, n1, m1, A2, n2, m2, ls, ld⟩ k a 2880000 = 0) := Lib.hid (aft_val (K := ⟨s, e, A1, n1, m1, A2, n2, m2, ls, ld⟩) (s := s) (e := e) HY.out rfl rfl hlt a 0 (by omega) (by omega))
                rcases (show (0 < u) ∨ (u ≤ 0) by omega) with cu | cu
                · have du : decide (u ≤ 0) = false := decide_eq_false (by omega)
                  go_wp2
                  go_roundw
                  case rel => exact ⟨k + 1, u - 0, by go_num, by go_num, by omega, by omega, by omega, HB.out, HC.out, k3, H3.out, by have h := H1.out; rw [E4.out] at h; exact h cu⟩
                  case measure => simp [intOf]; omega
                · exact absurd cu (by omega)
        · have : k = 2000 := by omega
          subst this
          have hz : ((0 : Int), (4 : Int)) = (v, z) := hn
          have HZ := Lib.hid hz
          clear hb hc hx hn hz h7
          go_wp2
          go_ret2
          exact ⟨ret_ii HZ.out.symm, hs.out.1⟩
    · have C3 := Lib.hid c3
      rcases (show a < 0 ∨ (0 ≤ a ∧ 2880000 < a) ∨ (0 ≤ a ∧ a ≤ 2880000 ∧ m < 0) ∨ (0 ≤ a ∧ a ≤ 2880000 ∧ m = 0) by omega) with c4 | ⟨c4, c5⟩ | ⟨c4, c5, c6⟩ | ⟨c4, c5, rfl⟩
      · clear c3
        go_enter Tryd.func8, Tryd.ntmps8
        go_wp2_with fail
        refine (validate_any ⟨s, e, A1, n1, m1, A2, n2, m2, ls, ld⟩ 0 HX.out _ (HK.out.below (by repeat' (first | (with_reducible exact Below.refl _ _) | (with_reducible assumption) | (with_reducible refine below_drewN ?_ _) | (with_reducible refine below_step (by assumption) ?_ ?_) | (with_reducible refine Below.alloc ?_ ?_ _) | (with_reducible refine Below.setCell ?_ ?_ _) | (with_reducible refine Below.drew ?_) | go_size | (exact Below.size (by assumption)) | (refine Nat.le_trans (Below.size (by assumption)) ?_))))).mono ?_
        rintro e' w1 ⟨rfl, hb1⟩
        have k1 := (Box4.new w ⟨s, e, A1, n1, m1, A2, n2, m2, ls, ld⟩ 24).keep hb1
        obtain ⟨p0, p1, p2, p3, p4⟩ := id k1
        simp only at p0 p1 p2 p3
        have hW : Below w.heap.size w w1 := (by repeat' (first | (with_reducible exact Below.refl _ _) | (with_reducible assumption) | (with_reducible refine below_drewN ?_ _) | (with_reducible refine below_step (by assumption) ?_ ?_) | (with_reducible refine Below.alloc ?_ ?_ _) | (with_reducible refine Below.setCell ?_ ?_ _) | (with_reducible refine Below.drew ?_) | go_size | (exact Below.size (by assumption)) | (refine Nat.le_trans (Below.size (by assumption)) ?_)))
        have HK1 := Lib.hid (HK.out.below hW)
        have HW := Lib.hid hW
        clear hW hb1
        go_wp2
        go_ret2
        exact ⟨ret_ii (HR.out.symm.trans (aftR_out HX.out (by omega))), HW.out⟩
      · have d1 : decide (a < 0) = false := decide_eq_false (by omega)
        clear c3
        go_enter Tryd.func8, Tryd.ntmps8
        go_wp2_with fail
        refine (validate_any ⟨s, e, A1, n1, m1, A2, n2, m2, ls, ld⟩ 0 HX.out _ (HK.out.below (by repeat' (first | (with_reducible exact Below.refl _ _) | (with_reducible assumption) | (with_reducible refine below_drewN ?_ _) | (with_reducible refine below_step (by assumption) ?_ ?_) | (with_reducible refine Below.alloc ?_ ?_ _) | (with_reducible refine Below.setCell ?_ ?_ _) | (with_reducible refine Below.drew ?_) | go_size | (exact Below.size (by assumption)) | (refine Nat.le_trans (Below.size (by assumption)) ?_))))).mono ?_
        rintro e' w1 ⟨rfl, hb1⟩
        have k1 := (Box4.new w ⟨s, e, A1, n1, m1, A2, n2, m2, ls, ld⟩ 24).keep hb1
        obtain ⟨p0, p1, p2, p3, p4⟩ := id k1
        simp only at p0 p1 p2 p3
        have hW : Below w.heap.size w w1 := (by repeat' (first | (with_reducible exact Below.refl _ _) | (with_reducible assumption) | (with_reducible refine below_drewN ?_ _) | (with_reducible refine below_step (by assumption) ?_ ?_) | (with_reducible refine Below.alloc ?_ ?_ _) | (with_reducible refine Below.setCell ?_ ?_ _) | (with_reducible refine Below.drew ?_) | go_size | (exact Below.size (by assumption)) | (refine Nat.le_trans (Below.size (by assumption)) ?_)))
        have HK1 := Lib.hid (HK.out.below hW)
        have HW := Lib.hid hW
        clear hW hb1
        go_wp2
        go_ret2
        exact ⟨ret_ii (HR.out.symm.trans (aftR_out HX.out (by omega))), HW.out⟩
      · have d1 : decide (a < 0) = false := decide_eq_false (by omega)
        have d2 : decide (2880000 < a) = false := decide_eq_false (by omega)
        clear c3
        go_enter Tryd.func8, Tryd.ntmps8
        go_wp2_with fail
        refine (validate_any ⟨s, e, A1, n1, m1, A2, n2, m2, ls, ld⟩ 0 HX.out _ (HK.out.below (by repeat' (first | (with_reducible exact Below.refl _ _) | (with_reducible assumption) | (with_reducible refine below_drewN ?_ _) | (with_reducible refine below_step (by assumption) ?_ ?_) | (with_reducible refine Below.alloc ?_ ?_ _) | (with_reducible refine Below.setCell ?_ ?_ _) | (with_reducible refine Below.drew ?_) | go_size | (exact Below.size (by assumption)) | (refine Nat.le_trans (Below.size (by assumption)) ?_))))).mono ?_
        rintro e' w1 ⟨rfl, hb1⟩
        have k1 := (Box4.new w ⟨s, e, A1, n1, m1, A2, n2, m2, ls, ld⟩ 24).keep hb1
        obtain ⟨p0, p1, p2, p3, p4⟩ := id k1
        simp only at p0 p1 p2 p3
        have hW : Below w.heap.size w w1 := (by repeat' (first | (with_reducible exact Below.refl _ _) | (with_reducible assumption) | (with_reducible refine below_drewN ?_ _) | (with_reducible refine below_step (by assumption) ?_ ?_) | (with_reducible refine Below.alloc ?_ ?_ _) | (with_reducible refine Below.setCell ?_ ?_ _) | (with_reducible refine Below.drew ?_) | go_size | (exact Below.size (by assumption)) | (refine Nat.le_trans (Below.size (by assumption)) ?_)))
        have HK1 := Lib.hid (HK.out.below hW)
        have HW := Lib.hid hW
        clear hW hb1
        go_wp2
        go_ret2
        exact ⟨ret_ii (HR.out.symm.trans (aftR_out HX.out (by omega))), HW.out⟩
      · have d1 : decide (a < 0) = false := decide_eq_false (by omega)
        have d2 : decide (2880000 < a) = false := decide_eq_false (by omega)
        clear c3
        go_enter Tryd.func8, Tryd.ntmps8
        go_wp2_with fail
        refine (validate_any ⟨s, e, A1, n1, m1, A2, n2, m2, ls, ld⟩ 0 HX.out _ (HK.out.below (by repeat' (first | (with_reducible exact Below.refl _ _) | (with_reducible assumption) | (with_reducible refine below_drewN ?_ _) | (with_reducible refine below_step (by assumption) ?_ ?_) | (with_reducible refine Below.alloc ?_ ?_ _) | (with_reducible refine Below.setCell ?_ ?_ _) | (with_reducible refine Below.drew ?_) | go_size | (exact Below.size (by assumption)) | (refine Nat.le_trans (Below.size (by assumption)) ?_))))).mono ?_
        rintro e' w1 ⟨rfl, hb1⟩
        have k1 := (Box4.new w ⟨s, e, A1, n1, m1, A2, n2, m2, ls, ld⟩ 24).keep hb1
        obtain ⟨p0, p1, p2, p3, p4⟩ := id k1
        simp only at p0 p1 p2 p3
        have hW : Below w.heap.size w w1 := (by repeat' (first | (with_reducible exact Below.refl _ _) | (with_reducible assumption) | (with_reducible refine below_drewN ?_ _) | (with_reducible refine below_step (by assumption) ?_ ?_) | (with_reducible refine Below.alloc ?_ ?_ _) | (with_reducible refine Below.setCell ?_ ?_ _) | (with_reducible refine Below.drew ?_) | go_size | (exact Below.size (by assumption)) | (refine Nat.le_trans (Below.size (by assumption)) ?_)))
        have HK1 := Lib.hid (HK.out.below hW)
        have HW := Lib.hid hW
        clear hW hb1
        go_wp2
        go_ret2
        exact ⟨ret_ii (HR.out.symm.trans (aftR_zero HX.out ⟨c4, c5⟩)), HW.out⟩
  · have cx := errne c0
    have C0 := Lib.hid c0
    clear c0
    go_enter Tryd.func8, Tryd.ntmps8
    go_wp2_with fail
    refine (validate_any ⟨s, e, A1, n1, m1, A2, n2, m2, ls, ld⟩ x HX.out _ (HK.out.below (by repeat' (first | (with_reducible exact Below.refl _ _) | (with_reducible assumption) | (with_reducible refine below_drewN ?_ _) | (with_reducible refine below_step (by assumption) ?_ ?_) | (with_reducible refine Below.alloc ?_ ?_ _) | (with_reducible refine Below.setCell ?_ ?_ _) | (with_reducible refine Below.drew ?_) | go_size | (exact Below.size (by assumption)) | (refine Nat.le_trans (Below.size (by assumption)) ?_))))).mono ?_
    rintro e' w1 ⟨rfl, hb1⟩
    have k1 := (Box4.new w ⟨s, e, A1, n1, m1, A2, n2, m2, ls, ld⟩ 24).keep hb1
    obtain ⟨p0, p1, p2, p3, p4⟩ := id k1
    simp only at p0 p1 p2 p3
    have hW : Below w.heap.size w w1 := (by repeat' (first | (with_reducible exact Below.refl _ _) | (with_reducible assumption) | (with_reducible refine below_drewN ?_ _) | (with_reducible refine below_step (by assumption) ?_ ?_) | (with_reducible refine Below.alloc ?_ ?_ _) | (with_reducible refine Below.setCell ?_ ?_ _) | (with_reducible refine Below.drew ?_) | go_size | (exact Below.size (by assumption)) | (refine Nat.le_trans (Below.size (by assumption)) ?_)))
    have HK1 := Lib.hid (HK.out.below hW)
    have HW := Lib.hid hW
    clear hW hb1
    go_wp2
    go_ret2
    exact ⟨ret_ii (HR.out.symm.trans (aftR_err HX.out C0.out)), HW.out⟩
end Go.Proofs.YtplgndllfkceiaaDoor
