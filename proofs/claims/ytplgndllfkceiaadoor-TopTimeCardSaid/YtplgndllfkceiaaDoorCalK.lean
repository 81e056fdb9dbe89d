/-
  Working, THE PROGRAM'S.
-/
import Derived.Test.YtplgndllfkceiaaDoorCalJ
namespace Go.Proofs.YtplgndllfkceiaaDoor
open Go.RowKit
theorem hrs_code {K : Cal} {k a b u s e : Int} (ho : opn K k = true) (es : s = K.s) (ee : e = K.e) (k0 : 0 ≤ k) (k1 : k ≤ 2000) (a0 : 0 ≤ a) (a1 : a ≤ 2880000) (b0 : 0 ≤ b) (b1 : b ≤ 2880000) (s0 : 0 ≤ s) (s1 : s ≤ 1439) (e0 : 0 ≤ e) (e1 : e ≤ 1440) (u0 : 0 ≤ u) (u1 : u ≤ 2880000) :
    wrap64 (u + if 0 < wrap64 ((if wrap64 (k * 1440 + e) < b then wrap64 (k * 1440 + e) else b) - if a < wrap64 (k * 1440 + s) then wrap64 (k * 1440 + s) else a) then
      wrap64 ((if wrap64 (k * 1440 + e) < b then wrap64 (k * 1440 + e) else b) - if a < wrap64 (k * 1440 + s) then wrap64 (k * 1440 + s) else a) else 0) = u + hrs K k a b := by
  rw [hrs, if_pos ho, ← es, ← ee]
  rw [IntWalk.wrap64_in (k * 1440 + e) ⟨by omega, by omega⟩, IntWalk.wrap64_in (k * 1440 + s) ⟨by omega, by omega⟩]
  have h1 : -2900000 ≤ (if k * 1440 + e < b then k * 1440 + e else b) - (if a < k * 1440 + s then k * 1440 + s else a) := by split <;> split <;> omega
  have h2 : (if k * 1440 + e < b then k * 1440 + e else b) - (if a < k * 1440 + s then k * 1440 + s else a) ≤ 2900000 := by split <;> split <;> omega
  rw [IntWalk.wrap64_in ((if k * 1440 + e < b then k * 1440 + e else b) - (if a < k * 1440 + s then k * 1440 + s else a)) ⟨by omega, by omega⟩]
  have h3 : (if k * 1440 + e < b then k * 1440 + e else b) - (if a < k * 1440 + s then k * 1440 + s else a) = min b (k * 1440 + e) - max a (k * 1440 + s) := by split <;> split <;> omega
  rw [h3] at h1 h2 ⊢
  rw [IntWalk.wrap64_in _ ⟨by split <;> omega, by split <;> omega⟩]
  split <;> omega
set_option maxRecDepth 100000 in
set_option maxHeartbeats 8000000 in
theorem working_any (K : Cal) (a b v z : Int) (hr : wrk K a b = (v, z)) (w : World) (hk : CalIn w K) :
    Calls Tryd.prog 7 #[K.v, .int .i64 a, .int .i64 b] w fun e w' => e = .returned (.tuple #[.int .i64 v, .int .i64 z]) ∧ Below w.heap.size w w' := by
  obtain ⟨f, hf⟩ : ∃ f : Nat → Bool, ∀ j, f j = decide ((j : Int) ∈ K.rs) := ⟨_, fun _ => rfl⟩
  have HF := Lib.hid hf
  clear hf
  have HK := Lib.hid hk
  have HR := Lib.hid hr
  obtain ⟨x, hx⟩ : ∃ x, cerr K = x := ⟨_, rfl⟩
  have HX := Lib.hid hx
  obtain ⟨s, e, A1, n1, m1, A2, n2, m2, ls, ld⟩ := K
  clear hr hk hx
  simp only [Cal.v]
  by_cases c0 : x = 0
  · subst c0
    by_cases c3 : 0 ≤ a ∧ a ≤ b ∧ b ≤ 2880000
    · have HN := Lib.hid ((wrk_in HX.out c3).symm.trans HR.out)
      obtain ⟨c3, c4, c5⟩ := c3
      have d1 : decide (a < 0) = false := decide_eq_false (by omega)
      have d2 : decide (b < a) = false := decide_eq_false (by omega)
      have d3 : decide (2880000 < b) = false := decide_eq_false (by omega)
      have BH := Lib.hid (cerr_zero HX.out).1
      obtain ⟨q, hq⟩ : ∃ q : Nat, a / 1440 = (q : Int) := Int.eq_ofNat_of_zero_le (by omega)
      have hq2 : Int.tdiv a 1440 = (q : Int) := by rw [Int.tdiv_eq_ediv_of_nonneg c3, hq]
      have q0 : (q : Int) * 1440 ≤ a := by omega
      clear hq
      go_enter Tryd.func7, Tryd.ntmps7
      go_wp2_with fail
      refine (validate_any ⟨s, e, A1, n1, m1, A2, n2, m2, ls, ld⟩ 0 HX.out _ (HK.out.below (by repeat' (first | (with_reducible exact Below.refl _ _) | (with_reducible assumption) | (with_reducible refine below_drewN ?_ _) | (with_reducible refine below_step (by assumption) ?_ ?_) | (with_reducible refine Below.alloc ?_ ?_ _) | (with_reducible refine Below.setCell ?_ ?_ _) | (with_reducible refine Below.drew ?_) | go_size | (exact Below.size (by assumption)) | (refine Nat.le_trans (Below.size (by assumption)) ?_))))).mono ?_
      rintro e' w1 ⟨rfl, hb1⟩
      have k1 := (Box4.new w ⟨s, e, A1, n1, m1, A2, n2, m2, ls, ld⟩ 24).keep hb1
      obtain ⟨p0, p1, p2, p3, p4⟩ := id k1
      simp only at p0 p1 p2 p3
      have hW : Below w.heap.size w w1 := (by repeat' (first | (with_reducible exact Below.refl _ _) | (with_reducible assumption) | (with_reducible refine below_drewN ?_ _) | (with_reducible refine below_step (by assumption) ?_ ?_) | (with_reducible refine Below.alloc ?_ ?_ _) | (with_reducible refine Below.setCell ?_ ?_ _) | (with_reducible refine Below.drew ?_) | go_size | (exact Below.size (by assumption)) | (refine Nat.le_trans (Below.size (by assumption)) ?_)))
      have HK1 := Lib.hid (HK.out.below hW)
      have HW := Lib.hid hW
      clear hW hb1
      go_wp2_with fail
      refine (week_f ⟨s, e, A1, n1, m1, A2, n2, m2, ls, ld⟩ f HF.out _ HK1.out (rest_set HK1.out HX.out)).mono ?_
      rintro e' w2 ⟨rfl, hb2⟩
      have hW2 : Below w.heap.size w w2 := HW.out.trans (hb2.mono HW.out.size)
      have k2 := k1.keep hb2
      have HK2 := Lib.hid (HK1.out.below hb2)
      have HW2 := Lib.hid hW2
      clear k1 p0 p1 p2 p3 p4 hW2 hb2
      obtain ⟨p0, p1, p2, p3, p4⟩ := id k2
      simp only at p0 p1 p2 p3
      go_wp2
      go_loopw [9, 11] (fun t i wr => ∃ (k : Nat) (u : Int), i = .int .i64 k ∧ t = .int .i64 u ∧ k ≤ 2000 ∧ 0 ≤ u ∧ u ≤ 1440 * k ∧ Hid (Below w.heap.size w wr ∧ CalIn wr ⟨s, e, A1, n1, m1, A2, n2, m2, ls, ld⟩ ∧ Box4 wr w.heap.size ⟨s, e, A1, n1, m1, A2, n2, m2, ls, ld⟩ ∧ Seven wr w2.heap.size f ∧ total ⟨s, e, A1, n1, m1, A2, n2, m2, ls, ld⟩ a b k = u)) (fun _ i _ => 2000 - (intOf i).toNat)
      case atStart =>
        have hF := Seven.fill w2 f 41
        have hB : Below w2.heap.size w2 (w2.alloc (.cells #[.bool (f 0), .bool (f 1), .bool (f 2), .bool (f 3), .bool (f 4), .bool (f 5), .bool (f 6)] 41)) := (Below.refl _ _).alloc (Nat.le_refl _) _
        exact ⟨q, 0, rfl, rfl, by omega, by omega, by omega, HW2.out.trans (hB.mono HW2.out.size), HK2.out.below hB, k2.keep hB, hF, total_before (K := ⟨s, e, A1, n1, m1, A2, n2, m2, ls, ld⟩) BH.out q q0⟩
      case round =>
        obtain ⟨k, u, rfl, rfl, hk, hu1, hu2, hs⟩ := hrel
        obtain ⟨hb, hc, hx, h7, hn⟩ := hs.out
        by_cases hlt : (k : Int) * 1440 < b
        · clear p0 p1 p2 p3 p4
          obtain ⟨p0, p1, p2, p3, p4⟩ := id hx
          obtain ⟨s0, -⟩ := h7.1 0 (by omega)
          obtain ⟨s1, -⟩ := h7.1 1 (by omega)
          obtain ⟨s2, -⟩ := h7.1 2 (by omega)
          obtain ⟨s3, -⟩ := h7.1 3 (by omega)
          obtain ⟨s4, -⟩ := h7.1 4 (by omega)
          obtain ⟨s5, -⟩ := h7.1 5 (by omega)
          obtain ⟨s6, -⟩ := h7.1 6 (by omega)
          simp only at p0 p1 p2 p3
          have h1 := total_succ ⟨s, e, A1, n1, m1, A2, n2, m2, ls, ld⟩ a b k
          rw [hn] at h1
          have H1 := Lib.hid h1
          clear hb hc hx hn h1 h7
          obtain ⟨y, hy⟩ : ∃ y, opn ⟨s, e, A1, n1, m1, A2, n2, m2, ls, ld⟩ k = y := ⟨_, rfl⟩
          have HY := Lib.hid hy
          clear hy
          go_wp2_with fail
          refine (isOpen_any ⟨s, e, A1, n1, m1, A2, n2, m2, ls, ld⟩ f k HF.out (by omega) _ hs.out.2.1).mono ?_
          rw [HY.out]
          rintro e' w3 ⟨rfl, hb2⟩
          have hb3 : Below w.heap.size w w3 := hs.out.1.trans (hb2.mono hs.out.1.size)
          have k3 := hs.out.2.2.1.keep hb2
          have h3 := hs.out.2.2.2.1.keep hb2
          have H3 := Lib.hid h3
          have HC := Lib.hid (hs.out.2.1.below hb2)
          have HB := Lib.hid hb3
          obtain ⟨t0, t1, -, -, -⟩ := id k3
          simp only at t0 t1
          clear hb2 hb3 h3
          cases y
          · go_wp2
            go_roundw
            case rel => exact ⟨k + 1, u, by go_num, rfl, by omega, by omega, by omega, HB.out, HC.out, k3, H3.out, by rw [H1.out, hours_shut HY.out, Int.add_zero]⟩
            case measure => simp [intOf]; omega
          · go_wp2
            have hh := hrs_bd (K := ⟨s, e, A1, n1, m1, A2, n2, m2, ls, ld⟩) BH.out k a b
            have hbh := BH.out
            simp only [badHours] at hbh
            refine ⟨⟨k + 1, u + hrs ⟨s, e, A1, n1, m1, A2, n2, m2, ls, ld⟩ k a b, by go_num, ?_, by omega, by omega, by omega, HB.out, HC.out, k3, H3.out, H1.out⟩, by simp [intOf]; omega⟩
            rw [hrs_code (K := ⟨s, e, A1, n1, m1, A2, n2, m2, ls, ld⟩) (s := s) (e := e) HY.out rfl rfl (by omega) (by omega) c3 (by omega) (by omega) c5 (by omega) (by omega) (by omega) (by omega) hu1 (by omega)]
        · clear hb hc hx hn h7
          go_wp2
          go_ret2
          exact ⟨ret_ii (by rw [← HN.out, ← hs.out.2.2.2.2, ← total_behind (K := ⟨s, e, A1, n1, m1, A2, n2, m2, ls, ld⟩) BH.out k (2000 - k) (by omega), show k + (2000 - k) = 2000 by omega]), hs.out.1⟩
    · have C3 := Lib.hid c3
      by_cases c4 : a < 0
      · clear c3
        go_enter Tryd.func7, Tryd.ntmps7
        go_wp2_with fail
        refine (validate_any ⟨s, e, A1, n1, m1, A2, n2, m2, ls, ld⟩ 0 HX.out _ (HK.out.below (by repeat' (first | (with_reducible exact Below.refl _ _) | (with_reducible assumption) | (with_reducible refine below_drewN ?_ _) | (with_reducible refine below_step (by assumption) ?_ ?_) | (with_reducible refine Below.alloc ?_ ?_ _) | (with_reducible refine Below.setCell ?_ ?_ _) | (with_reducible refine Below.drew ?_) | go_size | (exact Below.size (by assumption)) | (refine Nat.le_trans (Below.size (by assumption)) ?_))))).mono ?_
        rintro e' w1 ⟨rfl, hb1⟩
        have k1 := (Box4.new w ⟨s, e, A1, n1, m1, A2, n2, m2, ls, ld⟩ 24).keep hb1
        obtain ⟨p0, p1, p2, p3, p4⟩ := id k1
        simp only at p0 p1 p2 p3
        have hW : Below w.heap.size w w1 := (by repeat' (first | (with_reducible exact Below.refl _ _) | (with_reducible assumption) | (with_reducible refine below_drewN ?_ _) | (with_reducible refine below_step (by assumption) ?_ ?_) | (with_reducible refine Below.alloc ?_ ?_ _) | (with_reducible refine Below.setCell ?_ ?_ _) | (with_reducible refine Below.drew ?_) | go_size | (exact Below.size (by assumption)) | (refine Nat.le_trans (Below.size (by assumption)) ?_)))
        have HK1 := Lib.hid (HK.out.below hW)
        have HW := Lib.hid hW
        clear hW hb1
        go_wp2
        go_ret2
        exact ⟨ret_ii (HR.out.symm.trans (wrk_out HX.out C3.out)), HW.out⟩
      · have d1 : decide (a < 0) = false := decide_eq_false c4
        by_cases c5 : b < a
        · clear c3 c4
          go_enter Tryd.func7, Tryd.ntmps7
          go_wp2_with fail
          refine (validate_any ⟨s, e, A1, n1, m1, A2, n2, m2, ls, ld⟩ 0 HX.out _ (HK.out.below (by repeat' (first | (with_reducible exact Below.refl _ _) | (with_reducible assumption) | (with_reducible refine below_drewN ?_ _) | (with_reducible refine below_step (by assumption) ?_ ?_) | (with_reducible refine Below.alloc ?_ ?_ _) | (with_reducible refine Below.setCell ?_ ?_ _) | (with_reducible refine Below.drew ?_) | go_size | (exact Below.size (by assumption)) | (refine Nat.le_trans (Below.size (by assumption)) ?_))))).mono ?_
          rintro e' w1 ⟨rfl, hb1⟩
          have k1 := (Box4.new w ⟨s, e, A1, n1, m1, A2, n2, m2, ls, ld⟩ 24).keep hb1
          obtain ⟨p0, p1, p2, p3, p4⟩ := id k1
          simp only at p0 p1 p2 p3
          have hW : Below w.heap.size w w1 := (by repeat' (first | (with_reducible exact Below.refl _ _) | (with_reducible assumption) | (with_reducible refine below_drewN ?_ _) | (with_reducible refine below_step (by assumption) ?_ ?_) | (with_reducible refine Below.alloc ?_ ?_ _) | (with_reducible refine Below.setCell ?_ ?_ _) | (with_reducible refine Below.drew ?_) | go_size | (exact Below.size (by assumption)) | (refine Nat.le_trans (Below.size (by assumption)) ?_)))
          have HK1 := Lib.hid (HK.out.below hW)
          have HW := Lib.hid hW
          clear hW hb1
          go_wp2
          go_ret2
          exact ⟨ret_ii (HR.out.symm.trans (wrk_out HX.out C3.out)), HW.out⟩
        · have d2 : decide (b < a) = false := decide_eq_false c5
          have d3 : 2880000 < b := by omega
          clear c3 c4 c5
          go_enter Tryd.func7, Tryd.ntmps7
          go_wp2_with fail
          refine (validate_any ⟨s, e, A1, n1, m1, A2, n2, m2, ls, ld⟩ 0 HX.out _ (HK.out.below (by repeat' (first | (with_reducible exact Below.refl _ _) | (with_reducible assumption) | (with_reducible refine below_drewN ?_ _) | (with_reducible refine below_step (by assumption) ?_ ?_) | (with_reducible refine Below.alloc ?_ ?_ _) | (with_reducible refine Below.setCell ?_ ?_ _) | (with_reducible refine Below.drew ?_) | go_size | (exact Below.size (by assumption)) | (refine Nat.le_trans (Below.size (by assumption)) ?_))))).mono ?_
          rintro e' w1 ⟨rfl, hb1⟩
          have k1 := (Box4.new w ⟨s, e, A1, n1, m1, A2, n2, m2, ls, ld⟩ 24).keep hb1
          obtain ⟨p0, p1, p2, p3, p4⟩ := id k1
          simp only at p0 p1 p2 p3
          have hW : Below w.heap.size w w1 := (by repeat' (first | (with_reducible exact Below.refl _ _) | (with_reducible assumption) | (with_reducible refine below_drewN ?_ _) | (with_reducible refine below_step (by assumption) ?_ ?_) | (with_reducible refine Below.alloc ?_ ?_ _) | (with_reducible refine Below.setCell ?_ ?_ _) | (with_reducible refine Below.drew ?_) | go_size | (exact Below.size (by assumption)) | (refine Nat.le_trans (Below.size (by assumption)) ?_)))
          have HK1 := Lib.hid (HK.out.below hW)
          have HW := Lib.hid hW
          clear hW hb1
          go_wp2
          go_ret2
          exact ⟨ret_ii (HR.out.symm.trans (wrk_out HX.out C3.out)), HW.out⟩
  · have cx := errne c0
    have C0 := Lib.hid c0
    clear c0
    go_enter Tryd.func7, Tryd.ntmps7
    go_wp2_with fail
    refine (validate_any ⟨s, e, A1, n1, m1, A2, n2, m2, ls, ld⟩ x HX.out _ (HK.out.below (by repeat' (first | (with_reducible exact Below.refl _ _) | (with_reducible assumption) | (with_reducible refine below_drewN ?_ _) | (with_reducible refine below_step (by assumption) ?_ ?_) | (with_reducible refine Below.alloc ?_ ?_ _) | (with_reducible refine Below.setCell ?_ ?_ _) | (with_reducible refine Below.drew ?_) | go_size | (exact Below.size (by assumption)) | (refine Nat.le_trans (Below.size (by assumption)) ?_))))).mono ?_
    rintro e' w1 ⟨rfl, hb1⟩
    have k1 := (Box4.new w ⟨s, e, A1, n1, m1, A2, n2, m2, ls, ld⟩ 24).keep hb1
    obtain ⟨p0, p1, p2, p3, p4⟩ := id k1
    simp only at p0 p1 p2 p3
    have hW : Below w.heap.size w w1 := (by repeat' (first | (with_reducible exact Below.refl _ _) | (with_reducible assumption) | (with_reducible refine below_drewN ?_ _) | (with_reducible refine below_step (by assumption) ?_ ?_) | (with_reducible refine Below.alloc ?_ ?_ _) | (with_reducible refine Below.setCell ?_ ?_ _) | (with_reducible refine Below.drew ?_) | go_size | (exact Below.size (by assumption)) | (refine Nat.le_trans (Below.size (by assumption)) ?_)))
    have HK1 := Lib.hid (HK.out.below hW)
    have HW := Lib.hid hW
    clear hW hb1
    go_wp2
    go_ret2
    exact ⟨ret_ii (HR.out.symm.trans (wrk_err HX.out C0.out)), HW.out⟩
end Go.Proofs.YtplgndllfkceiaaDoor
