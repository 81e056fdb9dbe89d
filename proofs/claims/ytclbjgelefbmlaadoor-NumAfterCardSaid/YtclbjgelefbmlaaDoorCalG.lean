/-
  NextOpen, THE PROGRAM'S.
-/
import Derived.Test.YtclbjgelefbmlaaDoorCalF
namespace Go.Proofs.YtclbjgelefbmlaaDoor
open Go.RowKit
theorem week_f (K : Cal) (f : Nat → Bool) (hf : ∀ j, f j = decide ((j : Int) ∈ K.rs)) (w : World) (hk : CalIn w K) (hs : SetTo K.rs 6 K.n1) :
    Calls Tryd.prog 67 #[K.v] w fun e w' => e = .returned (.agg #[.bool (f 0), .bool (f 1), .bool (f 2), .bool (f 3), .bool (f 4), .bool (f 5), .bool (f 6)]) ∧ Below w.heap.size w w' := by
  have := week_any K w hk hs
  rw [show (fun j : Nat => decide ((j : Int) ∈ K.rs)) = f from (funext hf).symm] at this
  exact this
theorem Seven.fill (w : World) (f : Nat → Bool) (t : TypeId) : Seven (w.alloc (.cells #[.bool (f 0), .bool (f 1), .bool (f 2), .bool (f 3), .bool (f 4), .bool (f 5), .bool (f 6)] t)) w.heap.size f := by
  refine ⟨fun j hj => ?_, by simp⟩
  have : j = 0 ∨ j = 1 ∨ j = 2 ∨ j = 3 ∨ j = 4 ∨ j = 5 ∨ j = 6 := by omega
  rcases this with rfl | rfl | rfl | rfl | rfl | rfl | rfl <;> exact ⟨by simp, by simp⟩
set_option maxRecDepth 100000 in
set_option maxHeartbeats 4000000 in
theorem nextOpen_any (K : Cal) (day : Int) (b z : Int) (hr : nxtR K day = (b, z)) (w : World) (hk : CalIn w K) :
    Calls Tryd.prog 42 #[K.v, .int .i64 day] w fun e w' => e = .returned (.tuple #[.int .i64 b, .int .i64 z]) ∧ Below w.heap.size w w' := by
  obtain ⟨f, hf⟩ : ∃ f : Nat → Bool, ∀ j, f j = decide ((j : Int) ∈ K.rs) := ⟨_, fun _ => rfl⟩
  have HF := Lib.hid hf
  clear hf
  have HK := Lib.hid hk
  have HR := Lib.hid hr
  obtain ⟨x, hx⟩ : ∃ x, cerr K = x := ⟨_, rfl⟩
  have HX := Lib.hid hx
  obtain ⟨s, e, A1, n1, m1, A2, n2, m2, ls, ld⟩ := K
  clear hr hk hx
  simp only [Cal.v]
  by_cases c0 : x = 0
  · subst c0
    by_cases c3 : 0 ≤ day ∧ day ≤ 1999
    · obtain ⟨d, rfl⟩ := Int.eq_ofNat_of_zero_le c3.1
      have C3 := Lib.hid c3
      have HN := Lib.hid ((nxtR_in HX.out c3).symm.trans HR.out)
      have d1 : d < 2000 := by omega
      clear c3
      go_enter Tryd.func42, Tryd.ntmps42
      go_wp2_with fail
      refine (validate_any ⟨s, e, A1, n1, m1, A2, n2, m2, ls, ld⟩ 0 HX.out _ (HK.out.below (by repeat' (first | (with_reducible exact Below.refl _ _) | (with_reducible assumption) | (with_reducible refine below_drewN ?_ _) | (with_reducible refine below_step (by assumption) ?_ ?_) | (with_reducible refine Below.alloc ?_ ?_ _) | (with_reducible refine Below.setCell ?_ ?_ _) | (with_reducible refine Below.drew ?_) | go_size | (exact Below.size (by assumption)) | (refine Nat.le_trans (Below.size (by assumption)) ?_))))).mono ?_
      rintro e' w1 ⟨rfl, hb1⟩
      have k1 := (Box4.new w ⟨s, e, A1, n1, m1, A2, n2, m2, ls, ld⟩ 41).keep hb1
      obtain ⟨p0, p1, p2, p3, p4⟩ := id k1
      simp only at p0 p1 p2 p3
      have hW : Below w.heap.size w w1 := (by repeat' (first | (with_reducible exact Below.refl _ _) | (with_reducible assumption) | (with_reducible refine below_drewN ?_ _) | (with_reducible refine below_step (by assumption) ?_ ?_) | (with_reducible refine Below.alloc ?_ ?_ _) | (with_reducible refine Below.setCell ?_ ?_ _) | (with_reducible refine Below.drew ?_) | go_size | (exact Below.size (by assumption)) | (refine Nat.le_trans (Below.size (by assumption)) ?_)))
      have HK1 := Lib.hid (HK.out.below hW)
      have HW := Lib.hid hW
      clear hW hb1
      go_wp2_with fail
      refine (week_f ⟨s, e, A1, n1, m1, A2, n2, m2, ls, ld⟩ f HF.out _ HK1.out (rest_set HK1.out HX.out)).mono ?_
      rintro e' w2 ⟨rfl, hb2⟩
      have hW2 : Below w.heap.size w w2 := HW.out.trans (hb2.mono HW.out.size)
      have k2 := k1.keep hb2
      have HK2 := Lib.hid (HK1.out.below hb2)
      have HW2 := Lib.hid hW2
      clear k1 p0 p1 p2 p3 p4 hW2 hb2
      obtain ⟨p0, p1, p2, p3, p4⟩ := id k2
      simp only at p0 p1 p2 p3
      go_wp2
      go_loopw [1] (fun i wr => ∃ k : Nat, i = .int .i64 k ∧ k ≤ 2000 ∧ Hid (Below w.heap.size w wr ∧ CalIn wr ⟨s, e, A1, n1, m1, A2, n2, m2, ls, ld⟩ ∧ Box4 wr w.heap.size ⟨s, e, A1, n1, m1, A2, n2, m2, ls, ld⟩ ∧ Seven wr w2.heap.size f ∧ nxt ⟨s, e, A1, n1, m1, A2, n2, m2, ls, ld⟩ (2000 - k) = (b, z))) (fun i _ => 2000 - (intOf i).toNat)
      case atStart =>
        have hF := Seven.fill w2 f 66
        have hB : Below w2.heap.size w2 (w2.alloc (.cells #[.bool (f 0), .bool (f 1), .bool (f 2), .bool (f 3), .bool (f 4), .bool (f 5), .bool (f 6)] 66)) := (Below.refl _ _).alloc (Nat.le_refl _) _
        exact ⟨d, rfl, by omega, HW2.out.trans (hB.mono HW2.out.size), HK2.out.below hB, k2.keep hB, hF, HN.out⟩
      case round =>
        obtain ⟨k, rfl, hk, hs⟩ := hrel
        obtain ⟨hb, hc, hx, h7, hn⟩ := hs.out
        by_cases hlt : k < 2000
        · clear p0 p1 p2 p3 p4
          obtain ⟨p0, p1, p2, p3, p4⟩ := id hx
          obtain ⟨s0, -⟩ := h7.1 0 (by omega)
          obtain ⟨s1, -⟩ := h7.1 1 (by omega)
          obtain ⟨s2, -⟩ := h7.1 2 (by omega)
          obtain ⟨s3, -⟩ := h7.1 3 (by omega)
          obtain ⟨s4, -⟩ := h7.1 4 (by omega)
          obtain ⟨s5, -⟩ := h7.1 5 (by omega)
          obtain ⟨s6, -⟩ := h7.1 6 (by omega)
          simp only at p0 p1 p2 p3
          have h1 := nxt_step hlt hn
          have H1 := Lib.hid h1
          clear hb hc hx hn h1 h7
          obtain ⟨y, hy⟩ : ∃ y, opn ⟨s, e, A1, n1, m1, A2, n2, m2, ls, ld⟩ k = y := ⟨_, rfl⟩
          have HY := Lib.hid hy
          clear hy
          go_wp2_with fail
          refine (isOpen_any ⟨s, e, A1, n1, m1, A2, n2, m2, ls, ld⟩ f k HF.out (by omega) _ hs.out.2.1).mono ?_
          rw [HY.out]
          rintro e' w3 ⟨rfl, hb2⟩
          have hb3 : Below w.heap.size w w3 := hs.out.1.trans (hb2.mono hs.out.1.size)
          have k3 := hs.out.2.2.1.keep hb2
          have h3 := hs.out.2.2.2.1.keep hb2
          have H3 := Lib.hid h3
          have HC := Lib.hid (hs.out.2.1.below hb2)
          have HB := Lib.hid hb3
          clear hb2 hb3 h3
          cases y
          · go_wp2
            go_roundw
            case rel => exact ⟨k + 1, by go_num, by omega, HB.out, HC.out, k3, H3.out, H1.out.2 HY.out⟩
            case measure => simp [intOf]; omega
          · go_wp2
            go_ret2
            exact ⟨ret_ii (H1.out.1 HY.out).symm, HB.out⟩
        · have : k = 2000 := by omega
          subst this
          clear hb hc hx hn h7
          go_wp2
          go_ret2
          exact ⟨ret_ii hs.out.2.2.2.2.symm, hs.out.1⟩
    · have C3 := Lib.hid c3
      by_cases c4 : day < 0
      · clear c3
        go_enter Tryd.func42, Tryd.ntmps42
        go_wp2_with fail
        refine (validate_any ⟨s, e, A1, n1, m1, A2, n2, m2, ls, ld⟩ 0 HX.out _ (HK.out.below (by repeat' (first | (with_reducible exact Below.refl _ _) | (with_reducible assumption) | (with_reducible refine below_drewN ?_ _) | (with_reducible refine below_step (by assumption) ?_ ?_) | (with_reducible refine Below.alloc ?_ ?_ _) | (with_reducible refine Below.setCell ?_ ?_ _) | (with_reducible refine Below.drew ?_) | go_size | (exact Below.size (by assumption)) | (refine Nat.le_trans (Below.size (by assumption)) ?_))))).mono ?_
        rintro e' w1 ⟨rfl, hb1⟩
        have k1 := (Box4.new w ⟨s, e, A1, n1, m1, A2, n2, m2, ls, ld⟩ 41).keep hb1
        obtain ⟨p0, p1, p2, p3, p4⟩ := id k1
        simp only at p0 p1 p2 p3
        have hW : Below w.heap.size w w1 := (by repeat' (first | (with_reducible exact Below.refl _ _) | (with_reducible assumption) | (with_reducible refine below_drewN ?_ _) | (with_reducible refine below_step (by assumption) ?_ ?_) | (with_reducible refine Below.alloc ?_ ?_ _) | (with_reducible refine Below.setCell ?_ ?_ _) | (with_reducible refine Below.drew ?_) | go_size | (exact Below.size (by assumption)) | (refine Nat.le_trans (Below.size (by assumption)) ?_)))
        have HK1 := Lib.hid (HK.out.below hW)
        have HW := Lib.hid hW
        clear hW hb1
        go_wp2
        go_ret2
        exact ⟨ret_ii (HR.out.symm.trans (nxtR_out HX.out C3.out)), HW.out⟩
      · have d1 : decide (day < 0) = false := decide_eq_false (by omega)
        have d2 : 2000 ≤ day := by omega
        clear c3 c4
        go_enter Tryd.func42, Tryd.ntmps42
        go_wp2_with fail
        refine (validate_any ⟨s, e, A1, n1, m1, A2, n2, m2, ls, ld⟩ 0 HX.out _ (HK.out.below (by repeat' (first | (with_reducible exact Below.refl _ _) | (with_reducible assumption) | (with_reducible refine below_drewN ?_ _) | (with_reducible refine below_step (by assumption) ?_ ?_) | (with_reducible refine Below.alloc ?_ ?_ _) | (with_reducible refine Below.setCell ?_ ?_ _) | (with_reducible refine Below.drew ?_) | go_size | (exact Below.size (by assumption)) | (refine Nat.le_trans (Below.size (by assumption)) ?_))))).mono ?_
        rintro e' w1 ⟨rfl, hb1⟩
        have k1 := (Box4.new w ⟨s, e, A1, n1, m1, A2, n2, m2, ls, ld⟩ 41).keep hb1
        obtain ⟨p0, p1, p2, p3, p4⟩ := id k1
        simp only at p0 p1 p2 p3
        have hW : Below w.heap.size w w1 := (by repeat' (first | (with_reducible exact Below.refl _ _) | (with_reducible assumption) | (with_reducible refine below_drewN ?_ _) | (with_reducible refine below_step (by assumption) ?_ ?_) | (with_reducible refine Below.alloc ?_ ?_ _) | (with_reducible refine Below.setCell ?_ ?_ _) | (with_reducible refine Below.drew ?_) | go_size | (exact Below.size (by assumption)) | (refine Nat.le_trans (Below.size (by assumption)) ?_)))
        have HK1 := Lib.hid (HK.out.below hW)
        have HW := Lib.hid hW
        clear hW hb1
        go_wp2
        go_ret2
        exact ⟨ret_ii (HR.out.symm.trans (nxtR_out HX.out C3.out)), HW.out⟩
  · have cx := errne c0
    have C0 := Lib.hid c0
    clear c0
    go_enter Tryd.func42, Tryd.ntmps42
    go_wp2_with fail
    refine (validate_any ⟨s, e, A1, n1, m1, A2, n2, m2, ls, ld⟩ x HX.out _ (HK.out.below (by repeat' (first | (with_reducible exact Below.refl _ _) | (with_reducible assumption) | (with_reducible refine below_drewN ?_ _) | (with_reducible refine below_step (by assumption) ?_ ?_) | (with_reducible refine Below.alloc ?_ ?_ _) | (with_reducible refine Below.setCell ?_ ?_ _) | (with_reducible refine Below.drew ?_) | go_size | (exact Below.size (by assumption)) | (refine Nat.le_trans (Below.size (by assumption)) ?_))))).mono ?_
    rintro e' w1 ⟨rfl, hb1⟩
    have k1 := (Box4.new w ⟨s, e, A1, n1, m1, A2, n2, m2, ls, ld⟩ 41).keep hb1
    obtain ⟨p0, p1, p2, p3, p4⟩ := id k1
    simp only at p0 p1 p2 p3
    have hW : Below w.heap.size w w1 := (by repeat' (first | (with_reducible exact Below.refl _ _) | (with_reducible assumption) | (with_reducible refine below_drewN ?_ _) | (with_reducible refine below_step (by assumption) ?_ ?_) | (with_reducible refine Below.alloc ?_ ?_ _) | (with_reducible refine Below.setCell ?_ ?_ _) | (with_reducible refine Below.drew ?_) | go_size | (exact Below.size (by assumption)) | (refine Nat.le_trans (Below.size (by assumption)) ?_)))
    have HK1 := Lib.hid (HK.out.below hW)
    have HW := Lib.hid hW
    clear hW hb1
    go_wp2
    go_ret2
    exact ⟨ret_ii (HR.out.symm.trans (nxtR_err HX.out C0.out)), HW.out⟩
end Go.Proofs.YtclbjgelefbmlaaDoor
