/-
  NextOpen, THE PROGRAM'S AND THE REFERENCE'S.
-/
import Derived.Test.YtclbjgelefbmlaaDoorCalE
namespace Go.Proofs.YtclbjgelefbmlaaDoor
open Go.RowKit
attribute [local go_sem] grow_cell grow_frozen
/-- The first open day behind 2000 - n days. -/
def nxt (K : Cal) : Nat → Int × Int
  | 0 => (0, 4)
  | n + 1 => if opn K ((2000 - (n + 1) : Nat) : Int) = true then (((2000 - (n + 1) : Nat) : Int), 0) else nxt K n
theorem nxt_step {K : Cal} {d : Nat} {p z : Int} (hd : d < 2000) (h : nxt K (2000 - d) = (p, z)) : (opn K d = true → ((d : Int), (0 : Int)) = (p, z)) ∧ (opn K d = false → nxt K (2000 - (d + 1)) = (p, z)) := by
  have h1 : 2000 - d = (2000 - (d + 1)) + 1 := by omega
  rw [h1, nxt] at h
  have h2 : 2000 - (2000 - (d + 1) + 1) = d := by omega
  rw [h2] at h
  constructor
  · intro ho; rw [if_pos ho] at h; exact h
  · intro ho; rw [if_neg (by rw [ho]; simp)] at h; exact h
noncomputable def nxtR (K : Cal) (day : Int) : Int × Int := if cerr K = 0 then if 0 ≤ day ∧ day ≤ 1999 then nxt K (2000 - day.toNat) else (0, 1) else (0, cerr K)
theorem nxtR_err {K : Cal} {day : Int} {z : Int} (hz : cerr K = z) (h : z ≠ 0) : nxtR K day = (0, z) := by rw [nxtR, hz, if_neg h]
theorem nxtR_out {K : Cal} {day : Int} (hz : cerr K = 0) (h : ¬ (0 ≤ day ∧ day ≤ 1999)) : nxtR K day = (0, 1) := by rw [nxtR, if_pos hz, if_neg h]
theorem nxtR_in {K : Cal} {day : Int} (hz : cerr K = 0) (h : 0 ≤ day ∧ day ≤ 1999) : nxtR K day = nxt K (2000 - day.toNat) := by rw [nxtR, if_pos hz, if_pos h]
set_option maxRecDepth 100000 in
set_option maxHeartbeats 4000000 in
theorem rnextOpen_any (K : Cal) (day : Int) (b z : Int) (hr : nxtR K day = (b, z)) (w : World) (hk : CalIn w K) :
    Calls Tryd.prog 43 #[K.v, .int .i64 day] w fun e w' => e = .returned (.tuple #[.int .i64 b, .int .i64 z]) ∧ Below w.heap.size w w' := by
  have HK := Lib.hid hk
  have HR := Lib.hid hr
  obtain ⟨x, hx⟩ : ∃ x, cerr K = x := ⟨_, rfl⟩
  have HX := Lib.hid hx
  obtain ⟨s, e, A1, n1, m1, A2, n2, m2, ls, ld⟩ := K
  clear hr hk hx
  simp only [Cal.v]
  by_cases c0 : x = 0
  · subst c0
    by_cases c3 : 0 ≤ day ∧ day ≤ 1999
    · obtain ⟨d, rfl⟩ := Int.eq_ofNat_of_zero_le c3.1
      have C3 := Lib.hid c3
      have HN := Lib.hid ((nxtR_in HX.out c3).symm.trans HR.out)
      clear c3
      go_enter Tryd.func43, Tryd.ntmps43
      go_wp2_with fail
      refine (rvalidate_any ⟨s, e, A1, n1, m1, A2, n2, m2, ls, ld⟩ 0 HX.out _ (HK.out.below (by repeat' (first | (with_reducible exact Below.refl _ _) | (with_reducible assumption) | (with_reducible refine below_drewN ?_ _) | (with_reducible refine below_step (by assumption) ?_ ?_) | (with_reducible refine Below.alloc ?_ ?_ _) | (with_reducible refine Below.setCell ?_ ?_ _) | (with_reducible refine Below.drew ?_) | go_size | (exact Below.size (by assumption)) | (refine Nat.le_trans (Below.size (by assumption)) ?_))))).mono ?_
      rintro e' w1 ⟨rfl, hb1⟩
      have k1 := (Box4.new w ⟨s, e, A1, n1, m1, A2, n2, m2, ls, ld⟩ 41).keep hb1
      obtain ⟨p0, p1, p2, p3, p4⟩ := id k1
      simp only at p0 p1 p2 p3
      have hW : Below w.heap.size w w1 := (by repeat' (first | (with_reducible exact Below.refl _ _) | (with_reducible assumption) | (with_reducible refine below_drewN ?_ _) | (with_reducible refine below_step (by assumption) ?_ ?_) | (with_reducible refine Below.alloc ?_ ?_ _) | (with_reducible refine Below.setCell ?_ ?_ _) | (with_reducible refine Below.drew ?_) | go_size | (exact Below.size (by assumption)) | (refine Nat.le_trans (Below.size (by assumption)) ?_)))
      have HK1 := Lib.hid (HK.out.below hW)
      have HW := Lib.hid hW
      clear hW hb1
      go_wp2_with fail
      refine (within_yes _ _ _ C3.out.1 C3.out.2 _).mono ?_
      rintro e' w2 ⟨rfl, rfl⟩
      go_wp2
      go_loopw [1] (fun i wr => ∃ k : Nat, i = .int .i64 k ∧ k ≤ 2000 ∧ Hid (Below w.heap.size w wr ∧ CalIn wr ⟨s, e, A1, n1, m1, A2, n2, m2, ls, ld⟩ ∧ Box4 wr w.heap.size ⟨s, e, A1, n1, m1, A2, n2, m2, ls, ld⟩ ∧ nxt ⟨s, e, A1, n1, m1, A2, n2, m2, ls, ld⟩ (2000 - k) = (b, z))) (fun i _ => 2000 - (intOf i).toNat)
      case atStart => exact ⟨d, rfl, by have := C3.out.2; omega, HW.out, HK1.out, k1, HN.out⟩
      case round =>
        obtain ⟨k, rfl, hk, hs⟩ := hrel
        obtain ⟨hb, hc, hx, hn⟩ := hs.out
        by_cases hlt : k < 2000
        · obtain ⟨p0, p1, p2, p3, p4⟩ := id hx
          simp only at p0 p1 p2 p3
          have h1 := nxt_step hlt hn
          have H1 := Lib.hid h1
          clear hb hc hx hn h1
          obtain ⟨y, hy⟩ : ∃ y, opn ⟨s, e, A1, n1, m1, A2, n2, m2, ls, ld⟩ k = y := ⟨_, rfl⟩
          have HY := Lib.hid hy
          clear hy
          go_wp2_with fail
          refine (ropen_any ⟨s, e, A1, n1, m1, A2, n2, m2, ls, ld⟩ k (by omega) _ hs.out.2.1).mono ?_
          rw [HY.out]
          rintro e' w2 ⟨rfl, hb2⟩
          have hb3 : Below w.heap.size w w2 := hs.out.1.trans (hb2.mono hs.out.1.size)
          have k2 := hs.out.2.2.1.keep hb2
          have HC := Lib.hid (hs.out.2.1.below hb2)
          have HB := Lib.hid hb3
          clear hb2 hb3
          cases y
          · go_wp2
            go_roundw
            case rel => exact ⟨k + 1, by go_num, by omega, HB.out, HC.out, k2, H1.out.2 HY.out⟩
            case measure => simp [intOf]; omega
          · go_wp2
            go_ret2
            exact ⟨ret_ii (H1.out.1 HY.out).symm, HB.out⟩
        · have : k = 2000 := by omega
          subst this
          clear hb hc hx hn
          go_wp2
          go_ret2
          exact ⟨ret_ii hs.out.2.2.2.symm, hs.out.1⟩
    · have C3 := Lib.hid c3
      clear c3
      go_enter Tryd.func43, Tryd.ntmps43
      go_wp2_with fail
      refine (rvalidate_any ⟨s, e, A1, n1, m1, A2, n2, m2, ls, ld⟩ 0 HX.out _ (HK.out.below (by repeat' (first | (with_reducible exact Below.refl _ _) | (with_reducible assumption) | (with_reducible refine below_drewN ?_ _) | (with_reducible refine below_step (by assumption) ?_ ?_) | (with_reducible refine Below.alloc ?_ ?_ _) | (with_reducible refine Below.setCell ?_ ?_ _) | (with_reducible refine Below.drew ?_) | go_size | (exact Below.size (by assumption)) | (refine Nat.le_trans (Below.size (by assumption)) ?_))))).mono ?_
      rintro e' w1 ⟨rfl, hb1⟩
      have k1 := (Box4.new w ⟨s, e, A1, n1, m1, A2, n2, m2, ls, ld⟩ 41).keep hb1
      obtain ⟨p0, p1, p2, p3, p4⟩ := id k1
      simp only at p0 p1 p2 p3
      have hW : Below w.heap.size w w1 := (by repeat' (first | (with_reducible exact Below.refl _ _) | (with_reducible assumption) | (with_reducible refine below_drewN ?_ _) | (with_reducible refine below_step (by assumption) ?_ ?_) | (with_reducible refine Below.alloc ?_ ?_ _) | (with_reducible refine Below.setCell ?_ ?_ _) | (with_reducible refine Below.drew ?_) | go_size | (exact Below.size (by assumption)) | (refine Nat.le_trans (Below.size (by assumption)) ?_)))
      have HK1 := Lib.hid (HK.out.below hW)
      have HW := Lib.hid hW
      clear hW hb1
      go_wp2_with fail
      refine (within_no _ _ _ C3.out _).mono ?_
      rintro e' w2 ⟨rfl, rfl⟩
      go_wp2
      go_ret2
      exact ⟨ret_ii (HR.out.symm.trans (nxtR_out HX.out C3.out)), HW.out⟩
  · have cx := errne c0
    have C0 := Lib.hid c0
    clear c0
    go_enter Tryd.func43, Tryd.ntmps43
    go_wp2_with fail
    refine (rvalidate_any ⟨s, e, A1, n1, m1, A2, n2, m2, ls, ld⟩ x HX.out _ (HK.out.below (by repeat' (first | (with_reducible exact Below.refl _ _) | (with_reducible assumption) | (with_reducible refine below_drewN ?_ _) | (with_reducible refine below_step (by assumption) ?_ ?_) | (with_reducible refine Below.alloc ?_ ?_ _) | (with_reducible refine Below.setCell ?_ ?_ _) | (with_reducible refine Below.drew ?_) | go_size | (exact Below.size (by assumption)) | (refine Nat.le_trans (Below.size (by assumption)) ?_))))).mono ?_
    rintro e' w1 ⟨rfl, hb1⟩
    have k1 := (Box4.new w ⟨s, e, A1, n1, m1, A2, n2, m2, ls, ld⟩ 41).keep hb1
    obtain ⟨p0, p1, p2, p3, p4⟩ := id k1
    simp only at p0 p1 p2 p3
    have hW : Below w.heap.size w w1 := (by repeat' (first | (with_reducible exact Below.refl _ _) | (with_reducible assumption) | (with_reducible refine below_drewN ?_ _) | (with_reducible refine below_step (by assumption) ?_ ?_) | (with_reducible refine Below.alloc ?_ ?_ _) | (with_reducible refine Below.setCell ?_ ?_ _) | (with_reducible refine Below.drew ?_) | go_size | (exact Below.size (by assumption)) | (refine Nat.le_trans (Below.size (by assumption)) ?_)))
    have HK1 := Lib.hid (HK.out.below hW)
    have HW := Lib.hid hW
    clear hW hb1
    go_wp2
    go_ret2
    exact ⟨ret_ii (HR.out.symm.trans (nxtR_err HX.out C0.out)), HW.out⟩
end Go.Proofs.YtclbjgelefbmlaaDoor
