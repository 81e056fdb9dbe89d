/-
  THE WALK OF THE LAW NumAfter: it returns true.
-/
import Derived.Test.YtclbjgelefbmlaaDoorCalL
import Derived.Test.YtclbjgelefbmlaaDoorCalN
import Derived.Test.YtclbjgelefbmlaaDoorKnown
namespace Go.Proofs.YtclbjgelefbmlaaDoor
open Go.RowKit
attribute [local go_sem] grow_cell grow_frozen
set_option maxRecDepth 100000 in
set_option maxHeartbeats 8000000 in
theorem numAfter_walk (K : Cal) (a b : Int) (g1 : -9223372036854775808 ≤ b) (g2 : b ≤ 9223372036854775807) (w : World) (hk : CalPre w K) :
    Calls Tryd.prog 13 #[K.v, .int .i64 a, .int .i64 b] w fun e w' => e = .returned (.bool true) ∧ Below w.heap.size w w' := by
  obtain ⟨x, z, hi⟩ : ∃ x z, aftR K a b = (x, z) := ⟨_, _, rfl⟩
  have HI := Lib.hid hi
  have HP := Lib.hid hk
  obtain ⟨s, e, A1, n1, m1, A2, n2, m2, ls, ld⟩ := K
  simp only [Cal.v]
  clear hi hk
  by_cases c0 : 100 < n1 ∨ 200 < n2
  · have cc : (decide (100 < n1) || decide (200 < n2)) = true := by simpa using c0
    have CC := Lib.hid cc
    clear c0 cc
    go_enter Tryd.func13, Tryd.ntmps13
    go_wp2_with fail
    refine (many_any ⟨s, e, A1, n1, m1, A2, n2, m2, ls, ld⟩ _).mono ?_
    rw [CC.out]
    rintro e' w1 ⟨rfl, hb1⟩
    have hW1 : Below w.heap.size w w1 := (by repeat' (first | (with_reducible exact Below.refl _ _) | (with_reducible assumption) | (with_reducible refine below_drewN ?_ _) | (with_reducible refine below_step (by assumption) ?_ ?_) | (with_reducible refine Below.alloc ?_ ?_ _) | (with_reducible refine Below.setCell ?_ ?_ _) | (with_reducible refine Below.drew ?_) | go_size | (exact Below.size (by assumption)) | (refine Nat.le_trans (Below.size (by assumption)) ?_)))
    go_wp2_with (go_at_call 20; refine (known_any _).mono ?_; rintro e' w5 ⟨rfl, hb5⟩)
    go_ret
    exact ⟨rfl, hW1.trans (hb5.mono hW1.size)⟩
  · have cc : (decide (100 < n1) || decide (200 < n2)) = false := by simp; omega
    have HK := Lib.hid (HP.out.ok (by simp only; omega))
    have CC := Lib.hid cc
    clear c0 cc
    have hx : (x == x) = true := by simp
    have hz : (z == z) = true := by simp
    go_enter Tryd.func13, Tryd.ntmps13
    go_wp2_with fail
    refine (many_any ⟨s, e, A1, n1, m1, A2, n2, m2, ls, ld⟩ _).mono ?_
    rw [CC.out]
    rintro e' w1 ⟨rfl, hb1⟩
    have k1 := (Box4.new w ⟨s, e, A1, n1, m1, A2, n2, m2, ls, ld⟩ 41).keep hb1
    obtain ⟨p0, p1, p2, p3, p4⟩ := id k1
    simp only at p0 p1 p2 p3
    have hW1 : Below w.heap.size w w1 := (by repeat' (first | (with_reducible exact Below.refl _ _) | (with_reducible assumption) | (with_reducible refine below_drewN ?_ _) | (with_reducible refine below_step (by assumption) ?_ ?_) | (with_reducible refine Below.alloc ?_ ?_ _) | (with_reducible refine Below.setCell ?_ ?_ _) | (with_reducible refine Below.drew ?_) | go_size | (exact Below.size (by assumption)) | (refine Nat.le_trans (Below.size (by assumption)) ?_)))
    have HK1 := Lib.hid (HK.out.below hW1)
    have HW1 := Lib.hid hW1
    clear hW1 hb1
    go_wp2_with fail
    refine (after_any ⟨s, e, A1, n1, m1, A2, n2, m2, ls, ld⟩ a b x z HI.out g1 g2 _ HK1.out).mono ?_
    rintro e' w2 ⟨rfl, hb2⟩
    have k2 := k1.keep hb2
    have HK2 := Lib.hid (HK1.out.below hb2)
    have hW2 : Below w.heap.size w w2 := HW1.out.trans (hb2.mono HW1.out.size)
    have HW2 := Lib.hid hW2
    clear k1 p0 p1 p2 p3 p4 hW2 hb2
    obtain ⟨p0, p1, p2, p3, p4⟩ := id k2
    simp only at p0 p1 p2 p3
    go_wp2_with fail
    refine (rafter_any ⟨s, e, A1, n1, m1, A2, n2, m2, ls, ld⟩ a b x z HI.out g1 g2 _ HK2.out).mono ?_
    rintro e' w3 ⟨rfl, hb3⟩
    have k3 := k2.keep hb3
    have HK3 := Lib.hid (HK2.out.below hb3)
    have hW3 : Below w.heap.size w w3 := HW2.out.trans (hb3.mono HW2.out.size)
    have HW3 := Lib.hid hW3
    clear k2 p0 p1 p2 p3 p4 hW3 hb3
    obtain ⟨p0, p1, p2, p3, p4⟩ := id k3
    simp only at p0 p1 p2 p3
    go_wp2_with (go_at_call 20; refine (known_any _).mono ?_; rintro e' w5 ⟨rfl, hb5⟩)
    go_ret
    exact ⟨rfl, HW3.out.trans (hb5.mono HW3.out.size)⟩
end Go.Proofs.YtclbjgelefbmlaaDoor
