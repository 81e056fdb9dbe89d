/-
  THE WALK OF THE LAW NumRounds: it returns true.
-/
import Derived.Test.YtclbjgelefbmlaaDoorNumG
import Derived.Test.YtclbjgelefbmlaaDoorNumN
import Derived.Test.YtclbjgelefbmlaaDoorKnown
import Derived.Test.YtclbjgelefbmlaaDoorReg
namespace Go.Proofs.YtclbjgelefbmlaaDoor
open Go.RowKit
attribute [local go_sem] grow_cell grow_frozen

theorem rnd_near (n d : Int) : rndI n d = n / d ∨ rndI n d = n / d + 1 := by
  unfold rndI
  split
  · exact .inr rfl
  · split
    · exact .inr rfl
    · exact .inl rfl
set_option maxRecDepth 100000 in
set_option maxHeartbeats 8000000 in
theorem numRounds_walk (a1 a2 : Int) (ha1 : -9223372036854775808 ≤ a1) (ka1 : a1 ≤ 9223372036854775807) (ha2 : -9223372036854775808 ≤ a2) (ka2 : a2 ≤ 9223372036854775807) (w : World) :
    Calls Tryd.prog 7 #[.agg #[.int .i64 a1, .int .i64 a2]] w fun e w' => e = .returned (.bool true) ∧ Below w.heap.size w w' := by
  obtain ⟨n, e, hn⟩ : ∃ n e, (if vld a1 a2 = true then (a1 / a2, (0 : Int)) else (0, 1)) = (n, e) := ⟨_, _, rfl⟩
  obtain ⟨x, g, hx⟩ : ∃ n e, (if vld a1 a2 = true then (rndI a1 a2, (0 : Int)) else (0, 1)) = (n, e) := ⟨_, _, rfl⟩
  have hb : (-1099511627776 ≤ n ∧ n ≤ 1099511627776) ∧ (x = n ∨ x = n + 1) := by
    split at hn
    · rename_i hv
      rw [if_pos hv] at hx
      simp only [Prod.mk.injEq] at hn hx
      have bv := vld_bd hv
      have fb := fl_bd (n := a1) (d := a2) (by omega) (by omega) (by omega)
      have := rnd_near a1 a2
      omega
    · rename_i hv
      rw [if_neg hv] at hx
      simp only [Prod.mk.injEq] at hn hx
      omega
  obtain ⟨hb1, hb2⟩ := hb
  have HN := Lib.hid hn
  have HX := Lib.hid hx
  clear hn hx
  rcases hb2 with rfl | rfl
  · go_enter Tryd.func7, Tryd.ntmps7
    go_wp2_with fail
    refine (Floor_any a1 a2 x e HN.out (by omega) (by omega) (by omega) (by omega) _).mono ?_
    rintro e1 w1 ⟨rfl, hb1⟩
    (have x1x0 : Box2 w1 (w.heap.size) (.int .i64 a1) (.int .i64 a2) := Box2.keep (by assumption) (by repeat' (first | (with_reducible assumption) | (with_reducible refine Box2.drewN ?_ _) | (with_reducible refine Box2.drew ?_) | (with_reducible exact Box2.new _ _ _ _) | (with_reducible exact Box2.new1 _ _ _ _ _) | (with_reducible exact Box2.new2 _ _ _ _ _ _) | (with_reducible refine Box2.alloc ?_ _))); obtain ⟨c0x1x0, c1x1x0, f0x1x0, f1x1x0, zx1x0⟩ := id x1x0)
    go_wp2_with fail
    refine (rFloor_any a1 a2 x e HN.out (by omega) (by omega) (by omega) (by omega) _).mono ?_
    rintro e1 w2 ⟨rfl, hb2⟩
    (have x2x0 : Box2 w2 (w.heap.size) (.int .i64 a1) (.int .i64 a2) := Box2.keep (by assumption) (by repeat' (first | (with_reducible assumption) | (with_reducible refine Box2.drewN ?_ _) | (with_reducible refine Box2.drew ?_) | (with_reducible exact Box2.new _ _ _ _) | (with_reducible exact Box2.new1 _ _ _ _ _) | (with_reducible exact Box2.new2 _ _ _ _ _ _) | (with_reducible refine Box2.alloc ?_ _))); obtain ⟨c0x2x0, c1x2x0, f0x2x0, f1x2x0, zx2x0⟩ := id x2x0)
    clear x1x0 c0x1x0 c1x1x0 f0x1x0 f1x1x0
    go_wp2_with fail
    refine (round_any a1 a2 x g HX.out (by omega) (by omega) (by omega) (by omega) _).mono ?_
    rintro e1 w3 ⟨rfl, hb3⟩
    (have x3x0 : Box2 w3 (w.heap.size) (.int .i64 a1) (.int .i64 a2) := Box2.keep (by assumption) (by repeat' (first | (with_reducible assumption) | (with_reducible refine Box2.drewN ?_ _) | (with_reducible refine Box2.drew ?_) | (with_reducible exact Box2.new _ _ _ _) | (with_reducible exact Box2.new1 _ _ _ _ _) | (with_reducible exact Box2.new2 _ _ _ _ _ _) | (with_reducible refine Box2.alloc ?_ _))); obtain ⟨c0x3x0, c1x3x0, f0x3x0, f1x3x0, zx3x0⟩ := id x3x0)
    clear x2x0 c0x2x0 c1x2x0 f0x2x0 f1x2x0
    go_wp2_with fail
    refine (rround_any a1 a2 x g HX.out (by omega) (by omega) (by omega) (by omega) _).mono ?_
    rintro e1 w4 ⟨rfl, hb4⟩
    (have x4x0 : Box2 w4 (w.heap.size) (.int .i64 a1) (.int .i64 a2) := Box2.keep (by assumption) (by repeat' (first | (with_reducible assumption) | (with_reducible refine Box2.drewN ?_ _) | (with_reducible refine Box2.drew ?_) | (with_reducible exact Box2.new _ _ _ _) | (with_reducible exact Box2.new1 _ _ _ _ _) | (with_reducible exact Box2.new2 _ _ _ _ _ _) | (with_reducible refine Box2.alloc ?_ _))); obtain ⟨c0x4x0, c1x4x0, f0x4x0, f1x4x0, zx4x0⟩ := id x4x0)
    clear x3x0 c0x3x0 c1x3x0 f0x3x0 f1x3x0
    go_wp2_with (go_at_call 20; refine (known_any _).mono ?_; rintro e' w5 ⟨rfl, hb5⟩)
    go_ret
    exact ⟨rfl, (by repeat' (first | (with_reducible exact Below.refl _ _) | (with_reducible assumption) | (with_reducible refine below_drewN ?_ _) | (with_reducible refine below_step (by assumption) ?_ ?_) | (with_reducible refine Below.alloc ?_ ?_ _) | (with_reducible refine Below.setCell ?_ ?_ _) | (with_reducible refine Below.drew ?_) | go_size | (exact Below.size (by assumption)) | (refine Nat.le_trans (Below.size (by assumption)) ?_)))⟩
  · have hne : (n + 1 == n) = false := by rw [beq_eq_false_iff_ne]; omega
    go_enter Tryd.func7, Tryd.ntmps7
    go_wp2_with fail
    refine (Floor_any a1 a2 n e HN.out (by omega) (by omega) (by omega) (by omega) _).mono ?_
    rintro e1 w1 ⟨rfl, hb1⟩
    (have x1x0 : Box2 w1 (w.heap.size) (.int .i64 a1) (.int .i64 a2) := Box2.keep (by assumption) (by repeat' (first | (with_reducible assumption) | (with_reducible refine Box2.drewN ?_ _) | (with_reducible refine Box2.drew ?_) | (with_reducible exact Box2.new _ _ _ _) | (with_reducible exact Box2.new1 _ _ _ _ _) | (with_reducible exact Box2.new2 _ _ _ _ _ _) | (with_reducible refine Box2.alloc ?_ _))); obtain ⟨c0x1x0, c1x1x0, f0x1x0, f1x1x0, zx1x0⟩ := id x1x0)
    go_wp2_with fail
    refine (rFloor_any a1 a2 n e HN.out (by omega) (by omega) (by omega) (by omega) _).mono ?_
    rintro e1 w2 ⟨rfl, hb2⟩
    (have x2x0 : Box2 w2 (w.heap.size) (.int .i64 a1) (.int .i64 a2) := Box2.keep (by assumption) (by repeat' (first | (with_reducible assumption) | (with_reducible refine Box2.drewN ?_ _) | (with_reducible refine Box2.drew ?_) | (with_reducible exact Box2.new _ _ _ _) | (with_reducible exact Box2.new1 _ _ _ _ _) | (with_reducible exact Box2.new2 _ _ _ _ _ _) | (with_reducible refine Box2.alloc ?_ _))); obtain ⟨c0x2x0, c1x2x0, f0x2x0, f1x2x0, zx2x0⟩ := id x2x0)
    clear x1x0 c0x1x0 c1x1x0 f0x1x0 f1x1x0
    go_wp2_with fail
    refine (round_any a1 a2 (n + 1) g HX.out (by omega) (by omega) (by omega) (by omega) _).mono ?_
    rintro e1 w3 ⟨rfl, hb3⟩
    (have x3x0 : Box2 w3 (w.heap.size) (.int .i64 a1) (.int .i64 a2) := Box2.keep (by assumption) (by repeat' (first | (with_reducible assumption) | (with_reducible refine Box2.drewN ?_ _) | (with_reducible refine Box2.drew ?_) | (with_reducible exact Box2.new _ _ _ _) | (with_reducible exact Box2.new1 _ _ _ _ _) | (with_reducible exact Box2.new2 _ _ _ _ _ _) | (with_reducible refine Box2.alloc ?_ _))); obtain ⟨c0x3x0, c1x3x0, f0x3x0, f1x3x0, zx3x0⟩ := id x3x0)
    clear x2x0 c0x2x0 c1x2x0 f0x2x0 f1x2x0
    go_wp2_with fail
    refine (rround_any a1 a2 (n + 1) g HX.out (by omega) (by omega) (by omega) (by omega) _).mono ?_
    rintro e1 w4 ⟨rfl, hb4⟩
    (have x4x0 : Box2 w4 (w.heap.size) (.int .i64 a1) (.int .i64 a2) := Box2.keep (by assumption) (by repeat' (first | (with_reducible assumption) | (with_reducible refine Box2.drewN ?_ _) | (with_reducible refine Box2.drew ?_) | (with_reducible exact Box2.new _ _ _ _) | (with_reducible exact Box2.new1 _ _ _ _ _) | (with_reducible exact Box2.new2 _ _ _ _ _ _) | (with_reducible refine Box2.alloc ?_ _))); obtain ⟨c0x4x0, c1x4x0, f0x4x0, f1x4x0, zx4x0⟩ := id x4x0)
    clear x3x0 c0x3x0 c1x3x0 f0x3x0 f1x3x0
    go_wp2_with (go_at_call 20; refine (known_any _).mono ?_; rintro e' w5 ⟨rfl, hb5⟩)
    go_ret
    exact ⟨rfl, (by repeat' (first | (with_reducible exact Below.refl _ _) | (with_reducible assumption) | (with_reducible refine below_drewN ?_ _) | (with_reducible refine below_step (by assumption) ?_ ?_) | (with_reducible refine Below.alloc ?_ ?_ _) | (with_reducible refine Below.setCell ?_ ?_ _) | (with_reducible refine Below.drew ?_) | go_size | (exact Below.size (by assumption)) | (refine Nat.le_trans (Below.size (by assumption)) ?_)))⟩
end Go.Proofs.YtclbjgelefbmlaaDoor
