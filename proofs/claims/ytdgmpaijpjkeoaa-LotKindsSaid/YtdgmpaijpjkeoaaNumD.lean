/-
  THE WALKS OF Add AND Sub, THE PROGRAM'S AND THE REFERENCE'S.
-/
import Derived.Test.YtdgmpaijpjkeoaaNumC
namespace Go.Proofs.Ytdgmpaijpjkeoaa
open Go.RowKit
theorem addM_cases (a1 a2 b1 b2 : Int) : vld a1 a2 = true → vld b1 b2 = true → addM a1 a2 b1 b2 = mk (a1 * b2 + b1 * a2) (a2 * b2) := fun h k => if_pos ⟨h, k⟩
theorem subM_cases (a1 a2 b1 b2 : Int) : vld a1 a2 = true → vld b1 b2 = true → subM a1 a2 b1 b2 = mk (a1 * b2 - b1 * a2) (a2 * b2) := fun h k => if_pos ⟨h, k⟩

set_option maxHeartbeats 2000000 in
theorem add_any (a1 a2 b1 b2 p q z : Int) (hm : addM a1 a2 b1 b2 = (p, q, z)) (h1 : -9223372036854775808 ≤ a1) (h2 : a1 ≤ 9223372036854775807) (h3 : -9223372036854775808 ≤ a2) (h4 : a2 ≤ 9223372036854775807)
    (h5 : -9223372036854775808 ≤ b1) (h6 : b1 ≤ 9223372036854775807) (h7 : -9223372036854775808 ≤ b2) (h8 : b2 ≤ 9223372036854775807) (w : World) :
    Calls Try.prog 24 #[.agg #[.int .i64 a1, .int .i64 a2], .agg #[.int .i64 b1, .int .i64 b2]] w fun e w' => e = .returned (.tuple #[.agg #[.int .i64 p, .int .i64 q], .int .i64 z]) ∧ Below w.heap.size w w' := by
  cases va : vld a1 a2
  · unfold addM at hm
    rw [if_neg (by simp [va])] at hm
    have HM := Lib.hid hm
    have VA := Lib.hid va
    clear hm va
    go_enter Try.func24, Try.ntmps24
    go_wp2_with ((go_at_call 70; refine (valid_any _ _ (by omega) (by omega) (by omega) (by omega) _).mono ?_; rw [VA.out]; rintro e w1 ⟨rfl, hb1⟩; (have x1 : Box2 w1 (w.heap.size + 1 + 1) (.int .i64 0) (.int .i64 0) := Box2.keep (by assumption) (by repeat' (first | (with_reducible assumption) | (with_reducible refine Box2.drewN ?_ _) | (with_reducible refine Box2.drew ?_) | (with_reducible exact Box2.new _ _ _ _) | (with_reducible exact Box2.new1 _ _ _ _ _) | (with_reducible exact Box2.new2 _ _ _ _ _ _) | (with_reducible refine Box2.alloc ?_ _))); obtain ⟨c0x1, c1x1, f0x1, f1x1, zx1⟩ := id x1)))
    refine bodyPost_ret (v := .tuple #[.agg #[.int .i64 (0), .int .i64 (0)], .int .i64 (1)]) (by simp only [results, Try.results24]; go_simp) rfl ⟨?_, ?_⟩
    · exact ret_rat HM.out
    · exact (by repeat' (first | (with_reducible exact Below.refl _ _) | (with_reducible assumption) | (with_reducible refine below_drewN ?_ _) | (with_reducible refine below_step (by assumption) ?_ ?_) | (with_reducible refine Below.alloc ?_ ?_ _) | (with_reducible refine Below.setCell ?_ ?_ _) | (with_reducible refine Below.drew ?_) | go_size | (exact Below.size (by assumption)) | (refine Nat.le_trans (Below.size (by assumption)) ?_)))
  · cases vb : vld b1 b2
    · unfold addM at hm
      rw [if_neg (by simp [vb])] at hm
      have HM := Lib.hid hm
      have VA := Lib.hid va
      have VB := Lib.hid vb
      clear hm va vb
      go_enter Try.func24, Try.ntmps24
      go_wp2_with fail
      refine (valid_any _ _ (by omega) (by omega) (by omega) (by omega) _).mono ?_
      rw [VA.out]
      rintro e w1 ⟨rfl, hb1⟩
      (have xb : Box2 w1 (w.heap.size + 1) (.int .i64 b1) (.int .i64 b2) := Box2.keep (by assumption) (by repeat' (first | (with_reducible assumption) | (with_reducible refine Box2.drewN ?_ _) | (with_reducible refine Box2.drew ?_) | (with_reducible exact Box2.new _ _ _ _) | (with_reducible exact Box2.new1 _ _ _ _ _) | (with_reducible exact Box2.new2 _ _ _ _ _ _) | (with_reducible refine Box2.alloc ?_ _))); obtain ⟨c0xb, c1xb, f0xb, f1xb, zxb⟩ := id xb)
      (have x1 : Box2 w1 (w.heap.size + 1 + 1) (.int .i64 0) (.int .i64 0) := Box2.keep (by assumption) (by repeat' (first | (with_reducible assumption) | (with_reducible refine Box2.drewN ?_ _) | (with_reducible refine Box2.drew ?_) | (with_reducible exact Box2.new _ _ _ _) | (with_reducible exact Box2.new1 _ _ _ _ _) | (with_reducible exact Box2.new2 _ _ _ _ _ _) | (with_reducible refine Box2.alloc ?_ _))); obtain ⟨c0x1, c1x1, f0x1, f1x1, zx1⟩ := id x1)
      go_wp2_with fail
      refine (valid_any _ _ (by omega) (by omega) (by omega) (by omega) _).mono ?_
      rw [VB.out]
      rintro e w2 ⟨rfl, hb2⟩
      (have x2 : Box2 w2 (w.heap.size + 1 + 1) (.int .i64 0) (.int .i64 0) := Box2.keep (by assumption) (by repeat' (first | (with_reducible assumption) | (with_reducible refine Box2.drewN ?_ _) | (with_reducible refine Box2.drew ?_) | (with_reducible exact Box2.new _ _ _ _) | (with_reducible exact Box2.new1 _ _ _ _ _) | (with_reducible exact Box2.new2 _ _ _ _ _ _) | (with_reducible refine Box2.alloc ?_ _))); obtain ⟨c0x2, c1x2, f0x2, f1x2, zx2⟩ := id x2)
      go_wp2
      refine bodyPost_ret (v := .tuple #[.agg #[.int .i64 (0), .int .i64 (0)], .int .i64 (1)]) (by simp only [results, Try.results24]; go_simp) rfl ⟨?_, ?_⟩
      · exact ret_rat HM.out
      · exact (by repeat' (first | (with_reducible exact Below.refl _ _) | (with_reducible assumption) | (with_reducible refine below_drewN ?_ _) | (with_reducible refine below_step (by assumption) ?_ ?_) | (with_reducible refine Below.alloc ?_ ?_ _) | (with_reducible refine Below.setCell ?_ ?_ _) | (with_reducible refine Below.drew ?_) | go_size | (exact Below.size (by assumption)) | (refine Nat.le_trans (Below.size (by assumption)) ?_)))
    · rw [addM_cases _ _ _ _ va vb] at hm
      have ba := vld_bd va
      have bb := vld_bd vb
      have m1 := mul_bd (x := a1) (y := b2) (by omega) (by omega) (by omega) (by omega)
      have m2 := mul_bd (x := b1) (y := a2) (by omega) (by omega) (by omega) (by omega)
      have m4 := mul_bd (x := -b1) (y := a2) (by omega) (by omega) (by omega) (by omega)
      have m3 := mul_bd (x := a2) (y := b2) (by omega) (by omega) (by omega) (by omega)
      have HM := Lib.hid hm
      have VA := Lib.hid va
      have VB := Lib.hid vb
      clear hm va vb
      go_enter Try.func24, Try.ntmps24
      go_wp2_with fail
      refine (valid_any _ _ (by omega) (by omega) (by omega) (by omega) _).mono ?_
      rw [VA.out]
      rintro e w1 ⟨rfl, hb1⟩
      (have xa : Box2 w1 w.heap.size (.int .i64 a1) (.int .i64 a2) := Box2.keep (by assumption) (by repeat' (first | (with_reducible assumption) | (with_reducible refine Box2.drewN ?_ _) | (with_reducible refine Box2.drew ?_) | (with_reducible exact Box2.new _ _ _ _) | (with_reducible exact Box2.new1 _ _ _ _ _) | (with_reducible exact Box2.new2 _ _ _ _ _ _) | (with_reducible refine Box2.alloc ?_ _))); obtain ⟨c0xa, c1xa, f0xa, f1xa, zxa⟩ := id xa)
      (have xb : Box2 w1 (w.heap.size + 1) (.int .i64 b1) (.int .i64 b2) := Box2.keep (by assumption) (by repeat' (first | (with_reducible assumption) | (with_reducible refine Box2.drewN ?_ _) | (with_reducible refine Box2.drew ?_) | (with_reducible exact Box2.new _ _ _ _) | (with_reducible exact Box2.new1 _ _ _ _ _) | (with_reducible exact Box2.new2 _ _ _ _ _ _) | (with_reducible refine Box2.alloc ?_ _))); obtain ⟨c0xb, c1xb, f0xb, f1xb, zxb⟩ := id xb)
      (have x1 : Box2 w1 (w.heap.size + 1 + 1) (.int .i64 0) (.int .i64 0) := Box2.keep (by assumption) (by repeat' (first | (with_reducible assumption) | (with_reducible refine Box2.drewN ?_ _) | (with_reducible refine Box2.drew ?_) | (with_reducible exact Box2.new _ _ _ _) | (with_reducible exact Box2.new1 _ _ _ _ _) | (with_reducible exact Box2.new2 _ _ _ _ _ _) | (with_reducible refine Box2.alloc ?_ _))); obtain ⟨c0x1, c1x1, f0x1, f1x1, zx1⟩ := id x1)
      go_wp2_with fail
      refine (valid_any _ _ (by omega) (by omega) (by omega) (by omega) _).mono ?_
      rw [VB.out]
      rintro e w2 ⟨rfl, hb2⟩
      (have ya : Box2 w2 w.heap.size (.int .i64 a1) (.int .i64 a2) := Box2.keep (by assumption) (by repeat' (first | (with_reducible assumption) | (with_reducible refine Box2.drewN ?_ _) | (with_reducible refine Box2.drew ?_) | (with_reducible exact Box2.new _ _ _ _) | (with_reducible exact Box2.new1 _ _ _ _ _) | (with_reducible exact Box2.new2 _ _ _ _ _ _) | (with_reducible refine Box2.alloc ?_ _))); obtain ⟨c0ya, c1ya, f0ya, f1ya, zya⟩ := id ya)
      (have yb : Box2 w2 (w.heap.size + 1) (.int .i64 b1) (.int .i64 b2) := Box2.keep (by assumption) (by repeat' (first | (with_reducible assumption) | (with_reducible refine Box2.drewN ?_ _) | (with_reducible refine Box2.drew ?_) | (with_reducible exact Box2.new _ _ _ _) | (with_reducible exact Box2.new1 _ _ _ _ _) | (with_reducible exact Box2.new2 _ _ _ _ _ _) | (with_reducible refine Box2.alloc ?_ _))); obtain ⟨c0yb, c1yb, f0yb, f1yb, zyb⟩ := id yb)
      (have x2 : Box2 w2 (w.heap.size + 1 + 1) (.int .i64 0) (.int .i64 0) := Box2.keep (by assumption) (by repeat' (first | (with_reducible assumption) | (with_reducible refine Box2.drewN ?_ _) | (with_reducible refine Box2.drew ?_) | (with_reducible exact Box2.new _ _ _ _) | (with_reducible exact Box2.new1 _ _ _ _ _) | (with_reducible exact Box2.new2 _ _ _ _ _ _) | (with_reducible refine Box2.alloc ?_ _))); obtain ⟨c0x2, c1x2, f0x2, f1x2, zx2⟩ := id x2)
      go_wp2_with fail
      refine (make_any _ _ p q z HM.out (by omega) (by omega) (by omega) (by omega) _).mono ?_
      rintro e w3 ⟨rfl, hb3⟩
      (have x3 : Box2 w3 (w.heap.size + 1 + 1) (.int .i64 0) (.int .i64 0) := Box2.keep (by assumption) (by repeat' (first | (with_reducible assumption) | (with_reducible refine Box2.drewN ?_ _) | (with_reducible refine Box2.drew ?_) | (with_reducible exact Box2.new _ _ _ _) | (with_reducible exact Box2.new1 _ _ _ _ _) | (with_reducible exact Box2.new2 _ _ _ _ _ _) | (with_reducible refine Box2.alloc ?_ _))); obtain ⟨c0x3, c1x3, f0x3, f1x3, zx3⟩ := id x3)
      go_wp2
      refine bodyPost_ret (v := .tuple #[.agg #[.int .i64 (p), .int .i64 (q)], .int .i64 (z)]) (by simp only [results, Try.results24]; go_simp) rfl ⟨?_, ?_⟩
      · rfl
      · exact (by repeat' (first | (with_reducible exact Below.refl _ _) | (with_reducible assumption) | (with_reducible refine below_drewN ?_ _) | (with_reducible refine below_step (by assumption) ?_ ?_) | (with_reducible refine Below.alloc ?_ ?_ _) | (with_reducible refine Below.setCell ?_ ?_ _) | (with_reducible refine Below.drew ?_) | go_size | (exact Below.size (by assumption)) | (refine Nat.le_trans (Below.size (by assumption)) ?_)))

end Go.Proofs.Ytdgmpaijpjkeoaa
