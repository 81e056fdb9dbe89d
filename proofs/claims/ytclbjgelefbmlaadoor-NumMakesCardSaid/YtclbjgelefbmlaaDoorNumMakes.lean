/-
  THE WALK OF THE LAW NumMakes: it returns true.
-/
import Derived.Test.YtclbjgelefbmlaaDoorNumC
import Derived.Test.YtclbjgelefbmlaaDoorKnown
import Derived.Test.YtclbjgelefbmlaaDoorReg
namespace Go.Proofs.YtclbjgelefbmlaaDoor
open Go.RowKit
attribute [local go_sem] grow_cell grow_frozen
theorem valid_true (p q : Int) (h : vld p q = true) (w : World) :
    Calls Tryd.prog 18 #[.agg #[.int .i64 p, .int .i64 q]] w fun e w' => e = .returned (.bool true) ∧ Below w.heap.size w w' := by
  have hb := vld_bd h
  have := valid_any p q (by omega) (by omega) (by omega) (by omega) w
  rw [h] at this
  exact this
set_option maxRecDepth 100000 in
set_option maxHeartbeats 4000000 in
theorem numMakes_walk (n d a b : Int) (hn : -9223372036854775808 ≤ n) (kn : n ≤ 9223372036854775807) (hd : -9223372036854775808 ≤ d) (kd : d ≤ 9223372036854775807) (ha : -9223372036854775808 ≤ a) (ka : a ≤ 9223372036854775807) (hb : -9223372036854775808 ≤ b) (kb : b ≤ 9223372036854775807) (w : World) :
    Calls Tryd.prog 3 #[.int .i64 n, .int .i64 d, .agg #[.int .i64 a, .int .i64 b]] w fun e w' => e = .returned (.bool true) ∧ Below w.heap.size w w' := by
  obtain ⟨p, q, z, hm⟩ : ∃ p q z, mk n d = (p, q, z) := ⟨_, _, _, rfl⟩
  have hb : -1099511627776 ≤ p ∧ p ≤ 1099511627776 ∧ 0 ≤ q ∧ q ≤ 1048576 ∧ (z = 0 → vld p q = true) := by
    rcases mk_cases n d with ⟨_, h⟩ | ⟨_, h⟩ | ⟨p', q', _, h, hv, _⟩ <;> rw [hm] at h <;> simp only [Prod.mk.injEq] at h <;> obtain ⟨rfl, rfl, rfl⟩ := h
    · exact ⟨by omega, by omega, by omega, by omega, by intro h; cases h⟩
    · exact ⟨by omega, by omega, by omega, by omega, by intro h; cases h⟩
    · have := vld_bd hv
      exact ⟨by omega, by omega, by omega, by omega, fun _ => hv⟩
  obtain ⟨hp1, hp2, hq1, hq2, hv⟩ := hb
  have HM := Lib.hid hm
  clear hm
  by_cases hz : z = 0
  · have VV := Lib.hid (hv hz)
    subst hz
    clear hv
    go_enter Tryd.func3, Tryd.ntmps3
    go_wp2_with fail
    refine (make_any n d p q 0 HM.out (by omega) (by omega) (by omega) (by omega) _).mono ?_
    rintro e w1 ⟨rfl, hb1⟩
    (have xr : Box2 w1 w.heap.size (.int .i64 a) (.int .i64 b) := Box2.keep (by assumption) (by repeat' (first | (with_reducible assumption) | (with_reducible refine Box2.drewN ?_ _) | (with_reducible refine Box2.drew ?_) | (with_reducible exact Box2.new _ _ _ _) | (with_reducible exact Box2.new1 _ _ _ _ _) | (with_reducible exact Box2.new2 _ _ _ _ _ _) | (with_reducible refine Box2.alloc ?_ _))); obtain ⟨c0xr, c1xr, f0xr, f1xr, zxr⟩ := id xr)
    go_wp2_with fail
    refine (rmake_any n d p q 0 HM.out (by omega) (by omega) (by omega) (by omega) _).mono ?_
    rintro e w2 ⟨rfl, hb2⟩
    (have yr : Box2 w2 w.heap.size (.int .i64 a) (.int .i64 b) := Box2.keep (by assumption) (by repeat' (first | (with_reducible assumption) | (with_reducible refine Box2.drewN ?_ _) | (with_reducible refine Box2.drew ?_) | (with_reducible exact Box2.new _ _ _ _) | (with_reducible exact Box2.new1 _ _ _ _ _) | (with_reducible exact Box2.new2 _ _ _ _ _ _) | (with_reducible refine Box2.alloc ?_ _))); obtain ⟨c0yr, c1yr, f0yr, f1yr, zyr⟩ := id yr)
    (have y1 : Box2 w2 w1.heap.size (.int .i64 p) (.int .i64 q) := Box2.keep (by assumption) (by repeat' (first | (with_reducible assumption) | (with_reducible refine Box2.drewN ?_ _) | (with_reducible refine Box2.drew ?_) | (with_reducible exact Box2.new _ _ _ _) | (with_reducible exact Box2.new1 _ _ _ _ _) | (with_reducible exact Box2.new2 _ _ _ _ _ _) | (with_reducible refine Box2.alloc ?_ _))); obtain ⟨c0y1, c1y1, f0y1, f1y1, zy1⟩ := id y1)
    clear xr c0xr c1xr f0xr f1xr
    go_wp2_with fail
    obtain ⟨w3, hww3⟩ : ∃ W, W = (w2.alloc (Obj.cells #[.int .i64 p, .int .i64 q] 23)) := ⟨_, rfl⟩
    rw [← hww3]
    have bw3 : Below w2.heap.size w2 w3 := by rw [hww3]; exact (by repeat' (first | (with_reducible exact Below.refl _ _) | (with_reducible assumption) | (with_reducible refine below_drewN ?_ _) | (with_reducible refine below_step (by assumption) ?_ ?_) | (with_reducible refine Below.alloc ?_ ?_ _) | (with_reducible refine Below.setCell ?_ ?_ _) | (with_reducible refine Below.drew ?_) | go_size | (exact Below.size (by assumption)) | (refine Nat.le_trans (Below.size (by assumption)) ?_)))
    (have ur : Box2 w3 w.heap.size (.int .i64 a) (.int .i64 b) := (by rw [hww3]; exact (by repeat' (first | (with_reducible assumption) | (with_reducible refine Box2.drewN ?_ _) | (with_reducible refine Box2.drew ?_) | (with_reducible exact Box2.new _ _ _ _) | (with_reducible exact Box2.new1 _ _ _ _ _) | (with_reducible exact Box2.new2 _ _ _ _ _ _) | (with_reducible refine Box2.alloc ?_ _)))); obtain ⟨c0ur, c1ur, f0ur, f1ur, zur⟩ := id ur)
    (have u1 : Box2 w3 w1.heap.size (.int .i64 p) (.int .i64 q) := (by rw [hww3]; exact (by repeat' (first | (with_reducible assumption) | (with_reducible refine Box2.drewN ?_ _) | (with_reducible refine Box2.drew ?_) | (with_reducible exact Box2.new _ _ _ _) | (with_reducible exact Box2.new1 _ _ _ _ _) | (with_reducible exact Box2.new2 _ _ _ _ _ _) | (with_reducible refine Box2.alloc ?_ _)))); obtain ⟨c0u1, c1u1, f0u1, f1u1, zu1⟩ := id u1)
    (have u2 : Box2 w3 w2.heap.size (.int .i64 p) (.int .i64 q) := (by rw [hww3]; exact (by repeat' (first | (with_reducible assumption) | (with_reducible refine Box2.drewN ?_ _) | (with_reducible refine Box2.drew ?_) | (with_reducible exact Box2.new _ _ _ _) | (with_reducible exact Box2.new1 _ _ _ _ _) | (with_reducible exact Box2.new2 _ _ _ _ _ _) | (with_reducible refine Box2.alloc ?_ _)))); obtain ⟨c0u2, c1u2, f0u2, f1u2, zu2⟩ := id u2)
    clear hww3 yr y1 c0yr c1yr f0yr f1yr c0y1 c1y1 f0y1 f1y1
    refine region_grow (by kernel_rfl) (by kernel_rfl) ?_
    repeat (go_big_quiet_step ((first | (go_at_call_of 18 (Value.int IntKind.i64 a); exact grow_call (valid_any _ _ (by omega) (by omega) (by omega) (by omega) _)) | (go_at_call_of 18 (Value.int IntKind.i64 p); exact grow_call (valid_true _ _ VV.out _)) | (go_at_call 19; exact grow_call (rvalid_any _ _ (by omega) (by omega) (by omega) (by omega) _)) | (go_at_call 20; exact grow_call (known_any _)))))
    refine wpQuiet_nil ?_
    rintro w4 ⟨xg, hxg⟩
    have hb4 := below_grow w3 xg
    rw [← hxg] at hb4
    clear hxg xg
    go_wp2
    go_ret
    exact ⟨rfl, (by repeat' (first | (with_reducible exact Below.refl _ _) | (with_reducible assumption) | (with_reducible refine below_drewN ?_ _) | (with_reducible refine below_step (by assumption) ?_ ?_) | (with_reducible refine Below.alloc ?_ ?_ _) | (with_reducible refine Below.setCell ?_ ?_ _) | (with_reducible refine Below.drew ?_) | go_size | (exact Below.size (by assumption)) | (refine Nat.le_trans (Below.size (by assumption)) ?_)))⟩
  · have hz' : (z != 0) = true := by rw [bne_iff_ne]; exact hz
    clear hv
    go_enter Tryd.func3, Tryd.ntmps3
    go_wp2_with fail
    refine (make_any n d p q z HM.out (by omega) (by omega) (by omega) (by omega) _).mono ?_
    rintro e w1 ⟨rfl, hb1⟩
    (have xr : Box2 w1 w.heap.size (.int .i64 a) (.int .i64 b) := Box2.keep (by assumption) (by repeat' (first | (with_reducible assumption) | (with_reducible refine Box2.drewN ?_ _) | (with_reducible refine Box2.drew ?_) | (with_reducible exact Box2.new _ _ _ _) | (with_reducible exact Box2.new1 _ _ _ _ _) | (with_reducible exact Box2.new2 _ _ _ _ _ _) | (with_reducible refine Box2.alloc ?_ _))); obtain ⟨c0xr, c1xr, f0xr, f1xr, zxr⟩ := id xr)
    go_wp2_with fail
    refine (rmake_any n d p q z HM.out (by omega) (by omega) (by omega) (by omega) _).mono ?_
    rintro e w2 ⟨rfl, hb2⟩
    (have yr : Box2 w2 w.heap.size (.int .i64 a) (.int .i64 b) := Box2.keep (by assumption) (by repeat' (first | (with_reducible assumption) | (with_reducible refine Box2.drewN ?_ _) | (with_reducible refine Box2.drew ?_) | (with_reducible exact Box2.new _ _ _ _) | (with_reducible exact Box2.new1 _ _ _ _ _) | (with_reducible exact Box2.new2 _ _ _ _ _ _) | (with_reducible refine Box2.alloc ?_ _))); obtain ⟨c0yr, c1yr, f0yr, f1yr, zyr⟩ := id yr)
    (have y1 : Box2 w2 w1.heap.size (.int .i64 p) (.int .i64 q) := Box2.keep (by assumption) (by repeat' (first | (with_reducible assumption) | (with_reducible refine Box2.drewN ?_ _) | (with_reducible refine Box2.drew ?_) | (with_reducible exact Box2.new _ _ _ _) | (with_reducible exact Box2.new1 _ _ _ _ _) | (with_reducible exact Box2.new2 _ _ _ _ _ _) | (with_reducible refine Box2.alloc ?_ _))); obtain ⟨c0y1, c1y1, f0y1, f1y1, zy1⟩ := id y1)
    clear xr c0xr c1xr f0xr f1xr
    go_wp2_with fail
    obtain ⟨w3, hww3⟩ : ∃ W, W = (w2.alloc (Obj.cells #[.int .i64 p, .int .i64 q] 23)) := ⟨_, rfl⟩
    rw [← hww3]
    have bw3 : Below w2.heap.size w2 w3 := by rw [hww3]; exact (by repeat' (first | (with_reducible exact Below.refl _ _) | (with_reducible assumption) | (with_reducible refine below_drewN ?_ _) | (with_reducible refine below_step (by assumption) ?_ ?_) | (with_reducible refine Below.alloc ?_ ?_ _) | (with_reducible refine Below.setCell ?_ ?_ _) | (with_reducible refine Below.drew ?_) | go_size | (exact Below.size (by assumption)) | (refine Nat.le_trans (Below.size (by assumption)) ?_)))
    (have ur : Box2 w3 w.heap.size (.int .i64 a) (.int .i64 b) := (by rw [hww3]; exact (by repeat' (first | (with_reducible assumption) | (with_reducible refine Box2.drewN ?_ _) | (with_reducible refine Box2.drew ?_) | (with_reducible exact Box2.new _ _ _ _) | (with_reducible exact Box2.new1 _ _ _ _ _) | (with_reducible exact Box2.new2 _ _ _ _ _ _) | (with_reducible refine Box2.alloc ?_ _)))); obtain ⟨c0ur, c1ur, f0ur, f1ur, zur⟩ := id ur)
    (have u1 : Box2 w3 w1.heap.size (.int .i64 p) (.int .i64 q) := (by rw [hww3]; exact (by repeat' (first | (with_reducible assumption) | (with_reducible refine Box2.drewN ?_ _) | (with_reducible refine Box2.drew ?_) | (with_reducible exact Box2.new _ _ _ _) | (with_reducible exact Box2.new1 _ _ _ _ _) | (with_reducible exact Box2.new2 _ _ _ _ _ _) | (with_reducible refine Box2.alloc ?_ _)))); obtain ⟨c0u1, c1u1, f0u1, f1u1, zu1⟩ := id u1)
    (have u2 : Box2 w3 w2.heap.size (.int .i64 p) (.int .i64 q) := (by rw [hww3]; exact (by repeat' (first | (with_reducible assumption) | (with_reducible refine Box2.drewN ?_ _) | (with_reducible refine Box2.drew ?_) | (with_reducible exact Box2.new _ _ _ _) | (with_reducible exact Box2.new1 _ _ _ _ _) | (with_reducible exact Box2.new2 _ _ _ _ _ _) | (with_reducible refine Box2.alloc ?_ _)))); obtain ⟨c0u2, c1u2, f0u2, f1u2, zu2⟩ := id u2)
    clear hww3 yr y1 c0yr c1yr f0yr f1yr c0y1 c1y1 f0y1 f1y1
    refine region_grow (by kernel_rfl) (by kernel_rfl) ?_
    repeat (go_big_quiet_step ((first | (go_at_call_of 18 (Value.int IntKind.i64 a); exact grow_call (valid_any _ _ (by omega) (by omega) (by omega) (by omega) _)) | (go_at_call 19; exact grow_call (rvalid_any _ _ (by omega) (by omega) (by omega) (by omega) _)) | (go_at_call 20; exact grow_call (known_any _)))))
    refine wpQuiet_nil ?_
    rintro w4 ⟨xg, hxg⟩
    have hb4 := below_grow w3 xg
    rw [← hxg] at hb4
    clear hxg xg
    go_wp2
    go_ret
    exact ⟨rfl, (by repeat' (first | (with_reducible exact Below.refl _ _) | (with_reducible assumption) | (with_reducible refine below_drewN ?_ _) | (with_reducible refine below_step (by assumption) ?_ ?_) | (with_reducible refine Below.alloc ?_ ?_ _) | (with_reducible refine Below.setCell ?_ ?_ _) | (with_reducible refine Below.drew ?_) | go_size | (exact Below.size (by assumption)) | (refine Nat.le_trans (Below.size (by assumption)) ?_)))⟩
end Go.Proofs.YtclbjgelefbmlaaDoor
