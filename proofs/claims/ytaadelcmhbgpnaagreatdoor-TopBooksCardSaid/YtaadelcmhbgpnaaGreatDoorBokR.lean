/-
  BOOKS: Discount, the program's and the reference's.
-/
import Derived.Test.YtaadelcmhbgpnaaGreatDoorNumE
import Derived.Test.YtaadelcmhbgpnaaGreatDoorNumG
import Derived.Test.YtaadelcmhbgpnaaGreatDoorNumN
namespace Go.Proofs.YtaadelcmhbgpnaaGreatDoor
open Go.RowKit
def discO (p a b : Int) : Int × Int :=
  if p < 0 ∨ 1048576 < p ∨ vld a b = false ∨ a < 0 ∨ b < a then (0, 1)
  else if (mk (p * a) b).2.2 = 0 then (p - rndI (mk (p * a) b).1 (mk (p * a) b).2.1, 0) else (0, (mk (p * a) b).2.2)
theorem vld_int {p : Int} (h0 : 0 ≤ p) (h1 : p ≤ 1048576) : vld p 1 = true := by
  rw [vld_iff]; exact ⟨by omega, by omega, by omega, by omega, Nat.gcd_one_right _⟩
theorem rndI_bd {n d : Int} (h : vld n d = true) : -1099511627777 ≤ rndI n d ∧ rndI n d ≤ 1099511627777 := by
  have b := vld_bd h
  have f := fl_bd (n := n) (d := d) (by omega) (by omega) (by omega)
  unfold rndI
  split
  · omega
  · split <;> omega
theorem disc_prod {p a b : Int} (h0 : 0 ≤ p) (h1 : p ≤ 1048576) (hv : vld a b = true) : -1152921504606846976 ≤ p * a ∧ p * a ≤ 1152921504606846976 := by
  have b := vld_bd hv
  have := mul_bd (x := a) (y := p) (by omega) (by omega) (by omega) (by omega)
  rw [Int.mul_comm] at this
  exact this
set_option maxHeartbeats 4000000 in
theorem pdisc_any (p a b r z : Int) (hm : discO p a b = (r, z)) (hp : -9223372036854775808 ≤ p) (kp : p ≤ 9223372036854775807) (ha : -9223372036854775808 ≤ a) (ka : a ≤ 9223372036854775807) (hb : -9223372036854775808 ≤ b) (kb : b ≤ 9223372036854775807) (w : World) :
    Calls Tryz.prog 40 #[.int .i64 p, .agg #[.int .i64 a, .int .i64 b]] w fun e w' => e = .returned (.tuple #[.int .i64 r, .int .i64 z]) ∧ Below w.heap.size w w' := by
  by_cases c1 : p < 0
  · rw [discO, if_pos (.inl c1)] at hm
    have HM := Lib.hid hm
    clear hm
    have d1 : decide (p < 0) = true := decide_eq_true c1
    go_enter Tryz.func40, Tryz.ntmps40
    go_wp2
    go_ret2
    exact ⟨ret_two HM.out, (by repeat' (first | (with_reducible exact Below.refl _ _) | (with_reducible assumption) | (with_reducible refine below_drewN ?_ _) | (with_reducible refine below_step (by assumption) ?_ ?_) | (with_reducible refine Below.alloc ?_ ?_ _) | (with_reducible refine Below.setCell ?_ ?_ _) | (with_reducible refine Below.drew ?_) | go_size | (exact Below.size (by assumption)) | (refine Nat.le_trans (Below.size (by assumption)) ?_)))⟩
  have d1 : decide (p < 0) = false := decide_eq_false c1
  by_cases c2 : 1048576 < p
  · rw [discO, if_pos (.inr (.inl c2))] at hm
    have HM := Lib.hid hm
    clear hm
    have d2 : decide (1048576 < p) = true := decide_eq_true c2
    go_enter Tryz.func40, Tryz.ntmps40
    go_wp2
    go_ret2
    exact ⟨ret_two HM.out, (by repeat' (first | (with_reducible exact Below.refl _ _) | (with_reducible assumption) | (with_reducible refine below_drewN ?_ _) | (with_reducible refine below_step (by assumption) ?_ ?_) | (with_reducible refine Below.alloc ?_ ?_ _) | (with_reducible refine Below.setCell ?_ ?_ _) | (with_reducible refine Below.drew ?_) | go_size | (exact Below.size (by assumption)) | (refine Nat.le_trans (Below.size (by assumption)) ?_)))⟩
  have d2 : decide (1048576 < p) = false := decide_eq_false c2
  cases va : vld a b
  · rw [discO, if_pos (.inr (.inr (.inl va)))] at hm
    have HM := Lib.hid hm
    have VA := Lib.hid va
    clear hm va
    go_enter Tryz.func40, Tryz.ntmps40
    go_wp2_with ((go_at_call 62; refine (valid_any _ _ (by omega) (by omega) (by omega) (by omega) _).mono ?_; rw [VA.out]; rintro e w1 ⟨rfl, hb1⟩; (have x1 : Box2 w1 w.heap.size (.int .i64 a) (.int .i64 b) := Box2.keep (by assumption) (by repeat' (first | (with_reducible assumption) | (with_reducible refine Box2.drewN ?_ _) | (with_reducible refine Box2.drew ?_) | (with_reducible exact Box2.new _ _ _ _) | (with_reducible exact Box2.new1 _ _ _ _ _) | (with_reducible exact Box2.new2 _ _ _ _ _ _) | (with_reducible refine Box2.alloc ?_ _))); obtain ⟨c0x1, c1x1, f0x1, f1x1, zx1⟩ := id x1)))
    go_ret2
    exact ⟨ret_two HM.out, (by repeat' (first | (with_reducible exact Below.refl _ _) | (with_reducible assumption) | (with_reducible refine below_drewN ?_ _) | (with_reducible refine below_step (by assumption) ?_ ?_) | (with_reducible refine Below.alloc ?_ ?_ _) | (with_reducible refine Below.setCell ?_ ?_ _) | (with_reducible refine Below.drew ?_) | go_size | (exact Below.size (by assumption)) | (refine Nat.le_trans (Below.size (by assumption)) ?_)))⟩
  have bb := vld_bd va
  by_cases c4 : a < 0
  · rw [discO, if_pos (.inr (.inr (.inr (.inl c4))))] at hm
    have HM := Lib.hid hm
    have VA := Lib.hid va
    clear hm va
    have d4 : decide (a < 0) = true := decide_eq_true c4
    go_enter Tryz.func40, Tryz.ntmps40
    go_wp2_with ((go_at_call 62; refine (valid_any _ _ (by omega) (by omega) (by omega) (by omega) _).mono ?_; rw [VA.out]; rintro e w1 ⟨rfl, hb1⟩; (have x1 : Box2 w1 w.heap.size (.int .i64 a) (.int .i64 b) := Box2.keep (by assumption) (by repeat' (first | (with_reducible assumption) | (with_reducible refine Box2.drewN ?_ _) | (with_reducible refine Box2.drew ?_) | (with_reducible exact Box2.new _ _ _ _) | (with_reducible exact Box2.new1 _ _ _ _ _) | (with_reducible exact Box2.new2 _ _ _ _ _ _) | (with_reducible refine Box2.alloc ?_ _))); obtain ⟨c0x1, c1x1, f0x1, f1x1, zx1⟩ := id x1)))
    go_ret2
    exact ⟨ret_two HM.out, (by repeat' (first | (with_reducible exact Below.refl _ _) | (with_reducible assumption) | (with_reducible refine below_drewN ?_ _) | (with_reducible refine below_step (by assumption) ?_ ?_) | (with_reducible refine Below.alloc ?_ ?_ _) | (with_reducible refine Below.setCell ?_ ?_ _) | (with_reducible refine Below.drew ?_) | go_size | (exact Below.size (by assumption)) | (refine Nat.le_trans (Below.size (by assumption)) ?_)))⟩
  have d4 : decide (a < 0) = false := decide_eq_false c4
  by_cases c5 : b < a
  · rw [discO, if_pos (.inr (.inr (.inr (.inr c5))))] at hm
    have HM := Lib.hid hm
    have VA := Lib.hid va
    clear hm va
    have d5 : decide (b < a) = true := decide_eq_true c5
    go_enter Tryz.func40, Tryz.ntmps40
    go_wp2_with ((go_at_call 62; refine (valid_any _ _ (by omega) (by omega) (by omega) (by omega) _).mono ?_; rw [VA.out]; rintro e w1 ⟨rfl, hb1⟩; (have x1 : Box2 w1 w.heap.size (.int .i64 a) (.int .i64 b) := Box2.keep (by assumption) (by repeat' (first | (with_reducible assumption) | (with_reducible refine Box2.drewN ?_ _) | (with_reducible refine Box2.drew ?_) | (with_reducible exact Box2.new _ _ _ _) | (with_reducible exact Box2.new1 _ _ _ _ _) | (with_reducible exact Box2.new2 _ _ _ _ _ _) | (with_reducible refine Box2.alloc ?_ _))); obtain ⟨c0x1, c1x1, f0x1, f1x1, zx1⟩ := id x1)))
    go_ret2
    exact ⟨ret_two HM.out, (by repeat' (first | (with_reducible exact Below.refl _ _) | (with_reducible assumption) | (with_reducible refine below_drewN ?_ _) | (with_reducible refine below_step (by assumption) ?_ ?_) | (with_reducible refine Below.alloc ?_ ?_ _) | (with_reducible refine Below.setCell ?_ ?_ _) | (with_reducible refine Below.drew ?_) | go_size | (exact Below.size (by assumption)) | (refine Nat.le_trans (Below.size (by assumption)) ?_)))⟩
  have d5 : decide (b < a) = false := decide_eq_false c5
  rw [discO, if_neg (fun h => by rcases h with h | h | h | h | h <;> first | (rw [va] at h; cases h) | omega)] at hm
  have hpr := disc_prod (p := p) (by omega) (by omega) va
  obtain ⟨n, d, y, hk⟩ : ∃ n d y, mk (p * a) b = (n, d, y) := ⟨_, _, _, rfl⟩
  have kb := mk_bd hk
  rw [hk] at hm
  simp only at hm
  have hMul : mulM p 1 a b = (n, d, y) := by
    unfold mulM
    rw [if_pos ⟨vld_int (by omega) (by omega), va⟩, Int.one_mul]; exact hk
  have HMUL := Lib.hid hMul
  clear hMul
  have VA := Lib.hid va
  clear hk va
  cases cy : decide (y = 0)
  · have hy : ¬ y = 0 := of_decide_eq_false cy
    rw [if_neg hy] at hm
    have HM := Lib.hid hm
    have q1 : (y != 0) = true := by rw [bne_iff_ne]; exact hy
    clear hm hy cy kb
    go_enter Tryz.func40, Tryz.ntmps40
    go_wp2_with ((go_at_call 62; refine (valid_any _ _ (by omega) (by omega) (by omega) (by omega) _).mono ?_; rw [VA.out]; rintro e w1 ⟨rfl, hb1⟩; (have x1 : Box2 w1 w.heap.size (.int .i64 a) (.int .i64 b) := Box2.keep (by assumption) (by repeat' (first | (with_reducible assumption) | (with_reducible refine Box2.drewN ?_ _) | (with_reducible refine Box2.drew ?_) | (with_reducible exact Box2.new _ _ _ _) | (with_reducible exact Box2.new1 _ _ _ _ _) | (with_reducible exact Box2.new2 _ _ _ _ _ _) | (with_reducible refine Box2.alloc ?_ _))); obtain ⟨c0x1, c1x1, f0x1, f1x1, zx1⟩ := id x1)))
    refine (mul_any p 1 a b n d _ HMUL.out (by omega) (by omega) (by omega) (by omega) (by omega) (by omega) (by omega) (by omega) _).mono ?_
    rintro e w2 ⟨rfl, hb2⟩
    have hB1 : Below w.heap.size w w1 := (by repeat' (first | (with_reducible exact Below.refl _ _) | (with_reducible assumption) | (with_reducible refine below_drewN ?_ _) | (with_reducible refine below_step (by assumption) ?_ ?_) | (with_reducible refine Below.alloc ?_ ?_ _) | (with_reducible refine Below.setCell ?_ ?_ _) | (with_reducible refine Below.drew ?_) | go_size | (exact Below.size (by assumption)) | (refine Nat.le_trans (Below.size (by assumption)) ?_)))
    have hB2 := hB1.trans (hb2.mono hB1.size)
    have zz := hB2.size
    clear hb1 hb2 hB1
    go_wp2
    go_ret2
    exact ⟨ret_two HM.out, (by repeat' (first | (with_reducible exact Below.refl _ _) | (with_reducible assumption) | (with_reducible refine below_drewN ?_ _) | (with_reducible refine below_step (by assumption) ?_ ?_) | (with_reducible refine Below.alloc ?_ ?_ _) | (with_reducible refine Below.setCell ?_ ?_ _) | (with_reducible refine Below.drew ?_) | go_size | (exact Below.size (by assumption)) | (refine Nat.le_trans (Below.size (by assumption)) ?_)))⟩
  · have hy : y = 0 := of_decide_eq_true cy
    subst hy
    rw [if_pos rfl] at hm
    have hv := kb.2.2 rfl
    have rb := rndI_bd hv
    obtain ⟨k, hkk⟩ : ∃ k, rndI n d = k := ⟨_, rfl⟩
    have hR : (if vld n d = true then (rndI n d, (0 : Int)) else (0, 1)) = (k, 0) := by rw [if_pos hv, hkk]
    rw [hkk] at hm rb
    have HR := Lib.hid hR
    have HM := Lib.hid hm
    clear hm cy hv hkk hR
    obtain ⟨kb1, kb2, -⟩ := kb
    go_enter Tryz.func40, Tryz.ntmps40
    go_wp2_with ((go_at_call 62; refine (valid_any _ _ (by omega) (by omega) (by omega) (by omega) _).mono ?_; rw [VA.out]; rintro e w1 ⟨rfl, hb1⟩; (have x1 : Box2 w1 w.heap.size (.int .i64 a) (.int .i64 b) := Box2.keep (by assumption) (by repeat' (first | (with_reducible assumption) | (with_reducible refine Box2.drewN ?_ _) | (with_reducible refine Box2.drew ?_) | (with_reducible exact Box2.new _ _ _ _) | (with_reducible exact Box2.new1 _ _ _ _ _) | (with_reducible exact Box2.new2 _ _ _ _ _ _) | (with_reducible refine Box2.alloc ?_ _))); obtain ⟨c0x1, c1x1, f0x1, f1x1, zx1⟩ := id x1)))
    refine (mul_any p 1 a b n d _ HMUL.out (by omega) (by omega) (by omega) (by omega) (by omega) (by omega) (by omega) (by omega) _).mono ?_
    rintro e w2 ⟨rfl, hb2⟩
    have hB1 : Below w.heap.size w w1 := (by repeat' (first | (with_reducible exact Below.refl _ _) | (with_reducible assumption) | (with_reducible refine below_drewN ?_ _) | (with_reducible refine below_step (by assumption) ?_ ?_) | (with_reducible refine Below.alloc ?_ ?_ _) | (with_reducible refine Below.setCell ?_ ?_ _) | (with_reducible refine Below.drew ?_) | go_size | (exact Below.size (by assumption)) | (refine Nat.le_trans (Below.size (by assumption)) ?_)))
    have hB2 := hB1.trans (hb2.mono hB1.size)
    have zz := hB2.size
    clear hb1 hb2 hB1
    go_wp2_with fail
    refine (round_any n d k 0 HR.out (by omega) (by omega) (by omega) (by omega) _).mono ?_
    rintro e w3 ⟨rfl, hb3⟩
    have hB2' := hB2.alloc zz (.cells #[.int .i64 n, .int .i64 d] 63)
    have hB3 := hB2'.trans (hb3.mono hB2'.size)
    clear hb3 hB2 hB2'
    go_wp2
    go_ret2
    exact ⟨ret_two HM.out, (by repeat' (first | (with_reducible exact Below.refl _ _) | (with_reducible assumption) | (with_reducible refine below_drewN ?_ _) | (with_reducible refine below_step (by assumption) ?_ ?_) | (with_reducible refine Below.alloc ?_ ?_ _) | (with_reducible refine Below.setCell ?_ ?_ _) | (with_reducible refine Below.drew ?_) | go_size | (exact Below.size (by assumption)) | (refine Nat.le_trans (Below.size (by assumption)) ?_)))⟩
end Go.Proofs.YtaadelcmhbgpnaaGreatDoor
