/-
  THE WALKS OF Mul AND Div, THE PROGRAM'S AND THE REFERENCE'S.
-/
import Derived.Test.YtaadelcmhbgpnaaGreatDoorNumD
import Derived.Deep.RegionWith
namespace Go.Proofs.YtaadelcmhbgpnaaGreatDoor
open Go.RowKit
theorem gcd_eq (a b g : Nat) (hg : Nat.gcd a b = g) (w : World) (ha : a < 18446744073709551616) (hb : b < 18446744073709551616) :
    Calls Tryz.prog 82 #[.int .u64 a, .int .u64 b] w fun e w' => e = .returned (.int .u64 (g : Nat)) ∧ ∃ m, w' = w.drewN m := by
  subst hg; exact gcd_any a b w ha hb
theorem mulM_cases (a1 a2 b1 b2 : Int) : vld a1 a2 = true → vld b1 b2 = true → mulM a1 a2 b1 b2 = mulP a1 a2 b1 b2 := fun h k => (if_pos ⟨h, k⟩).trans (mulP_eq h k).symm
theorem mulP_def {p q r s : Int} {g h : Nat} (hg : Nat.gcd p.natAbs s.natAbs = g) (hh : Nat.gcd r.natAbs q.natAbs = h) :
    mulP p q r s = if (p.tdiv g ≠ 0 ∧ 1099511627776 / (p.tdiv g).natAbs < (r.tdiv h).natAbs) ∨ 1048576 < q.tdiv h * s.tdiv g then (0, 0, 4) else mk (p.tdiv g * r.tdiv h) (q.tdiv h * s.tdiv g) := by
  subst hg; subst hh; rfl
theorem tdiv_abs (p : Int) (g : Nat) : (p.tdiv g).natAbs ≤ p.natAbs := by
  rw [Int.natAbs_tdiv]; exact Nat.div_le_self _ _
theorem tdiv_pos {q : Int} (g : Nat) (h : 0 ≤ q) : 0 ≤ q.tdiv g := Int.tdiv_nonneg h (Int.natCast_nonneg g)
theorem mul_abs {n m : Int} (h : m.natAbs ≤ 1099511627776 / n.natAbs) : -1099511627776 ≤ n * m ∧ n * m ≤ 1099511627776 := by
  have h1 : n.natAbs * m.natAbs ≤ 1099511627776 := Nat.le_trans (Nat.mul_le_mul_left _ h) (Nat.mul_div_le _ _)
  rw [← Int.natAbs_mul] at h1
  omega
theorem quo_int (n : Int) : ((1099511627776 / n.natAbs : Nat) : Int) = (1099511627776 : Int) / (n.natAbs : Int) := Int.natCast_ediv _ _

set_option maxHeartbeats 2000000 in
theorem mul_any (a1 a2 b1 b2 p q z : Int) (hm : mulM a1 a2 b1 b2 = (p, q, z)) (h1 : -9223372036854775808 ≤ a1) (h2 : a1 ≤ 9223372036854775807) (h3 : -9223372036854775808 ≤ a2) (h4 : a2 ≤ 9223372036854775807)
    (h5 : -9223372036854775808 ≤ b1) (h6 : b1 ≤ 9223372036854775807) (h7 : -9223372036854775808 ≤ b2) (h8 : b2 ≤ 9223372036854775807) (w : World) :
    Calls Tryz.prog 63 #[.agg #[.int .i64 a1, .int .i64 a2], .agg #[.int .i64 b1, .int .i64 b2]] w fun e w' => e = .returned (.tuple #[.agg #[.int .i64 p, .int .i64 q], .int .i64 z]) ∧ Below w.heap.size w w' := by
  cases va : vld a1 a2
  · unfold mulM at hm
    rw [if_neg (by simp [va])] at hm
    have HM := Lib.hid hm
    have VA := Lib.hid va
    clear hm va
    go_enter Tryz.func63, Tryz.ntmps63
    go_wp2_with ((go_at_call 62; refine (valid_any _ _ (by omega) (by omega) (by omega) (by omega) _).mono ?_; rw [VA.out]; rintro e w1 ⟨rfl, hb1⟩; (have x1 : Box2 w1 (w.heap.size + 1 + 1) (.int .i64 0) (.int .i64 0) := Box2.keep (by assumption) (by repeat' (first | (with_reducible assumption) | (with_reducible refine Box2.drewN ?_ _) | (with_reducible refine Box2.drew ?_) | (with_reducible exact Box2.new _ _ _ _) | (with_reducible exact Box2.new1 _ _ _ _ _) | (with_reducible exact Box2.new2 _ _ _ _ _ _) | (with_reducible refine Box2.alloc ?_ _))); obtain ⟨c0x1, c1x1, f0x1, f1x1, zx1⟩ := id x1)))
    refine bodyPost_ret (v := .tuple #[.agg #[.int .i64 (0), .int .i64 (0)], .int .i64 (1)]) (by simp only [results, Tryz.results63]; go_simp) rfl ⟨?_, ?_⟩
    · exact ret_rat HM.out
    · exact (by repeat' (first | (with_reducible exact Below.refl _ _) | (with_reducible assumption) | (with_reducible refine below_drewN ?_ _) | (with_reducible refine below_step (by assumption) ?_ ?_) | (with_reducible refine Below.alloc ?_ ?_ _) | (with_reducible refine Below.setCell ?_ ?_ _) | (with_reducible refine Below.drew ?_) | go_size | (exact Below.size (by assumption)) | (refine Nat.le_trans (Below.size (by assumption)) ?_)))
  · cases vb : vld b1 b2
    · unfold mulM at hm
      rw [if_neg (by simp [vb])] at hm
      have HM := Lib.hid hm
      have VA := Lib.hid va
      have VB := Lib.hid vb
      clear hm va vb
      go_enter Tryz.func63, Tryz.ntmps63
      go_wp2_with fail
      refine (valid_any _ _ (by omega) (by omega) (by omega) (by omega) _).mono ?_
      rw [VA.out]
      rintro e w1 ⟨rfl, hb1⟩
      (have xb : Box2 w1 (w.heap.size + 1) (.int .i64 b1) (.int .i64 b2) := Box2.keep (by assumption) (by repeat' (first | (with_reducible assumption) | (with_reducible refine Box2.drewN ?_ _) | (with_reducible refine Box2.drew ?_) | (with_reducible exact Box2.new _ _ _ _) | (with_reducible exact Box2.new1 _ _ _ _ _) | (with_reducible exact Box2.new2 _ _ _ _ _ _) | (with_reducible refine Box2.alloc ?_ _))); obtain ⟨c0xb, c1xb, f0xb, f1xb, zxb⟩ := id xb)
      (have x1 : Box2 w1 (w.heap.size + 1 + 1) (.int .i64 0) (.int .i64 0) := Box2.keep (by assumption) (by repeat' (first | (with_reducible assumption) | (with_reducible refine Box2.drewN ?_ _) | (with_reducible refine Box2.drew ?_) | (with_reducible exact Box2.new _ _ _ _) | (with_reducible exact Box2.new1 _ _ _ _ _) | (with_reducible exact Box2.new2 _ _ _ _ _ _) | (with_reducible refine Box2.alloc ?_ _))); obtain ⟨c0x1, c1x1, f0x1, f1x1, zx1⟩ := id x1)
      go_wp2_with fail
      refine (valid_any _ _ (by omega) (by omega) (by omega) (by omega) _).mono ?_
      rw [VB.out]
      rintro e w2 ⟨rfl, hb2⟩
      (have x2 : Box2 w2 (w.heap.size + 1 + 1) (.int .i64 0) (.int .i64 0) := Box2.keep (by assumption) (by repeat' (first | (with_reducible assumption) | (with_reducible refine Box2.drewN ?_ _) | (with_reducible refine Box2.drew ?_) | (with_reducible exact Box2.new _ _ _ _) | (with_reducible exact Box2.new1 _ _ _ _ _) | (with_reducible exact Box2.new2 _ _ _ _ _ _) | (with_reducible refine Box2.alloc ?_ _))); obtain ⟨c0x2, c1x2, f0x2, f1x2, zx2⟩ := id x2)
      go_wp2
      refine bodyPost_ret (v := .tuple #[.agg #[.int .i64 (0), .int .i64 (0)], .int .i64 (1)]) (by simp only [results, Tryz.results63]; go_simp) rfl ⟨?_, ?_⟩
      · exact ret_rat HM.out
      · exact (by repeat' (first | (with_reducible exact Below.refl _ _) | (with_reducible assumption) | (with_reducible refine below_drewN ?_ _) | (with_reducible refine below_step (by assumption) ?_ ?_) | (with_reducible refine Below.alloc ?_ ?_ _) | (with_reducible refine Below.setCell ?_ ?_ _) | (with_reducible refine Below.drew ?_) | go_size | (exact Below.size (by assumption)) | (refine Nat.le_trans (Below.size (by assumption)) ?_)))
    · rw [mulM_cases _ _ _ _ va vb] at hm
      have ba := vld_bd va
      have bb := vld_bd vb
      have ca : Nat.gcd a1.natAbs b2.natAbs ≤ b2.natAbs := Nat.gcd_le_right _ (by omega)
      have cb : Nat.gcd b1.natAbs a2.natAbs ≤ a2.natAbs := Nat.gcd_le_right _ (by omega)
      have pa : 0 < Nat.gcd a1.natAbs b2.natAbs := Nat.gcd_pos_of_pos_right _ (by omega)
      have pb : 0 < Nat.gcd b1.natAbs a2.natAbs := Nat.gcd_pos_of_pos_right _ (by omega)
      obtain ⟨g, hG⟩ : ∃ g, Nat.gcd a1.natAbs b2.natAbs = g := ⟨_, rfl⟩
      obtain ⟨h, hH⟩ : ∃ h, Nat.gcd b1.natAbs a2.natAbs = h := ⟨_, rfl⟩
      rw [mulP_def hG hH] at hm
      rw [hG] at ca pa
      rw [hH] at cb pb
      have HG := Lib.hid hG
      have HH := Lib.hid hH
      have VA := Lib.hid va
      have VB := Lib.hid vb
      clear va vb hG hH
      have g0 : ¬ (g : Int) = 0 := by omega
      have k0 : ¬ (h : Int) = 0 := by omega
      have n1 := tdiv_abs a1 g
      have n2 := tdiv_abs b1 h
      have n3 := tdiv_abs a2 h
      have n4 := tdiv_abs b2 g
      have n5 := tdiv_pos h (q := a2) (by omega)
      have n6 := tdiv_pos g (q := b2) (by omega)
      have wg : IntKind.i64.wrap (g : Int) = (g : Int) := IntWalk.i64_in _ ⟨by omega, by omega⟩
      have wh : IntKind.i64.wrap (h : Int) = (h : Int) := IntWalk.i64_in _ ⟨by omega, by omega⟩
      obtain ⟨n, hn⟩ : ∃ n, a1.tdiv g = n := ⟨_, rfl⟩
      obtain ⟨m, hm'⟩ : ∃ m, b1.tdiv h = m := ⟨_, rfl⟩
      obtain ⟨c, hc⟩ : ∃ c, a2.tdiv h = c := ⟨_, rfl⟩
      obtain ⟨d, hd⟩ : ∃ d, b2.tdiv g = d := ⟨_, rfl⟩
      rw [hn] at n1 hm
      rw [hm'] at n2 hm
      rw [hc] at n3 n5 hm
      rw [hd] at n4 n6 hm
      have e1 : IntKind.i64.wrap (a1.tdiv g) = n := by rw [hn]; exact IntWalk.i64_in _ ⟨by omega, by omega⟩
      have e2 : IntKind.i64.wrap (b1.tdiv h) = m := by rw [hm']; exact IntWalk.i64_in _ ⟨by omega, by omega⟩
      have e3 : IntKind.i64.wrap (a2.tdiv h) = c := by rw [hc]; exact IntWalk.i64_in _ ⟨by omega, by omega⟩
      have e4 : IntKind.i64.wrap (b2.tdiv g) = d := by rw [hd]; exact IntWalk.i64_in _ ⟨by omega, by omega⟩
      clear hn hm' hc hd
      have n7 := mul_bd (x := c) (y := d) (by omega) (by omega) (by omega) (by omega)
      have e5 : IntKind.i64.wrap (c * d) = c * d := IntWalk.i64_in _ ⟨by omega, by omega⟩
      have qi := quo_int n
      by_cases z0 : n = 0
      · subst z0
        simp only [ne_eq, not_true, false_and, false_or, Int.zero_mul] at hm
        by_cases z1 : 1048576 < c * d
        · rw [if_pos z1] at hm
          have HM := Lib.hid hm
          clear hm
          go_enter Tryz.func63, Tryz.ntmps63
          go_wp2_with fail
          refine (valid_any _ _ (by omega) (by omega) (by omega) (by omega) _).mono ?_
          rw [VA.out]
          rintro e w1 ⟨rfl, hb1⟩
          (have xa : Box2 w1 w.heap.size (.int .i64 a1) (.int .i64 a2) := Box2.keep (by assumption) (by repeat' (first | (with_reducible assumption) | (with_reducible refine Box2.drewN ?_ _) | (with_reducible refine Box2.drew ?_) | (with_reducible exact Box2.new _ _ _ _) | (with_reducible exact Box2.new1 _ _ _ _ _) | (with_reducible exact Box2.new2 _ _ _ _ _ _) | (with_reducible refine Box2.alloc ?_ _))); obtain ⟨c0xa, c1xa, f0xa, f1xa, zxa⟩ := id xa)
          (have xb : Box2 w1 (w.heap.size + 1) (.int .i64 b1) (.int .i64 b2) := Box2.keep (by assumption) (by repeat' (first | (with_reducible assumption) | (with_reducible refine Box2.drewN ?_ _) | (with_reducible refine Box2.drew ?_) | (with_reducible exact Box2.new _ _ _ _) | (with_reducible exact Box2.new1 _ _ _ _ _) | (with_reducible exact Box2.new2 _ _ _ _ _ _) | (with_reducible refine Box2.alloc ?_ _))); obtain ⟨c0xb, c1xb, f0xb, f1xb, zxb⟩ := id xb)
          (have x1 : Box2 w1 (w.heap.size + 1 + 1) (.int .i64 0) (.int .i64 0) := Box2.keep (by assumption) (by repeat' (first | (with_reducible assumption) | (with_reducible refine Box2.drewN ?_ _) | (with_reducible refine Box2.drew ?_) | (with_reducible exact Box2.new _ _ _ _) | (with_reducible exact Box2.new1 _ _ _ _ _) | (with_reducible exact Box2.new2 _ _ _ _ _ _) | (with_reducible refine Box2.alloc ?_ _))); obtain ⟨c0x1, c1x1, f0x1, f1x1, zx1⟩ := id x1)
          go_wp2_with fail
          refine (valid_any _ _ (by omega) (by omega) (by omega) (by omega) _).mono ?_
          rw [VB.out]
          rintro e w2 ⟨rfl, hb2⟩
          (have ya : Box2 w2 w.heap.size (.int .i64 a1) (.int .i64 a2) := Box2.keep (by assumption) (by repeat' (first | (with_reducible assumption) | (with_reducible refine Box2.drewN ?_ _) | (with_reducible refine Box2.drew ?_) | (with_reducible exact Box2.new _ _ _ _) | (with_reducible exact Box2.new1 _ _ _ _ _) | (with_reducible exact Box2.new2 _ _ _ _ _ _) | (with_reducible refine Box2.alloc ?_ _))); obtain ⟨c0ya, c1ya, f0ya, f1ya, zya⟩ := id ya)
          (have yb : Box2 w2 (w.heap.size + 1) (.int .i64 b1) (.int .i64 b2) := Box2.keep (by assumption) (by repeat' (first | (with_reducible assumption) | (with_reducible refine Box2.drewN ?_ _) | (with_reducible refine Box2.drew ?_) | (with_reducible exact Box2.new _ _ _ _) | (with_reducible exact Box2.new1 _ _ _ _ _) | (with_reducible exact Box2.new2 _ _ _ _ _ _) | (with_reducible refine Box2.alloc ?_ _))); obtain ⟨c0yb, c1yb, f0yb, f1yb, zyb⟩ := id yb)
          (have x2 : Box2 w2 (w.heap.size + 1 + 1) (.int .i64 0) (.int .i64 0) := Box2.keep (by assumption) (by repeat' (first | (with_reducible assumption) | (with_reducible refine Box2.drewN ?_ _) | (with_reducible refine Box2.drew ?_) | (with_reducible exact Box2.new _ _ _ _) | (with_reducible exact Box2.new1 _ _ _ _ _) | (with_reducible exact Box2.new2 _ _ _ _ _ _) | (with_reducible refine Box2.alloc ?_ _))); obtain ⟨c0x2, c1x2, f0x2, f1x2, zx2⟩ := id x2)
          clear xa c0xa c1xa f0xa f1xa zxa xb c0xb c1xb f0xb f1xb zxb x1 c0x1 c1x1 f0x1 f1x1
          go_wp2_with fail
          go_quiet ((first | (go_at_call 83; exact Calls.quiet_of_same ((abs_any _ (by omega) (by omega) _).mono fun _ _ h => ⟨h.1, h.2.symm⟩)) | (go_at_call_of 82 (a1.natAbs); exact Calls.quiet_of (gcd_eq _ _ g HG.out _ (by omega) (by omega))) | (go_at_call_of 82 (b1.natAbs); exact Calls.quiet_of (gcd_eq _ _ h HH.out _ (by omega) (by omega)))))
          go_wp2
          go_quiet (fail)
          go_wp2
          go_quiet (fail)
          go_wp2_with (go_at_call 83; refine (abs_any _ (by omega) (by omega) _).mono ?_; rintro e w' ⟨rfl, rfl⟩)
          refine bodyPost_ret (v := .tuple #[.agg #[.int .i64 (0), .int .i64 (0)], .int .i64 (4)]) (by simp only [results, Tryz.results63]; go_simp) rfl ⟨?_, ?_⟩
          · exact ret_rat HM.out
          · exact (by repeat' (first | (with_reducible exact Below.refl _ _) | (with_reducible assumption) | (with_reducible refine below_drewN ?_ _) | (with_reducible refine below_step (by assumption) ?_ ?_) | (with_reducible refine Below.alloc ?_ ?_ _) | (with_reducible refine Below.setCell ?_ ?_ _) | (with_reducible refine Below.drew ?_) | go_size | (exact Below.size (by assumption)) | (refine Nat.le_trans (Below.size (by assumption)) ?_)))
        · rw [if_neg z1] at hm
          have HM := Lib.hid hm
          clear hm
          go_enter Tryz.func63, Tryz.ntmps63
          go_wp2_with fail
          refine (valid_any _ _ (by omega) (by omega) (by omega) (by omega) _).mono ?_
          rw [VA.out]
          rintro e w1 ⟨rfl, hb1⟩
          (have xa : Box2 w1 w.heap.size (.int .i64 a1) (.int .i64 a2) := Box2.keep (by assumption) (by repeat' (first | (with_reducible assumption) | (with_reducible refine Box2.drewN ?_ _) | (with_reducible refine Box2.drew ?_) | (with_reducible exact Box2.new _ _ _ _) | (with_reducible exact Box2.new1 _ _ _ _ _) | (with_reducible exact Box2.new2 _ _ _ _ _ _) | (with_reducible refine Box2.alloc ?_ _))); obtain ⟨c0xa, c1xa, f0xa, f1xa, zxa⟩ := id xa)
          (have xb : Box2 w1 (w.heap.size + 1) (.int .i64 b1) (.int .i64 b2) := Box2.keep (by assumption) (by repeat' (first | (with_reducible assumption) | (with_reducible refine Box2.drewN ?_ _) | (with_reducible refine Box2.drew ?_) | (with_reducible exact Box2.new _ _ _ _) | (with_reducible exact Box2.new1 _ _ _ _ _) | (with_reducible exact Box2.new2 _ _ _ _ _ _) | (with_reducible refine Box2.alloc ?_ _))); obtain ⟨c0xb, c1xb, f0xb, f1xb, zxb⟩ := id xb)
          (have x1 : Box2 w1 (w.heap.size + 1 + 1) (.int .i64 0) (.int .i64 0) := Box2.keep (by assumption) (by repeat' (first | (with_reducible assumption) | (with_reducible refine Box2.drewN ?_ _) | (with_reducible refine Box2.drew ?_) | (with_reducible exact Box2.new _ _ _ _) | (with_reducible exact Box2.new1 _ _ _ _ _) | (with_reducible exact Box2.new2 _ _ _ _ _ _) | (with_reducible refine Box2.alloc ?_ _))); obtain ⟨c0x1, c1x1, f0x1, f1x1, zx1⟩ := id x1)
          go_wp2_with fail
          refine (valid_any _ _ (by omega) (by omega) (by omega) (by omega) _).mono ?_
          rw [VB.out]
          rintro e w2 ⟨rfl, hb2⟩
          (have ya : Box2 w2 w.heap.size (.int .i64 a1) (.int .i64 a2) := Box2.keep (by assumption) (by repeat' (first | (with_reducible assumption) | (with_reducible refine Box2.drewN ?_ _) | (with_reducible refine Box2.drew ?_) | (with_reducible exact Box2.new _ _ _ _) | (with_reducible exact Box2.new1 _ _ _ _ _) | (with_reducible exact Box2.new2 _ _ _ _ _ _) | (with_reducible refine Box2.alloc ?_ _))); obtain ⟨c0ya, c1ya, f0ya, f1ya, zya⟩ := id ya)
          (have yb : Box2 w2 (w.heap.size + 1) (.int .i64 b1) (.int .i64 b2) := Box2.keep (by assumption) (by repeat' (first | (with_reducible assumption) | (with_reducible refine Box2.drewN ?_ _) | (with_reducible refine Box2.drew ?_) | (with_reducible exact Box2.new _ _ _ _) | (with_reducible exact Box2.new1 _ _ _ _ _) | (with_reducible exact Box2.new2 _ _ _ _ _ _) | (with_reducible refine Box2.alloc ?_ _))); obtain ⟨c0yb, c1yb, f0yb, f1yb, zyb⟩ := id yb)
          (have x2 : Box2 w2 (w.heap.size + 1 + 1) (.int .i64 0) (.int .i64 0) := Box2.keep (by assumption) (by repeat' (first | (with_reducible assumption) | (with_reducible refine Box2.drewN ?_ _) | (with_reducible refine Box2.drew ?_) | (with_reducible exact Box2.new _ _ _ _) | (with_reducible exact Box2.new1 _ _ _ _ _) | (with_reducible exact Box2.new2 _ _ _ _ _ _) | (with_reducible refine Box2.alloc ?_ _))); obtain ⟨c0x2, c1x2, f0x2, f1x2, zx2⟩ := id x2)
          clear xa c0xa c1xa f0xa f1xa zxa xb c0xb c1xb f0xb f1xb zxb x1 c0x1 c1x1 f0x1 f1x1
          go_wp2_with fail
          go_quiet ((first | (go_at_call 83; exact Calls.quiet_of_same ((abs_any _ (by omega) (by omega) _).mono fun _ _ h => ⟨h.1, h.2.symm⟩)) | (go_at_call_of 82 (a1.natAbs); exact Calls.quiet_of (gcd_eq _ _ g HG.out _ (by omega) (by omega))) | (go_at_call_of 82 (b1.natAbs); exact Calls.quiet_of (gcd_eq _ _ h HH.out _ (by omega) (by omega)))))
          go_wp2
          go_quiet (fail)
          go_wp2
          go_quiet (fail)
          go_wp2_with (go_at_call 83; refine (abs_any _ (by omega) (by omega) _).mono ?_; rintro e w' ⟨rfl, rfl⟩)
          refine (make_any _ _ p q z HM.out (by omega) (by omega) (by omega) (by omega) _).mono ?_
          rintro e w3 ⟨rfl, hb3⟩
          (have x3 : Box2 w3 (w.heap.size + 1 + 1) (.int .i64 0) (.int .i64 0) := Box2.keep (by assumption) (by repeat' (first | (with_reducible assumption) | (with_reducible refine Box2.drewN ?_ _) | (with_reducible refine Box2.drew ?_) | (with_reducible exact Box2.new _ _ _ _) | (with_reducible exact Box2.new1 _ _ _ _ _) | (with_reducible exact Box2.new2 _ _ _ _ _ _) | (with_reducible refine Box2.alloc ?_ _))); obtain ⟨c0x3, c1x3, f0x3, f1x3, zx3⟩ := id x3)
          go_wp2
          refine bodyPost_ret (v := .tuple #[.agg #[.int .i64 (p), .int .i64 (q)], .int .i64 (z)]) (by simp only [results, Tryz.results63]; go_simp) rfl ⟨?_, ?_⟩
          · rfl
          · exact (by repeat' (first | (with_reducible exact Below.refl _ _) | (with_reducible assumption) | (with_reducible refine below_drewN ?_ _) | (with_reducible refine below_step (by assumption) ?_ ?_) | (with_reducible refine Below.alloc ?_ ?_ _) | (with_reducible refine Below.setCell ?_ ?_ _) | (with_reducible refine Below.drew ?_) | go_size | (exact Below.size (by assumption)) | (refine Nat.le_trans (Below.size (by assumption)) ?_)))
      · have z0' : (n != 0) = true := by rw [bne_iff_ne]; exact z0
        have z2 : 0 < (n.natAbs : Int) := by omega
        by_cases z1 : (1099511627776 : Int) / (n.natAbs : Int) < (m.natAbs : Int)
        · rw [if_pos (.inl ⟨z0, by omega⟩)] at hm
          clear qi
          have HM := Lib.hid hm
          clear hm
          go_enter Tryz.func63, Tryz.ntmps63
          go_wp2_with fail
          refine (valid_any _ _ (by omega) (by omega) (by omega) (by omega) _).mono ?_
          rw [VA.out]
          rintro e w1 ⟨rfl, hb1⟩
          (have xa : Box2 w1 w.heap.size (.int .i64 a1) (.int .i64 a2) := Box2.keep (by assumption) (by repeat' (first | (with_reducible assumption) | (with_reducible refine Box2.drewN ?_ _) | (with_reducible refine Box2.drew ?_) | (with_reducible exact Box2.new _ _ _ _) | (with_reducible exact Box2.new1 _ _ _ _ _) | (with_reducible exact Box2.new2 _ _ _ _ _ _) | (with_reducible refine Box2.alloc ?_ _))); obtain ⟨c0xa, c1xa, f0xa, f1xa, zxa⟩ := id xa)
          (have xb : Box2 w1 (w.heap.size + 1) (.int .i64 b1) (.int .i64 b2) := Box2.keep (by assumption) (by repeat' (first | (with_reducible assumption) | (with_reducible refine Box2.drewN ?_ _) | (with_reducible refine Box2.drew ?_) | (with_reducible exact Box2.new _ _ _ _) | (with_reducible exact Box2.new1 _ _ _ _ _) | (with_reducible exact Box2.new2 _ _ _ _ _ _) | (with_reducible refine Box2.alloc ?_ _))); obtain ⟨c0xb, c1xb, f0xb, f1xb, zxb⟩ := id xb)
          (have x1 : Box2 w1 (w.heap.size + 1 + 1) (.int .i64 0) (.int .i64 0) := Box2.keep (by assumption) (by repeat' (first | (with_reducible assumption) | (with_reducible refine Box2.drewN ?_ _) | (with_reducible refine Box2.drew ?_) | (with_reducible exact Box2.new _ _ _ _) | (with_reducible exact Box2.new1 _ _ _ _ _) | (with_reducible exact Box2.new2 _ _ _ _ _ _) | (with_reducible refine Box2.alloc ?_ _))); obtain ⟨c0x1, c1x1, f0x1, f1x1, zx1⟩ := id x1)
          go_wp2_with fail
          refine (valid_any _ _ (by omega) (by omega) (by omega) (by omega) _).mono ?_
          rw [VB.out]
          rintro e w2 ⟨rfl, hb2⟩
          (have ya : Box2 w2 w.heap.size (.int .i64 a1) (.int .i64 a2) := Box2.keep (by assumption) (by repeat' (first | (with_reducible assumption) | (with_reducible refine Box2.drewN ?_ _) | (with_reducible refine Box2.drew ?_) | (with_reducible exact Box2.new _ _ _ _) | (with_reducible exact Box2.new1 _ _ _ _ _) | (with_reducible exact Box2.new2 _ _ _ _ _ _) | (with_reducible refine Box2.alloc ?_ _))); obtain ⟨c0ya, c1ya, f0ya, f1ya, zya⟩ := id ya)
          (have yb : Box2 w2 (w.heap.size + 1) (.int .i64 b1) (.int .i64 b2) := Box2.keep (by assumption) (by repeat' (first | (with_reducible assumption) | (with_reducible refine Box2.drewN ?_ _) | (with_reducible refine Box2.drew ?_) | (with_reducible exact Box2.new _ _ _ _) | (with_reducible exact Box2.new1 _ _ _ _ _) | (with_reducible exact Box2.new2 _ _ _ _ _ _) | (with_reducible refine Box2.alloc ?_ _))); obtain ⟨c0yb, c1yb, f0yb, f1yb, zyb⟩ := id yb)
          (have x2 : Box2 w2 (w.heap.size + 1 + 1) (.int .i64 0) (.int .i64 0) := Box2.keep (by assumption) (by repeat' (first | (with_reducible assumption) | (with_reducible refine Box2.drewN ?_ _) | (with_reducible refine Box2.drew ?_) | (with_reducible exact Box2.new _ _ _ _) | (with_reducible exact Box2.new1 _ _ _ _ _) | (with_reducible exact Box2.new2 _ _ _ _ _ _) | (with_reducible refine Box2.alloc ?_ _))); obtain ⟨c0x2, c1x2, f0x2, f1x2, zx2⟩ := id x2)
          clear xa c0xa c1xa f0xa f1xa zxa xb c0xb c1xb f0xb f1xb zxb x1 c0x1 c1x1 f0x1 f1x1
          go_wp2_with fail
          go_quiet ((first | (go_at_call 83; exact Calls.quiet_of_same ((abs_any _ (by omega) (by omega) _).mono fun _ _ h => ⟨h.1, h.2.symm⟩)) | (go_at_call_of 82 (a1.natAbs); exact Calls.quiet_of (gcd_eq _ _ g HG.out _ (by omega) (by omega))) | (go_at_call_of 82 (b1.natAbs); exact Calls.quiet_of (gcd_eq _ _ h HH.out _ (by omega) (by omega)))))
          go_wp2
          go_quiet (fail)
          go_wp2
          go_quiet (fail)
          go_wp2_with (go_at_call 83; refine (abs_any _ (by omega) (by omega) _).mono ?_; rintro e w' ⟨rfl, rfl⟩)
          refine bodyPost_ret (v := .tuple #[.agg #[.int .i64 (0), .int .i64 (0)], .int .i64 (4)]) (by simp only [results, Tryz.results63]; go_simp) rfl ⟨?_, ?_⟩
          · exact ret_rat HM.out
          · exact (by repeat' (first | (with_reducible exact Below.refl _ _) | (with_reducible assumption) | (with_reducible refine below_drewN ?_ _) | (with_reducible refine below_step (by assumption) ?_ ?_) | (with_reducible refine Below.alloc ?_ ?_ _) | (with_reducible refine Below.setCell ?_ ?_ _) | (with_reducible refine Below.drew ?_) | go_size | (exact Below.size (by assumption)) | (refine Nat.le_trans (Below.size (by assumption)) ?_)))
        · by_cases z3 : 1048576 < c * d
          · rw [if_pos (.inr z3)] at hm
            clear qi
            have HM := Lib.hid hm
            clear hm
            go_enter Tryz.func63, Tryz.ntmps63
            go_wp2_with fail
            refine (valid_any _ _ (by omega) (by omega) (by omega) (by omega) _).mono ?_
            rw [VA.out]
            rintro e w1 ⟨rfl, hb1⟩
            (have xa : Box2 w1 w.heap.size (.int .i64 a1) (.int .i64 a2) := Box2.keep (by assumption) (by repeat' (first | (with_reducible assumption) | (with_reducible refine Box2.drewN ?_ _) | (with_reducible refine Box2.drew ?_) | (with_reducible exact Box2.new _ _ _ _) | (with_reducible exact Box2.new1 _ _ _ _ _) | (with_reducible exact Box2.new2 _ _ _ _ _ _) | (with_reducible refine Box2.alloc ?_ _))); obtain ⟨c0xa, c1xa, f0xa, f1xa, zxa⟩ := id xa)
            (have xb : Box2 w1 (w.heap.size + 1) (.int .i64 b1) (.int .i64 b2) := Box2.keep (by assumption) (by repeat' (first | (with_reducible assumption) | (with_reducible refine Box2.drewN ?_ _) | (with_reducible refine Box2.drew ?_) | (with_reducible exact Box2.new _ _ _ _) | (with_reducible exact Box2.new1 _ _ _ _ _) | (with_reducible exact Box2.new2 _ _ _ _ _ _) | (with_reducible refine Box2.alloc ?_ _))); obtain ⟨c0xb, c1xb, f0xb, f1xb, zxb⟩ := id xb)
            (have x1 : Box2 w1 (w.heap.size + 1 + 1) (.int .i64 0) (.int .i64 0) := Box2.keep (by assumption) (by repeat' (first | (with_reducible assumption) | (with_reducible refine Box2.drewN ?_ _) | (with_reducible refine Box2.drew ?_) | (with_reducible exact Box2.new _ _ _ _) | (with_reducible exact Box2.new1 _ _ _ _ _) | (with_reducible exact Box2.new2 _ _ _ _ _ _) | (with_reducible refine Box2.alloc ?_ _))); obtain ⟨c0x1, c1x1, f0x1, f1x1, zx1⟩ := id x1)
            go_wp2_with fail
            refine (valid_any _ _ (by omega) (by omega) (by omega) (by omega) _).mono ?_
            rw [VB.out]
            rintro e w2 ⟨rfl, hb2⟩
            (have ya : Box2 w2 w.heap.size (.int .i64 a1) (.int .i64 a2) := Box2.keep (by assumption) (by repeat' (first | (with_reducible assumption) | (with_reducible refine Box2.drewN ?_ _) | (with_reducible refine Box2.drew ?_) | (with_reducible exact Box2.new _ _ _ _) | (with_reducible exact Box2.new1 _ _ _ _ _) | (with_reducible exact Box2.new2 _ _ _ _ _ _) | (with_reducible refine Box2.alloc ?_ _))); obtain ⟨c0ya, c1ya, f0ya, f1ya, zya⟩ := id ya)
            (have yb : Box2 w2 (w.heap.size + 1) (.int .i64 b1) (.int .i64 b2) := Box2.keep (by assumption) (by repeat' (first | (with_reducible assumption) | (with_reducible refine Box2.drewN ?_ _) | (with_reducible refine Box2.drew ?_) | (with_reducible exact Box2.new _ _ _ _) | (with_reducible exact Box2.new1 _ _ _ _ _) | (with_reducible exact Box2.new2 _ _ _ _ _ _) | (with_reducible refine Box2.alloc ?_ _))); obtain ⟨c0yb, c1yb, f0yb, f1yb, zyb⟩ := id yb)
            (have x2 : Box2 w2 (w.heap.size + 1 + 1) (.int .i64 0) (.int .i64 0) := Box2.keep (by assumption) (by repeat' (first | (with_reducible assumption) | (with_reducible refine Box2.drewN ?_ _) | (with_reducible refine Box2.drew ?_) | (with_reducible exact Box2.new _ _ _ _) | (with_reducible exact Box2.new1 _ _ _ _ _) | (with_reducible exact Box2.new2 _ _ _ _ _ _) | (with_reducible refine Box2.alloc ?_ _))); obtain ⟨c0x2, c1x2, f0x2, f1x2, zx2⟩ := id x2)
            clear xa c0xa c1xa f0xa f1xa zxa xb c0xb c1xb f0xb f1xb zxb x1 c0x1 c1x1 f0x1 f1x1
            go_wp2_with fail
            go_quiet ((first | (go_at_call 83; exact Calls.quiet_of_same ((abs_any _ (by omega) (by omega) _).mono fun _ _ h => ⟨h.1, h.2.symm⟩)) | (go_at_call_of 82 (a1.natAbs); exact Calls.quiet_of (gcd_eq _ _ g HG.out _ (by omega) (by omega))) | (go_at_call_of 82 (b1.natAbs); exact Calls.quiet_of (gcd_eq _ _ h HH.out _ (by omega) (by omega)))))
            go_wp2
            go_quiet (fail)
            go_wp2
            go_quiet (fail)
            go_wp2_with (go_at_call 83; refine (abs_any _ (by omega) (by omega) _).mono ?_; rintro e w' ⟨rfl, rfl⟩)
            refine bodyPost_ret (v := .tuple #[.agg #[.int .i64 (0), .int .i64 (0)], .int .i64 (4)]) (by simp only [results, Tryz.results63]; go_simp) rfl ⟨?_, ?_⟩
            · exact ret_rat HM.out
            · exact (by repeat' (first | (with_reducible exact Below.refl _ _) | (with_reducible assumption) | (with_reducible refine below_drewN ?_ _) | (with_reducible refine below_step (by assumption) ?_ ?_) | (with_reducible refine Below.alloc ?_ ?_ _) | (with_reducible refine Below.setCell ?_ ?_ _) | (with_reducible refine Below.drew ?_) | go_size | (exact Below.size (by assumption)) | (refine Nat.le_trans (Below.size (by assumption)) ?_)))
          · have z4 : ¬ ((n ≠ 0 ∧ 1099511627776 / n.natAbs < m.natAbs) ∨ 1048576 < c * d) := by omega
            rw [if_neg z4] at hm
            have z5 := mul_abs (n := n) (m := m) (by omega)
            clear qi z4
            have HM := Lib.hid hm
            clear hm
            go_enter Tryz.func63, Tryz.ntmps63
            go_wp2_with fail
            refine (valid_any _ _ (by omega) (by omega) (by omega) (by omega) _).mono ?_
            rw [VA.out]
            rintro e w1 ⟨rfl, hb1⟩
            (have xa : Box2 w1 w.heap.size (.int .i64 a1) (.int .i64 a2) := Box2.keep (by assumption) (by repeat' (first | (with_reducible assumption) | (with_reducible refine Box2.drewN ?_ _) | (with_reducible refine Box2.drew ?_) | (with_reducible exact Box2.new _ _ _ _) | (with_reducible exact Box2.new1 _ _ _ _ _) | (with_reducible exact Box2.new2 _ _ _ _ _ _) | (with_reducible refine Box2.alloc ?_ _))); obtain ⟨c0xa, c1xa, f0xa, f1xa, zxa⟩ := id xa)
            (have xb : Box2 w1 (w.heap.size + 1) (.int .i64 b1) (.int .i64 b2) := Box2.keep (by assumption) (by repeat' (first | (with_reducible assumption) | (with_reducible refine Box2.drewN ?_ _) | (with_reducible refine Box2.drew ?_) | (with_reducible exact Box2.new _ _ _ _) | (with_reducible exact Box2.new1 _ _ _ _ _) | (with_reducible exact Box2.new2 _ _ _ _ _ _) | (with_reducible refine Box2.alloc ?_ _))); obtain ⟨c0xb, c1xb, f0xb, f1xb, zxb⟩ := id xb)
            (have x1 : Box2 w1 (w.heap.size + 1 + 1) (.int .i64 0) (.int .i64 0) := Box2.keep (by assumption) (by repeat' (first | (with_reducible assumption) | (with_reducible refine Box2.drewN ?_ _) | (with_reducible refine Box2.drew ?_) | (with_reducible exact Box2.new _ _ _ _) | (with_reducible exact Box2.new1 _ _ _ _ _) | (with_reducible exact Box2.new2 _ _ _ _ _ _) | (with_reducible refine Box2.alloc ?_ _))); obtain ⟨c0x1, c1x1, f0x1, f1x1, zx1⟩ := id x1)
            go_wp2_with fail
            refine (valid_any _ _ (by omega) (by omega) (by omega) (by omega) _).mono ?_
            rw [VB.out]
            rintro e w2 ⟨rfl, hb2⟩
            (have ya : Box2 w2 w.heap.size (.int .i64 a1) (.int .i64 a2) := Box2.keep (by assumption) (by repeat' (first | (with_reducible assumption) | (with_reducible refine Box2.drewN ?_ _) | (with_reducible refine Box2.drew ?_) | (with_reducible exact Box2.new _ _ _ _) | (with_reducible exact Box2.new1 _ _ _ _ _) | (with_reducible exact Box2.new2 _ _ _ _ _ _) | (with_reducible refine Box2.alloc ?_ _))); obtain ⟨c0ya, c1ya, f0ya, f1ya, zya⟩ := id ya)
            (have yb : Box2 w2 (w.heap.size + 1) (.int .i64 b1) (.int .i64 b2) := Box2.keep (by assumption) (by repeat' (first | (with_reducible assumption) | (with_reducible refine Box2.drewN ?_ _) | (with_reducible refine Box2.drew ?_) | (with_reducible exact Box2.new _ _ _ _) | (with_reducible exact Box2.new1 _ _ _ _ _) | (with_reducible exact Box2.new2 _ _ _ _ _ _) | (with_reducible refine Box2.alloc ?_ _))); obtain ⟨c0yb, c1yb, f0yb, f1yb, zyb⟩ := id yb)
            (have x2 : Box2 w2 (w.heap.size + 1 + 1) (.int .i64 0) (.int .i64 0) := Box2.keep (by assumption) (by repeat' (first | (with_reducible assumption) | (with_reducible refine Box2.drewN ?_ _) | (with_reducible refine Box2.drew ?_) | (with_reducible exact Box2.new _ _ _ _) | (with_reducible exact Box2.new1 _ _ _ _ _) | (with_reducible exact Box2.new2 _ _ _ _ _ _) | (with_reducible refine Box2.alloc ?_ _))); obtain ⟨c0x2, c1x2, f0x2, f1x2, zx2⟩ := id x2)
            clear xa c0xa c1xa f0xa f1xa zxa xb c0xb c1xb f0xb f1xb zxb x1 c0x1 c1x1 f0x1 f1x1
            go_wp2_with fail
            go_quiet ((first | (go_at_call 83; exact Calls.quiet_of_same ((abs_any _ (by omega) (by omega) _).mono fun _ _ h => ⟨h.1, h.2.symm⟩)) | (go_at_call_of 82 (a1.natAbs); exact Calls.quiet_of (gcd_eq _ _ g HG.out _ (by omega) (by omega))) | (go_at_call_of 82 (b1.natAbs); exact Calls.quiet_of (gcd_eq _ _ h HH.out _ (by omega) (by omega)))))
            go_wp2
            go_quiet (fail)
            go_wp2
            go_quiet (fail)
            go_wp2_with (go_at_call 83; refine (abs_any _ (by omega) (by omega) _).mono ?_; rintro e w' ⟨rfl, rfl⟩)
            refine (make_any _ _ p q z HM.out (by omega) (by omega) (by omega) (by omega) _).mono ?_
            rintro e w3 ⟨rfl, hb3⟩
            (have x3 : Box2 w3 (w.heap.size + 1 + 1) (.int .i64 0) (.int .i64 0) := Box2.keep (by assumption) (by repeat' (first | (with_reducible assumption) | (with_reducible refine Box2.drewN ?_ _) | (with_reducible refine Box2.drew ?_) | (with_reducible exact Box2.new _ _ _ _) | (with_reducible exact Box2.new1 _ _ _ _ _) | (with_reducible exact Box2.new2 _ _ _ _ _ _) | (with_reducible refine Box2.alloc ?_ _))); obtain ⟨c0x3, c1x3, f0x3, f1x3, zx3⟩ := id x3)
            go_wp2
            refine bodyPost_ret (v := .tuple #[.agg #[.int .i64 (p), .int .i64 (q)], .int .i64 (z)]) (by simp only [results, Tryz.results63]; go_simp) rfl ⟨?_, ?_⟩
            · rfl
            · exact (by repeat' (first | (with_reducible exact Below.refl _ _) | (with_reducible assumption) | (with_reducible refine below_drewN ?_ _) | (with_reducible refine below_step (by assumption) ?_ ?_) | (with_reducible refine Below.alloc ?_ ?_ _) | (with_reducible refine Below.setCell ?_ ?_ _) | (with_reducible refine Below.drew ?_) | go_size | (exact Below.size (by assumption)) | (refine Nat.le_trans (Below.size (by assumption)) ?_)))
end Go.Proofs.YtaadelcmhbgpnaaGreatDoor
