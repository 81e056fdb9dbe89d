/-
  WHOLE NUMBERS: how often one is contained in another one; fractions.
-/
import Derived.Test.YtdgmpaijpjkeoaaWhoH
import Derived.Test.YtdgmpaijpjkeoaaLotJ
namespace Go.Proofs.Ytdgmpaijpjkeoaa
open Go.RowKit
/-- What times returns. -/
def tmQ (q : Nat) : Int := if 1048576 < q then 0 else (q : Int)
def tmB (q : Nat) : Bool := !decide (1048576 < q)
theorem cmp_mul {g m q : Nat} (hg : 0 < g) : (cmpN (g * m) (g * q) < 0) ↔ m < q := by
  have h := Nat.mul_lt_mul_left (b := m) (c := q) hg
  unfold cmpN
  split
  · rename_i g; simp [h.1 g]
  · rename_i g
    have : ¬ m < q := fun x => g (h.2 x)
    split <;> simp [this]
set_option maxRecDepth 100000 in
set_option maxHeartbeats 1000000 in
theorem wtm_any (A : Option Addr) (n c a : Nat) (B : Option Addr) (n' c' g q : Nat) (ha : a < topW) (hg : g < topW) (hg0 : 0 < g) (hq : a = g * q) (w : World) (hW : IsW w A n a) (hX : IsW w B n' g) :
    Calls Try.prog 95 #[.slice A n c, .slice B n' c', .int .i64 1048576] w fun e w' => e = .returned (.tuple #[.int .i64 (tmQ q), .bool (tmB q)]) ∧ Below w.heap.size w w' := by
  have hn := hW.len ha
  have HG := Lib.hid hg
  have HG0 := Lib.hid hg0
  have HQ := Lib.hid hq
  have h0 := Lib.hid (show IsW w A n a ∧ IsW w B n' g from ⟨hW, hX⟩)
  clear hW hX ha hg hg0 hq
  have hlen : ∀ m, m ≤ 1048576 → ∀ A2 n2 w2, IsW w2 A2 n2 (g * m) → n2 ≤ 1000 := fun m hm A2 n2 w2 h => by
    obtain ⟨zs, h1, rfl, -⟩ := h
    have := h1.len_le (topW_mul HG.out (show m ≤ 274877906944 by omega))
    omega
  have HLEN := Lib.hid hlen
  clear hlen
  go_enter Try.func95, Try.ntmps95
  go_wp2_with fail
  refine (wtimes_any B n' c' g 1048576 (by omega) HG.out _ h0.out.2).mono ?_
  rintro e w1 ⟨A1, n1, c1, rfl, hw1, hb1, -⟩
  have hn1 := HLEN.out _ (Nat.le_refl _) _ _ _ hw1
  have H1 := Lib.hid (show IsW w1 A1 n1 (g * 1048576) ∧ IsW w1 A n a ∧ IsW w1 B n' g ∧ Below w.heap.size w w1 from ⟨hw1, h0.out.1.below hb1, h0.out.2.below hb1, hb1⟩)
  clear hw1 hb1 h0
  have hcm := cmp_mul (m := 1048576) (q := q) HG0.out
  rw [← HQ.out] at hcm
  obtain ⟨cc, hcc⟩ : ∃ cc, cc = cmpN (g * 1048576) a := ⟨_, rfl⟩
  rw [← hcc] at hcm
  have HCC := Lib.hid hcc
  clear hcc
  go_wp2_with fail
  refine (wcompare_any A1 n1 c1 _ A n c a (by omega) (by omega) _ H1.out.1 H1.out.2.1).mono ?_
  rw [← HCC.out]
  rintro e w2 ⟨rfl, hb2⟩
  have H2 := Lib.hid (show IsW w2 A n a ∧ IsW w2 B n' g ∧ Below w.heap.size w w2 from ⟨H1.out.2.1.below hb2, H1.out.2.2.1.below hb2, H1.out.2.2.2.trans (hb2.mono H1.out.2.2.2.size)⟩)
  clear hb2 H1
  by_cases hbig : 1048576 < q
  · have hneg := hcm.2 hbig
    have E1 := Lib.hid (show tmQ q = 0 by rw [tmQ, if_pos hbig])
    have E2 := Lib.hid (show tmB q = false by rw [tmB, decide_eq_true hbig]; rfl)
    clear hcm hbig
    go_wp2
    go_ret2
    exact ⟨by rw [E1.out, E2.out]; rfl, H2.out.2.2⟩
  · have hneg : ¬ cc < 0 := fun h => hbig (hcm.1 h)
    have hpos : 0 ≤ cc := by omega
    have E1 := Lib.hid (show tmQ q = q by rw [tmQ, if_neg hbig])
    have E2 := Lib.hid (show tmB q = true by rw [tmB, decide_eq_false hbig]; rfl)
    have hqm : q ≤ 1048576 := by omega
    clear hcm hbig hneg
    go_wp2
    go_loopw [8, 9] (fun s t wr => ∃ lo hi : Nat, s = .int .i64 lo ∧ t = .int .i64 hi ∧ lo ≤ q ∧ q ≤ hi ∧ hi ≤ 1048576 ∧ Hid (IsW wr A n a ∧ IsW wr B n' g ∧ Below w.heap.size w wr)) (fun s t _ => (intOf t).toNat - (intOf s).toNat)
    case atStart => exact ⟨0, 1048576, rfl, rfl, by omega, hqm, by omega, H2⟩
    case round =>
      clear H2 hpos
      obtain ⟨lo, hi, rfl, rfl, hlo, hhi, hh, hr⟩ := hrel
      by_cases hlt : lo < hi
      · obtain ⟨md, hmd⟩ : ∃ md, md = (lo + hi) / 2 := ⟨_, rfl⟩
        have hmi : ((lo : Int) + (hi : Int)) / 2 = (md : Int) := by rw [hmd]; omega
        have hmd1 : lo ≤ md := by omega
        have hmd2 : md < hi := by omega
        have hcm := cmp_mul (m := md) (q := q) HG0.out
        rw [← HQ.out] at hcm
        obtain ⟨cc2, hcc2⟩ : ∃ cc2, cc2 = cmpN (g * md) a := ⟨_, rfl⟩
        rw [← hcc2] at hcm
        have HCC2 := Lib.hid hcc2
        clear hcc2 hmd
        go_wp2_with fail
        refine (wtimes_any B n' c' g md (by omega) HG.out _ hr.out.2.1).mono ?_
        rintro e w3 ⟨A3, n3, c3, rfl, hw3, hb3, -⟩
        have hn3 := HLEN.out md (by omega) _ _ _ hw3
        have H3 := Lib.hid (show IsW w3 A3 n3 (g * md) ∧ IsW w3 A n a ∧ IsW w3 B n' g ∧ Below w.heap.size w w3 from ⟨hw3, hr.out.1.below hb3, hr.out.2.1.below hb3, hr.out.2.2.trans (hb3.mono hr.out.2.2.size)⟩)
        clear hw3 hb3 hr
        go_wp2_with fail
        refine (wcompare_any A3 n3 c3 _ A n c a (by omega) (by omega) _ H3.out.1 H3.out.2.1).mono ?_
        rw [← HCC2.out]
        rintro e w4 ⟨rfl, hb4⟩
        have H4 := Lib.hid (show IsW w4 A n a ∧ IsW w4 B n' g ∧ Below w.heap.size w w4 from ⟨H3.out.2.1.below hb4, H3.out.2.2.1.below hb4, H3.out.2.2.2.trans (hb4.mono H3.out.2.2.2.size)⟩)
        clear hb4 H3
        by_cases hml : md < q
        · have hneg := hcm.2 hml
          clear hcm
          go_wp2
          go_roundw
          case rel => exact ⟨md + 1, hi, by go_num, rfl, by omega, hhi, hh, H4⟩
          case measure => simp [intOf]; omega
        · have hneg : 0 ≤ cc2 := by
            have : ¬ cc2 < 0 := fun h => hml (hcm.1 h)
            omega
          clear hcm
          go_wp2
          go_roundw
          case rel => exact ⟨lo, md, rfl, rfl, hlo, by omega, by omega, H4⟩
          case measure => simp [intOf]; omega
      · obtain rfl : lo = q := by omega
        go_wp2
        go_ret2
        exact ⟨by rw [E1.out, E2.out]; rfl, hr.out.2.2⟩
theorem tmQ_le {q : Nat} (h : q ≤ 1048576) : tmQ q = q ∧ tmB q = true := by
  refine ⟨by rw [tmQ, if_neg (by omega)], by rw [tmB, decide_eq_false (by omega)]; rfl⟩
theorem tmQ_gt {q : Nat} (h : 1048576 < q) : tmQ q = 0 ∧ tmB q = false := by
  refine ⟨by rw [tmQ, if_pos h], by rw [tmB, decide_eq_true h]; rfl⟩
theorem ret_ratb {a b d e : Int} {c f : Bool} (h : (a, b, c) = (d, e, f)) : Ending.returned (.tuple #[.agg #[.int .i64 a, .int .i64 b], .bool c]) = .returned (.tuple #[.agg #[.int .i64 d, .int .i64 e], .bool f]) := by
  simp only [Prod.mk.injEq] at h
  obtain ⟨rfl, rfl, rfl⟩ := h
  rfl
set_option maxRecDepth 100000 in
set_option maxHeartbeats 1000000 in
theorem rfraction_any (A : Option Addr) (n c a : Nat) (B : Option Addr) (n' c' b : Nat) (p q z : Int) (hm : frE a b = (p, q, z)) (hab : a ≤ b) (hb : b < topW) (w : World) (hW : IsW w A n a) (hX : IsW w B n' b) :
    Calls Try.prog 64 #[.slice A n c, .slice B n' c'] w fun e w' => e = .returned (.tuple #[.agg #[.int .i64 p, .int .i64 q], .bool (z == 0)]) ∧ Below w.heap.size w w' := by
  have hn := hW.len (show a < topW by omega)
  have HM := Lib.hid hm
  have HB := Lib.hid hb
  have HAB := Lib.hid hab
  have h0 := Lib.hid (show IsW w A n a ∧ IsW w B n' b from ⟨hW, hX⟩)
  clear hm hb hW hX hab
  by_cases hz : n = 0
  · have ha0 := h0.out.1.zero_iff.1 hz
    have HE := Lib.hid (HM.out.symm.trans (show frE a b = (0, 1, 0) by rw [frE, if_pos ha0]))
    subst hz
    clear ha0
    go_enter Try.func64, Try.ntmps64
    go_wp2
    refine bodyPost_ret (v := .tuple #[.agg #[.int .i64 0, .int .i64 1], .bool true]) (by simp only [results, Try.results64]; go_simp) rfl ⟨?_, ?_⟩
    · have := HE.out
      simp only [Prod.mk.injEq] at this
      obtain ⟨rfl, rfl, rfl⟩ := this
      rfl
    · exact (by repeat' (first | (with_reducible exact Below.refl _ _) | (with_reducible assumption) | (with_reducible refine below_drewN ?_ _) | (with_reducible refine below_step (by assumption) ?_ ?_) | (with_reducible refine Below.alloc ?_ ?_ _) | (with_reducible refine Below.setCell ?_ ?_ _) | (with_reducible refine Below.drew ?_) | go_size | (exact Below.size (by assumption)) | (refine Nat.le_trans (Below.size (by assumption)) ?_)))
  · have ha0 : 0 < a := Nat.pos_of_ne_zero (fun e => hz (h0.out.1.zero_iff.2 e))
    have hab := HAB.out
    have hb0 : 0 < b := by omega
    obtain ⟨g, hg⟩ : ∃ g, g = Nat.gcd a b := ⟨_, rfl⟩
    have hg0 : 0 < g := by rw [hg]; exact Nat.gcd_pos_of_pos_left _ ha0
    have hga : g ≤ a := by rw [hg]; exact Nat.gcd_le_left _ ha0
    have hd1 : a = g * (a / g) := by rw [hg]; exact (Nat.mul_div_cancel' (Nat.gcd_dvd_left a b)).symm
    have hd2 : b = g * (b / g) := by rw [hg]; exact (Nat.mul_div_cancel' (Nat.gcd_dvd_right a b)).symm
    have hle : a / g ≤ b / g := Nat.div_le_div_right hab
    have hfr : frE a b = if 1048576 < b / g then (0, 0, 4) else (((a / g : Nat) : Int), ((b / g : Nat) : Int), 0) := by rw [frE, if_neg (by omega), ← hg]
    obtain ⟨x, hx⟩ : ∃ x, x = a / g := ⟨_, rfl⟩
    obtain ⟨y, hy⟩ : ∃ y, y = b / g := ⟨_, rfl⟩
    rw [← hx] at hd1 hle hfr
    rw [← hy] at hd2 hle hfr
    rw [HM.out] at hfr
    have d0 : ((n : Int) == 0) = false := by rw [beq_eq_false_iff_ne]; omega
    have HD1 := Lib.hid hd1
    have HD2 := Lib.hid hd2
    have HFR := Lib.hid hfr
    have HG := Lib.hid hg
    have HG0 := Lib.hid hg0
    have HGT := Lib.hid (show g < topW by have := HB.out; omega)
    have HA0 := Lib.hid ha0
    have HB0 := Lib.hid hb0
    have HAT := Lib.hid (show a < topW by have := HB.out; omega)
    clear hz ha0 hab hb0 hg hg0 hga hd1 hd2 hfr hx hy
    go_enter Try.func64, Try.ntmps64
    go_wp2_with fail
    obtain ⟨W, hW⟩ : ∃ W, W = w.alloc (.cells #[.int .i64 0, .int .i64 0] 28) := ⟨_, rfl⟩
    rw [← hW]
    have hb := Lib.hid (show Below w.heap.size w W by rw [hW]; exact (by repeat' (first | (with_reducible exact Below.refl _ _) | (with_reducible assumption) | (with_reducible refine below_drewN ?_ _) | (with_reducible refine below_step (by assumption) ?_ ?_) | (with_reducible refine Below.alloc ?_ ?_ _) | (with_reducible refine Below.setCell ?_ ?_ _) | (with_reducible refine Below.drew ?_) | go_size | (exact Below.size (by assumption)) | (refine Nat.le_trans (Below.size (by assumption)) ?_))))
    have hx : Box2 W w.heap.size (.int .i64 0) (.int .i64 0) := by rw [hW]; exact Box2.new _ _ _ _
    have h1 := Lib.hid (show IsW W A n a ∧ IsW W B n' b from ⟨h0.out.1.below hb.out, h0.out.2.below hb.out⟩)
    clear hW h0
    refine (wcommon_any A n c a B n' c' b HAT.out HB.out HA0.out HB0.out _ h1.out.1 h1.out.2).mono ?_
    rw [← HG.out]
    rintro e w1 ⟨A1, n1, c1, rfl, hw1, hb1⟩
    have H1 := Lib.hid (show IsW w1 A1 n1 g ∧ IsW w1 A n a ∧ IsW w1 B n' b ∧ Below w.heap.size w w1 from ⟨hw1, h1.out.1.below hb1, h1.out.2.below hb1, hb.out.trans (hb1.mono hb.out.size)⟩)
    have hx1 := hx.keep hb1
    clear hw1 hb1 h1 hx hb
    go_wp2_with fail
    refine (wtm_any B n' c' b A1 n1 c1 g y HB.out HGT.out HG0.out HD2.out _ H1.out.2.2.1 H1.out.1).mono ?_
    by_cases hbig : 1048576 < y
    · obtain ⟨e1, e2⟩ := tmQ_gt hbig
      have HF2 := Lib.hid (HFR.out.trans (if_pos hbig))
      rw [e1, e2]
      clear e1 e2 hbig
      rintro e w2 ⟨rfl, hb2⟩
      have H2 := Lib.hid (H1.out.2.2.2.trans (hb2.mono H1.out.2.2.2.size))
      obtain ⟨x0, x1, x2, x3, x4⟩ := hx1.keep hb2
      clear hx1 hb2 H1
      go_wp2
      refine bodyPost_ret (v := .tuple #[.agg #[.int .i64 0, .int .i64 0], .bool false]) (by simp only [results, Try.results64]; go_simp) rfl ⟨?_, ?_⟩
      · have := HF2.out
        simp only [Prod.mk.injEq] at this
        obtain ⟨rfl, rfl, rfl⟩ := this
        rfl
      · exact (H2.out.setCell (by simp) _).setCell (by simp) _
    · obtain ⟨e1, e2⟩ := tmQ_le (show y ≤ 1048576 by omega)
      obtain ⟨e3, e4⟩ := tmQ_le (show x ≤ 1048576 by omega)
      have HF2 := Lib.hid (HFR.out.trans (if_neg hbig))
      have E3 := Lib.hid e3
      rw [e1, e2]
      clear e1 e2 hbig e3 e4
      rintro e w2 ⟨rfl, hb2⟩
      have H2 := Lib.hid (show IsW w2 A1 n1 g ∧ IsW w2 A n a ∧ Below w.heap.size w w2 from ⟨H1.out.1.below hb2, H1.out.2.1.below hb2, H1.out.2.2.2.trans (hb2.mono H1.out.2.2.2.size)⟩)
      have hx2 := hx1.keep hb2
      clear hx1 hb2 H1
      go_wp2_with fail
      refine (wtm_any A n c a A1 n1 c1 g x HAT.out HGT.out HG0.out HD1.out _ H2.out.2.1 H2.out.1).mono ?_
      rw [E3.out]
      rintro e w3 ⟨rfl, hb3⟩
      have H3 := Lib.hid (H2.out.2.2.trans (hb3.mono H2.out.2.2.size))
      obtain ⟨x0, x1, x2, x3, x4⟩ := hx2.keep hb3
      clear hx2 hb3 H2
      go_wp2
      refine bodyPost_ret (v := .tuple #[.agg #[.int .i64 x, .int .i64 y], .bool true]) (by simp only [results, Try.results64]; go_simp) rfl ⟨?_, ?_⟩
      · have := HF2.out
        simp only [Prod.mk.injEq] at this
        obtain ⟨rfl, rfl, rfl⟩ := this
        rfl
      · exact (H3.out.setCell (by simp) _).setCell (by simp) _
end Go.Proofs.Ytdgmpaijpjkeoaa
