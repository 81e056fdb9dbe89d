/-
  THE PROGRAM: gcd, common.
-/
import Derived.Test.YtgmokojdlbdjeaaGreatDoorPatW
import Derived.Test.YtgmokojdlbdjeaaGreatDoorPrfG
import Derived.Test.YtgmokojdlbdjeaaGreatDoorComP
namespace Go.Proofs.YtgmokojdlbdjeaaGreatDoor
open Go.RowKit
theorem pgcd_nat (a b : Nat) (ha : a ≤ 1000000000) (hb : b ≤ 1000000000) (w : World) :
    Calls Tryz.prog 101 #[.int .i64 a, .int .i64 b] w fun e w' => e = .returned (.int .i64 (Nat.gcd a b : Nat)) ∧ ∃ m, w' = w.drewN m := by
  go_enter Tryz.func101, Tryz.ntmps101
  go_wp2
  go_loopw [0, 1] (fun u v wr => ∃ x y m : Nat, u = .int .i64 x ∧ v = .int .i64 y ∧ wr = w.drewN m ∧ x ≤ 1000000000 ∧ y ≤ 1000000000 ∧ Hid (Nat.gcd x y = Nat.gcd a b)) (fun _ v _ => (intOf v).toNat)
  case atStart => exact ⟨a, b, 0, rfl, rfl, rfl, by omega, by omega, rfl⟩
  case round =>
    obtain ⟨x, y, m, rfl, rfl, rfl, hx, hy, hg⟩ := hrel
    by_cases h0 : y = 0
    · subst h0
      have e0 : ((0 : Int) != 0) = false := rfl
      go_wp2
      go_ret
      exact ⟨by rw [← hg.out, Nat.gcd_zero_right] <;> rfl, m, rfl⟩
    · have e0 : ((y : Int) != 0) = true := by rw [bne_iff_ne]; omega
      have e1 : ¬ (y : Int) = 0 := by omega
      go_wp2
      go_quiet (fail)
      go_wp2
      go_roundw
      case rel => exact ⟨y, x % y, _, rfl, rfl, World.drewN_drewN _ _ _, hy, by have := Nat.mod_lt x (show y > 0 by omega); omega, by rw [Nat.gcd_comm x y, Nat.gcd_rec y x, Nat.gcd_comm] at hg; exact hg.out⟩
      case measure => have := Nat.mod_lt x (show y > 0 by omega); simp [intOf]; omega
theorem pgcd_any (a b : Int) (a0 : 0 ≤ a) (ha : a ≤ 1000000000) (b0 : 0 ≤ b) (hb : b ≤ 1000000000) (w : World) :
    Calls Tryz.prog 101 #[.int .i64 a, .int .i64 b] w fun e w' => e = .returned (.int .i64 (Int.gcd a b : Nat)) ∧ ∃ m, w' = w.drewN m := by
  obtain ⟨x, rfl⟩ := Int.eq_ofNat_of_zero_le a0
  obtain ⟨y, rfl⟩ := Int.eq_ofNat_of_zero_le b0
  exact pgcd_nat x y (by omega) (by omega) w
/-- The boxes of common. -/
structure CB (w wr : World) (a1 b1 c1 : Int) (s1 : Value) (a2 b2 c2 : Int) (s2 : Value) : Prop where
  p : PBox wr w.heap.size a1 b1 c1 s1
  q : PBox wr (w.heap.size + 1) a2 b2 c2 s2
  b : Below w.heap.size w wr
theorem CB.keep {w wr w' : World} {a1 b1 c1 a2 b2 c2 : Int} {s1 s2 : Value} (h : CB w wr a1 b1 c1 s1 a2 b2 c2 s2) (hb : Below wr.heap.size wr w') : CB w w' a1 b1 c1 s1 a2 b2 c2 s2 := ⟨h.p.keep hb, h.q.keep hb, h.b.trans (hb.mono h.b.size)⟩
theorem CB.drew {w wr : World} {a1 b1 c1 a2 b2 c2 : Int} {s1 s2 : Value} (h : CB w wr a1 b1 c1 s1 a2 b2 c2 s2) (n : Nat) : CB w (wr.drewN n) a1 b1 c1 s1 a2 b2 c2 s2 := h.keep (below_drewN (Below.refl _ _) n)
theorem ediv_le {x d : Int} (h0 : 0 ≤ x) (hd : 0 < d) : 0 ≤ x / d ∧ x / d ≤ x := ⟨Int.ediv_nonneg h0 (by omega), Int.ediv_le_self _ h0⟩
def OutB (w : World) (a1 b1 c1 a2 b2 c2 : Int) (e : Ending) (w' : World) : Prop := ∃ x y z, e = .returned (.tuple #[.int .i64 x, .int .i64 y, .int .i64 z]) ∧ Com a1 b1 c1 a2 b2 c2 x y z ∧ Below w.heap.size w w'
set_option maxRecDepth 100000 in
set_option maxHeartbeats 2000000 in
theorem pcommon_any (a1 b1 c1 : Int) (s1 : Value) (a2 b2 c2 : Int) (s2 : Value) (h1 : 0 < a1) (h1' : a1 ≤ 144) (hb1 : 0 ≤ b1) (hb1' : b1 ≤ 144) (h3 : 0 < c1) (h3' : c1 ≤ 144) (h2 : 0 < a2) (h2' : a2 ≤ 144) (hb2 : 0 ≤ b2) (hb2' : b2 ≤ 144) (h4 : 0 < c2) (h4' : c2 ≤ 144) (w : World) :
    Calls Tryz.prog 73 #[.agg #[.int .i64 a1, .int .i64 b1, .int .i64 c1, s1], .agg #[.int .i64 a2, .int .i64 b2, .int .i64 c2, s2]] w (OutB w a1 b1 c1 a2 b2 c2) := by
  obtain ⟨C, B, ⟨C0, Cm, CL, LC⟩, k1, k2, ⟨B0, Bm, B1⟩, k3, k4, k5⟩ := com_prog2 (b1 := b1) (b2 := b2) h1 h2 h3 h4
  obtain ⟨ga, gb, gc, gd, ge, gf, gg, gh, -⟩ := lcmP_spec h1 h2
  obtain ⟨la, lb, lc, ld, le, lf, lg, lh, -⟩ := lcmP_spec h3 h4
  have HG1 := Lib.hid (fun w => pgcd_any a1 a2 (by omega) (by omega) (by omega) (by omega) w)
  have HG2 := Lib.hid (fun w => pgcd_any c1 c2 (by omega) (by omega) (by omega) (by omega) w)
  have hX : lcmP a1 a2 = a1 / (Int.gcd a1 a2 : Int) * a2 := rfl
  have hL : lcmP c1 c2 = c1 / (Int.gcd c1 c2 : Int) * c2 := rfl
  obtain ⟨X, hXX⟩ : ∃ X, X = lcmP a1 a2 := ⟨_, rfl⟩
  obtain ⟨L, hLL⟩ : ∃ X, X = lcmP c1 c2 := ⟨_, rfl⟩
  rw [← hXX] at hX k5 ge
  rw [← hLL] at hL CL LC k1 le
  obtain ⟨g, hg⟩ : ∃ g : Int, g = (Int.gcd a1 a2 : Int) := ⟨_, rfl⟩
  obtain ⟨g2, hg2⟩ : ∃ g : Int, g = (Int.gcd c1 c2 : Int) := ⟨_, rfl⟩
  rw [← hg] at HG1 hX k1 k2 ga gb gc gd
  rw [← hg2] at HG2 hL la lb lc ld
  obtain ⟨m1, hm1⟩ : ∃ m, a1 / g = m := ⟨_, rfl⟩
  obtain ⟨m2, hm2⟩ : ∃ m, c1 / g2 = m := ⟨_, rfl⟩
  rw [hm1] at hX gc gd
  rw [hm2] at hL lc ld
  have hXb : X ≤ 144 * 144 := by rw [hX]; exact Int.mul_le_mul (by omega) h2' (by omega) (by omega)
  have hLb : L ≤ 144 * 144 := by rw [hL]; exact Int.mul_le_mul (by omega) h4' (by omega) (by omega)
  have hcc : c1 * c2 ≤ 144 * 144 := Int.mul_le_mul h3' h4' (by omega) (by omega)
  have hCb : C ≤ 144 * (144 * 144) := Int.le_trans Cm (Int.mul_le_mul h1' hcc (by have := Int.mul_pos h3 h4; omega) (by omega))
  have hBb : B ≤ 144 + 144 * 144 := by
    have : a2 * a1 ≤ 144 * 144 := Int.mul_le_mul h2' h1' (by omega) (by omega)
    omega
  have w1 : IntKind.i64.wrap m1 = m1 := IntWalk.i64_in _ (by omega)
  have w2 : IntKind.i64.wrap (m1 * a2) = X := by rw [← hX]; exact IntWalk.i64_in _ (by omega)
  have w3 : IntKind.i64.wrap m2 = m2 := IntWalk.i64_in _ (by omega)
  have w4 : IntKind.i64.wrap (m2 * c2) = L := by rw [← hL]; exact IntWalk.i64_in _ (by omega)
  have HK := Lib.hid (And.intro k1 (And.intro k2 (And.intro k3 (And.intro k4 k5))))
  have HBm := Lib.hid Bm
  have HLS := Lib.hid (fun x hlt hx => mul_step le (x := x) (A := C) hlt hx CL)
  have e1 : (g == 0) = false := by rw [beq_eq_false_iff_ne]; omega
  have e2 : (g2 == 0) = false := by rw [beq_eq_false_iff_ne]; omega
  have e3 : ¬ g = 0 := by omega
  have e4 : ¬ g2 = 0 := by omega
  clear k1 k2 k3 k4 k5 hg hg2 hX hL hXX hLL gf gg gh lf lg lh hcc CL Cm Bm B1
  go_enter Tryz.func73, Tryz.ntmps73
  go_wp2_with fail
  obtain ⟨u0, u1, u2, u3⟩ := al2 w (.cells #[.int .i64 a1, .int .i64 b1, .int .i64 c1, s1] 24) (.cells #[.int .i64 a2, .int .i64 b2, .int .i64 c2, s2] 24)
  obtain ⟨V, hV⟩ : ∃ V, V = (w.alloc (.cells #[.int .i64 a1, .int .i64 b1, .int .i64 c1, s1] 24)).alloc (.cells #[.int .i64 a2, .int .i64 b2, .int .i64 c2, s2] 24) := ⟨_, rfl⟩
  rw [← hV] at u0 u1 u2 u3 ⊢
  have H0 := Lib.hid (show CB w V a1 b1 c1 s1 a2 b2 c2 s2 from ⟨u1, u2, u3⟩)
  clear hV u0 u1 u2 u3
  refine (HG1.out V).mono ?_
  rintro e w1' ⟨rfl, n1, rfl⟩
  have H1 := Lib.hid (H0.out.drew n1)
  obtain ⟨W1, hW1⟩ : ∃ W, W = V.drewN n1 := ⟨_, rfl⟩
  rw [← hW1] at H1 ⊢
  clear hW1 H0 HG1 V
  obtain ⟨p0, p1, p2, p3, p4⟩ := H1.out.p.cells
  obtain ⟨q0, q1, q2, q3, q4⟩ := H1.out.q.cells
  go_upto_region 2 with fail
  go_quiet (fail)
  go_upto_region 3 with fail
  generalize hgw : World.drewN W1 _ = W2
  have H2 := Lib.hid (show CB w W2 a1 b1 c1 s1 a2 b2 c2 s2 by rw [← hgw]; exact H1.out.drew _)
  clear hgw p0 p1 p2 p3 p4 q0 q1 q2 q3 q4 H1
  obtain ⟨p0, p1, p2, p3, p4⟩ := H2.out.p.cells
  obtain ⟨q0, q1, q2, q3, q4⟩ := H2.out.q.cells
  go_quiet ((go_at_call 101; exact Calls.quiet_of (HG2.out _)))
  go_upto_region 5 with fail
  generalize hgw : World.drewN W2 _ = W3
  have H3 := Lib.hid (show CB w W3 a1 b1 c1 s1 a2 b2 c2 s2 by rw [← hgw]; exact H2.out.drew _)
  clear hgw p0 p1 p2 p3 p4 q0 q1 q2 q3 q4 H2
  obtain ⟨p0, p1, p2, p3, p4⟩ := H3.out.p.cells
  obtain ⟨q0, q1, q2, q3, q4⟩ := H3.out.q.cells
  have H3 := Lib.hid (And.intro (show L % L = 0 from Int.emod_self) H3.out)
  clear p0 p1 p2 p3 p4 q0 q1 q2 q3 q4 w2 w4 w1 w3 hm1 hm2 gc gd lc ld e2 e4
  go_loopw [4, 6] (fun s t wr => ∃ c : Int, s = .int .i64 X ∧ t = .int .i64 c ∧ 0 < c ∧ c ≤ C ∧ Hid (c % L = 0 ∧ CB w wr a1 b1 c1 s1 a2 b2 c2 s2)) (fun _ t _ => (C - intOf t).toNat)
  case atStart => exact ⟨L, rfl, rfl, by omega, by omega, H3⟩
  case round =>
    clear H3
    obtain ⟨c, rfl, rfl, hc0, hcC, hr⟩ := hrel
    obtain ⟨p0, p1, p2, p3, p4⟩ := hr.out.2.p.cells
    obtain ⟨q0, q1, q2, q3, q4⟩ := hr.out.2.q.cells
    obtain ⟨x1, x2⟩ := ediv_le (x := c) (d := c1) (by omega) h3
    obtain ⟨y1, y2⟩ := ediv_le (x := c) (d := c2) (by omega) h4
    have HK1 := Lib.hid (fun hlt => HK.out.1 c hc0 hlt hr.out.1)
    have HKE := Lib.hid (show c = C → (c / c1 * b1 - c / c2 * b2) % g = 0 ∧ c / c1 * b1 % a1 ≤ B ∧ (B - c / c1 * b1 % a1) % a1 = 0 ∧ (∀ b, c / c1 * b1 % a1 ≤ b → b < B → (b - c / c1 * b1 % a1) % a1 = 0 → (b - c / c2 * b2) % a2 ≠ 0) ∧ (B - c / c2 * b2) % a2 = 0 ∧ Com a1 b1 c1 a2 b2 c2 X (B % X) c from fun e => by
      rw [e]; exact ⟨HK.out.2.1, B0, HBm.out, HK.out.2.2.1, HK.out.2.2.2.1, HK.out.2.2.2.2⟩)
    obtain ⟨d1, hd1⟩ : ∃ d, c / c1 = d := ⟨_, rfl⟩
    obtain ⟨d2, hd2⟩ : ∃ d, c / c2 = d := ⟨_, rfl⟩
    rw [hd1] at x1 x2 HK1 HKE
    rw [hd2] at y1 y2 HK1 HKE
    have hu1 := pmul_bd (q := d1) (b := b1) (B := 3000000) (M := 144) (by omega) (by omega) hb1 hb1'
    have hv1 := pmul_bd (q := d2) (b := b2) (B := 3000000) (M := 144) (by omega) (by omega) hb2 hb2'
    have hu0 : 0 ≤ d1 * b1 := Int.mul_nonneg x1 hb1
    have hv0 : 0 ≤ d2 * b2 := Int.mul_nonneg y1 hb2
    obtain ⟨u, hu⟩ : ∃ u, d1 * b1 = u := ⟨_, rfl⟩
    obtain ⟨v, hv⟩ : ∃ v, d2 * b2 = v := ⟨_, rfl⟩
    rw [hu] at hu1 hu0 HK1 HKE
    rw [hv] at hv1 hv0 HK1 HKE
    have k1 : IntKind.i64.wrap (d1 * b1) = u := by rw [hu]; exact IntWalk.i64_in _ (by omega)
    have k2 : IntKind.i64.wrap (d2 * b2) = v := by rw [hv]; exact IntWalk.i64_in _ (by omega)
    have z1 : (c1 == 0) = false := by rw [beq_eq_false_iff_ne]; omega
    have z2 : (c2 == 0) = false := by rw [beq_eq_false_iff_ne]; omega
    have z3 : ¬ c1 = 0 := by omega
    have z4 : ¬ c2 = 0 := by omega
    clear hu hv
    go_upto_region 6 with fail
    go_quiet (fail)
    generalize hgw : World.drewN wr _ = W4
    have H4 := Lib.hid (show CB w W4 a1 b1 c1 s1 a2 b2 c2 s2 by rw [← hgw]; exact hr.out.2.drew _)
    have HCL := Lib.hid hr.out.1
    clear hgw p0 p1 p2 p3 p4 q0 q1 q2 q3 q4 hr k1 k2 z1 z2 z3 z4 hd1 hd2
    obtain ⟨p0, p1, p2, p3, p4⟩ := H4.out.p.cells
    obtain ⟨q0, q1, q2, q3, q4⟩ := H4.out.q.cells
    by_cases hmz : (u - v) % g = 0
    · obtain rfl : C = c := by
        rcases Int.lt_or_le c C with h | h
        · exact absurd hmz (HK1.out h)
        · omega
      obtain ⟨-, B0', Bm', kk3, kk4, kk5⟩ := HKE.out rfl
      have t1 : ((u - v).tmod g != 0) = false := by rw [tmod_zero_iff.2 hmz]; rfl
      have HM1 := Lib.hid (fun w => pmod_any u a1 h1 (by omega) (by omega) (by omega) w)
      have HM2 := Lib.hid (fun n h0 h1 w => pmod_any n a2 h2 h0 h1 (by omega) w)
      have hr0 := Int.emod_nonneg u (show a1 ≠ 0 by omega)
      obtain ⟨r0, hr00⟩ : ∃ r, r = u % a1 := ⟨_, rfl⟩
      rw [← hr00] at HM1 B0' Bm' kk3 hr0
      have HB3 := Lib.hid (And.intro Bm' (And.intro kk3 (And.intro kk4 kk5)))
      have HST := Lib.hid (fun b hlt hm => mul_step h1 (x := b - r0) (A := B - r0) hlt hm Bm')
      clear hmz HK1 HKE Bm' kk3 kk4 kk5 hr00
      go_wp2_with fail
      refine (HM1.out W4).mono ?_
      rintro e w5 ⟨rfl, rfl⟩
      go_upto_region 9 with fail
      have H5 := H4
      clear H4 p0 p1 p2 p3 p4 q0 q1 q2 q3 q4 HM1 t1
      go_loopw [5] (fun t wq => ∃ b : Int, t = .int .i64 b ∧ r0 ≤ b ∧ b ≤ B ∧ Hid ((b - r0) % a1 = 0 ∧ CB w wq a1 b1 c1 s1 a2 b2 c2 s2)) (fun t _ => (B - intOf t).toNat)
      case atStart => exact ⟨r0, rfl, by omega, by omega, Lib.hid ⟨by rw [Int.sub_self]; exact Int.zero_emod _, H5.out⟩⟩
      case round =>
        clear H5
        obtain ⟨b, rfl, hbr, hbB, hq⟩ := hrel
        obtain ⟨p0, p1, p2, p3, p4⟩ := hq.out.2.p.cells
        obtain ⟨q0, q1, q2, q3, q4⟩ := hq.out.2.q.cells
        have HCM := Lib.hid (HM2.out (b - v) (by omega) (by omega) wr)
        have hnn := Int.emod_nonneg (b - v) (show a2 ≠ 0 by omega)
        have HBZ := Lib.hid (fun hlt => HB3.out.2.1 b hbr hlt hq.out.1)
        have HBE := Lib.hid (show b = B → (b - v) % a2 = 0 from fun e => by rw [e]; exact HB3.out.2.2.1)
        obtain ⟨t, ht⟩ : ∃ t, t = (b - v) % a2 := ⟨_, rfl⟩
        rw [← ht] at HCM HBZ HBE hnn
        clear ht
        go_wp2_with fail
        refine HCM.out.mono ?_
        rintro e w6 ⟨rfl, rfl⟩
        by_cases hbl : b < B
        · have t2 : (t != 0) = true := by rw [bne_iff_ne]; exact HBZ.out hbl
          obtain ⟨g1, g2'⟩ := HST.out b (by omega) hq.out.1
          have R2 := Lib.hid (show (b + a1 - r0) % a1 = 0 ∧ CB w wr a1 b1 c1 s1 a2 b2 c2 s2 from ⟨by rw [show b + a1 - r0 = b - r0 + a1 by omega]; exact g2', hq.out.2⟩)
          clear hq g2' HCM HBZ HBE
          go_wp2
          go_roundw
          case rel => exact ⟨b + a1, by go_num, by omega, by omega, R2⟩
          case measure => simp [intOf]; omega
        · obtain rfl : B = b := by omega
          have ht0 := HBE.out rfl
          subst ht0
          have e5 : (X == 0) = false := by rw [beq_eq_false_iff_ne]; omega
          have e6 : ¬ X = 0 := by omega
          have HF := Lib.hid (And.intro HB3.out.2.2.2 hq.out.2.b)
          have y0' := Int.emod_nonneg B (show X ≠ 0 by omega)
          have y1' := Int.emod_lt_of_pos B (show 0 < X by omega)
          obtain ⟨yy, hyy⟩ : ∃ y, B % X = y := ⟨_, rfl⟩
          have hyt : B.tmod X = yy := by rw [Int.tmod_eq_emod_of_nonneg (by omega), hyy]
          rw [hyy] at HF y0' y1'
          have kyy : IntKind.i64.wrap yy = yy := IntWalk.i64_in _ (by omega)
          clear hq HCM HBZ HBE hbl
          go_wp2
          go_quiet (fail)
          go_wp2
          go_ret3
          exact ⟨_, _, _, rfl, HF.out.1, below_drewN HF.out.2 _⟩
    · have t1 : ((u - v).tmod g != 0) = true := by rw [bne_iff_ne]; exact fun h => hmz (tmod_zero_iff.1 h)
      have hlt : c < C := by
        rcases Int.lt_or_le c C with h | h
        · exact h
        · exact absurd ((HKE.out (by omega)).1) hmz
      obtain ⟨g1, g2'⟩ := HLS.out c hlt HCL.out
      have R2 := Lib.hid (And.intro g2' H4.out)
      clear hmz HK1 HKE g2' H4 HCL
      go_wp2
      go_roundw
      case rel => exact ⟨c + L, rfl, by go_num, by omega, g1, R2⟩
      case measure => simp [intOf]; omega
end Go.Proofs.YtgmokojdlbdjeaaGreatDoor
