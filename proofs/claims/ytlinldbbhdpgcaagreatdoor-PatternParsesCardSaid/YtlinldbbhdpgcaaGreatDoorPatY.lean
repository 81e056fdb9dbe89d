/-
  THE PROGRAM: gcd, common.
-/
import Derived.Test.YtlinldbbhdpgcaaGreatDoorPatW
import Derived.Test.YtlinldbbhdpgcaaGreatDoorPrfK
import Derived.Test.YtlinldbbhdpgcaaGreatDoorComP
namespace Go.Proofs.YtlinldbbhdpgcaaGreatDoor
open Go.RowKit
theorem pgcd_nat (a b : Nat) (ha : a ≤ 1000000000) (hb : b ≤ 1000000000) (w : World) :
    Calls Tryz.prog 71 #[.int .i64 a, .int .i64 b] w fun e w' => e = .returned (.int .i64 (Nat.gcd a b : Nat)) ∧ ∃ m, w' = w.drewN m := by
  go_enter Tryz.func71, Tryz.ntmps71
  go_wp2
  go_loopw [0, 1] (fun u v wr => ∃ x y m : Nat, u = .int .i64 x ∧ v = .int .i64 y ∧ wr = w.drewN m ∧ x ≤ 1000000000 ∧ y ≤ 1000000000 ∧ Hid (Nat.gcd x y = Nat.gcd a b)) (fun _ v _ => (intOf v).toNat)
  case atStart => exact ⟨a, b, 0, rfl, rfl, rfl, by omega, by omega, rfl⟩
  case round =>
    obtain ⟨x, y, m, rfl, rfl, rfl, hx, hy, hg⟩ := hrel
    by_cases h0 : y = 0
    · subst h0
      have e0 : ((0 : Int) != 0) = false := rfl
      go_wp2
      go_ret
      exact ⟨by rw [← hg.out, Nat.gcd_zero_right] <;> rfl, m, rfl⟩
    · have e0 : ((y : Int) != 0) = true := by rw [bne_iff_ne]; omega
      have e1 : ¬ (y : Int) = 0 := by omega
      go_wp2
      go_quiet (fail)
      go_wp2
      go_roundw
      case rel => exact ⟨y, x % y, _, rfl, rfl, World.drewN_drewN _ _ _, hy, by have := Nat.mod_lt x (show y > 0 by omega); omega, by rw [Nat.gcd_comm x y, Nat.gcd_rec y x, Nat.gcd_comm] at hg; exact hg.out⟩
      case measure => have := Nat.mod_lt x (show y > 0 by omega); simp [intOf]; omega
theorem pgcd_any (a b : Int) (a0 : 0 ≤ a) (ha : a ≤ 1000000000) (b0 : 0 ≤ b) (hb : b ≤ 1000000000) (w : World) :
    Calls Tryz.prog 71 #[.int .i64 a, .int .i64 b] w fun e w' => e = .returned (.int .i64 (Int.gcd a b : Nat)) ∧ ∃ m, w' = w.drewN m := by
  obtain ⟨x, rfl⟩ := Int.eq_ofNat_of_zero_le a0
  obtain ⟨y, rfl⟩ := Int.eq_ofNat_of_zero_le b0
  exact pgcd_nat x y (by omega) (by omega) w
/-- The boxes of common. -/
structure CB (w wr : World) (a1 b1 c1 : Int) (s1 : Value) (a2 b2 c2 : Int) (s2 : Value) : Prop where
  p : PBox wr w.heap.size a1 b1 c1 s1
  q : PBox wr (w.heap.size + 1) a2 b2 c2 s2
  b : Below w.heap.size w wr
theorem CB.keep {w wr w' : World} {a1 b1 c1 a2 b2 c2 : Int} {s1 s2 : Value} (h : CB w wr a1 b1 c1 s1 a2 b2 c2 s2) (hb : Below wr.heap.size wr w') : CB w w' a1 b1 c1 s1 a2 b2 c2 s2 := ⟨h.p.keep hb, h.q.keep hb, h.b.trans (hb.mono h.b.size)⟩
theorem CB.drew {w wr : World} {a1 b1 c1 a2 b2 c2 : Int} {s1 s2 : Value} (h : CB w wr a1 b1 c1 s1 a2 b2 c2 s2) (n : Nat) : CB w (wr.drewN n) a1 b1 c1 s1 a2 b2 c2 s2 := h.keep (below_drewN (Below.refl _ _) n)
theorem ediv_le {x d : Int} (h0 : 0 ≤ x) (hd : 0 < d) : 0 ≤ x / d ∧ x / d ≤ x := ⟨Int.ediv_nonneg h0 (by omega), Int.ediv_le_self _ h0⟩
def OutB (w : World) (a1 b1 c1 a2 b2 c2 : Int) (e : Ending) (w' : World) : Prop := ∃ x y z, e = .returned (.tuple #[.int .i64 x, .int .i64 y, .int .i64 z]) ∧ Com a1 b1 c1 a2 b2 c2 x y z ∧ Below w.heap.size w w'
set_option maxRecDepth 100000 in
set_option maxHeartbeats 2000000 in
theorem pcommon_any (a1 b1 c1 : Int) (s1 : Value) (a2 b2 c2 : Int) (s2 : Value) (h1 : 0 < a1) (h1' : a1 ≤ 144) (hb1 : 0 ≤ b1) (hb1' : b1 ≤ 144) (h3 : 0 < c1) (h3' : c1 ≤ 144) (h2 : 0 < a2) (h2' : a2 ≤ 144) (hb2 : 0 ≤ b2) (hb2' : b2 ≤ 144) (h4 : 0 < c2) (h4' : c2 ≤ 144) (w : World) :
    Calls Tryz.prog 39 #[.agg #[.int .i64 a1, .int .i64 b1, .int .i64 c1, s1], .agg #[.int .i64 a2, .int .i64 b2, .int .i64 c2, s2]] w (OutB w a1 b1 c1 a2 b2 c2) := by
  obtain ⟨C, B, ⟨C0, Cm, CL, LC⟩, k1, k2, ⟨B0, Bm, B1⟩, k3, k4, k5⟩ := com_prog2 (b1 := b1) (b2 := b2) h1 h2 h3 h4
  obtain ⟨ga, gb, gc, gd, ge, gf, gg, gh, -⟩ := lcmP_spec h1 h2
  obtain ⟨la, lb, lc, ld, le, lf, lg, lh, -⟩ := lcmP_spec h3 h4
  have HG1 := Lib.hid (fun w => pgcd_any a1 a2 (by omega) (by omega) (by omega) (by omega) w)
  have HG2 := Lib.hid (fun w => pgcd_any c1 c2 (by omega) (by omega) (by omega) (by omega) w)
  have hX : lcmP a1 a2 = a1 / (Int.gcd a1 a2 : Int) * a2 := rfl
  have hL : lcmP c1 c2 = c1 / (Int.gcd c1 c2 : Int) * c2 := rfl
  obtain ⟨X, hXX⟩ : ∃ X, X = lcmP a1 a2 := ⟨_, rfl⟩
  obtain ⟨L, hLL⟩ : ∃ X, X = lcmP c1 c2 := ⟨_, rfl⟩
  rw [← hXX] at hX k5 ge
  rw [← hLL] at hL CL LC k1 le
  obtain ⟨g, hg⟩ : ∃ g : Int, g = (Int.gcd a1 a2 : Int) := ⟨_, rfl⟩
  obtain ⟨g2, hg2⟩ : ∃ g : Int, g = (Int.gcd c1 c2 : Int) := ⟨_, rfl⟩
  rw [← hg] at HG1 hX k1 k2 ga gb gc gd
  rw [← hg2] at HG2 hL la lb lc ld
  obtain ⟨m1, hm1⟩ : ∃ m, a1 / g = m := ⟨_, rfl⟩
  obtain ⟨m2, hm2⟩ : ∃ m, c1 / g2 = m := ⟨_, rfl⟩
  rw [hm1] at hX gc gd
  rw [hm2] at hL lc ld
  have hXb : X ≤ 144 * 144 := by rw [hX]; exact Int.mul_le_mul (by omega) h2' (by omega) (by omega)
  have hLb : L ≤ 144 * 144 := by rw [hL]; exact Int.mul_le_mul (by omega) h4' (by omega) (by omega)
  have hcc : c1 * c2 ≤ 144 * 144 := Int.mul_le_mul h3' h4' (by omega) (by omega)
  have hCb : C ≤ 144 * (144 * 144) := Int.le_trans Cm (Int.mul_le_mul h1' hcc (by have := Int.mul_pos h3 h4; omega) (by omega))
  have hBb : B ≤ 144 + 144 * 144 := by
    have : a2 * a1 ≤ 144 * 144 := Int.mul_le_mul h2' h1' (by omega) (by omega)
    omega
  have w1 : IntKind.i64.wrap m1 = m1 := IntWalk.i64_in _ (by omega)
  have w2 : IntKind.i64.wrap (m1 * a2) = X := by rw [← hX]; exact IntWalk.i64_in _ (by omega)
  have w3 : IntKind.i64.wrap m2 = m2 := IntWalk.i64_in _ (by omega)
  have w4 : IntKind.i64.wrap (m2 * c2) = L := by rw [← hL]; exact IntWalk.i64_in _ (by omega)
  have HK := Lib.hid (And.intro k1 (And.intro k2 (And.intro k3 (And.intro k4 k5))))
  have HBm := Lib.hid Bm
  have HLS := Lib.hid (fun x hlt hx => mul_step le (x := x) (A := C) hlt hx CL)
  have e1 : (g == 0) = false := by rw [beq_eq_false_iff_ne]; omega
  have e2 : (g2 == 0) = false := by rw [beq_eq_false_iff_ne]; omega
  have e3 : ¬ g = 0 := by omega
  have e4 : ¬ g2 = 0 := by omega
  clear k1 k2 k3 k4 k5 hg hg2 hX hL hXX hLL gf gg gh lf lg lh hcc CL Cm Bm B1
  go_enter Tryz.func39, Tryz.ntmps39
  go_wp2_with fail
  obtain ⟨u0, u1, u2, u3⟩ := al2 w (.cells #[.int .i64 a1, .int .i64 b1, .int .i64 c1, s1] 24) (.cells #[.int .i64 a2, .int .i64 b2, .int .i64 c2, s2] 24)
  obtain ⟨V, hV⟩ : ∃ V, V = (w.alloc (.cells #[.int .i64 a1, .int .i64 b1, .int .i64 c1, s1] 24)).alloc (.cells #[.int .i64 a2, .int .i64 b2, .int .i64 c2, s2] 24) := ⟨_, rfl⟩
  rw [← hV] at u0 u1 u2 u3 ⊢
  have H0 := Lib.hid (show CB w V a1 b1 c1 s1 a2 b2 c2 s2 from ⟨u1, u2, u3⟩)
  clear hV u0 u1 u2 u3
  refine (HG1.out V).mono ?_
  rintro e w1' ⟨rfl, n1, rfl⟩
  have H1 := Lib.hid (H0.out.drew n1)
  obtain ⟨W1, hW1⟩ : ∃ W, W = V.drewN n1 := ⟨_, rfl⟩
  rw [← hW1] at H1 ⊢
  clear hW1 H0 HG1 V
  obtain ⟨p0, p1, p2, p3, p4⟩ := H1.out.p.cells
  obtain ⟨q0, q1, q2, q3, q4⟩ := H1.out.q.cells
  go_upto_region 2 with fail
  go_quiet (fail)
  go_upto_region 3 with fail
  generalize hgw : World.drewN W1 _ = W2
  have H2 := Lib.hid (show CB w W2 a1 b1 c1 s1 a2 b2 c2 s2 by rw [← hgw]; exact H1.out.drew _)
  clear hgw p0 p1 p2 p3 p4 q0 q1 q2 q3 q4 H1
  obtain ⟨p0, p1, p2, p3, p4⟩ := H2.out.p.cells
  obtain ⟨q0, q1, q2, q3, q4⟩ := H2.out.q.cells
  go_quiet ((go_at_call 71; exact Calls.quiet_of (HG2.out _)))
  go_upto_region 5 with fail
  generalize hgw : World.drewN W2 _ = W3
  have H3 := Lib.hid (show CB w W3 a1 b1 c1 s1 a2 b2 c2 s2 by rw [← hgw]; exact H2.out.drew _)
  clear hgw p0 p1 p2 p3 p4 q0 q1 q2 q3 q4 H2
  obtain ⟨p0, p1, p2, p3, p4⟩ := H3.out.p.cells
  obtain ⟨q0, q1, q2, q3, q4⟩ := H3.out.q.cells
  have H3 := Lib.hid (And.intro (show L % L = 0 from Int.emod_self) H3.out)
  clear p0 p1 p2 p3 p4 q0 q1 q2 q3 q4 w2 w4 w1 w3 hm1 hm2 gc gd lc ld e2 e4
  go_loopw [4, 6] (fun s t wr => ∃ c : Int, s = .int .i64 X ∧ t = .int .i64 c ∧ 0 < c ∧ c ≤ C ∧ Hid (c % L = 0 ∧ CB w wr a1 b1 c1 s1 a2 b2 c2 s2)) (fun _ t _ => (C - intOf t).toNat)
  case atStart => exact ⟨L, rfl, rfl, by omega, by omega, H3⟩
  case round =>
    clear H3
    obtain ⟨c, rfl, rfl, hc0, hcC, hr⟩ := hrel
    obtain ⟨p0, p1, p2, p3, p4⟩ := hr.out.2.p.cells
    obtain ⟨q0, q1, q2, q3, q4⟩ := hr.out.2.q.cells
    obtain ⟨x1, x2⟩ := ediv_le (x := c) (d := c1) (by omega) h3
    obtain ⟨y1, y2⟩ := ediv_le (x := c) (d := c2) (by omega) h4
    have HK1 := Lib.hid (fun hlt => HK.out.1 c hc0 hlt hr.out.1)
    have HKE := Lib.hid (show c = C → (c / c1 * b1 - c / c2 * b2) % g = 0 ∧ c / c1 * b1 % a1 ≤ B ∧ (B - c / c1 * b1 % a1) % a1 = 0 ∧ (∀ b, c / c1 * b1 % a1 ≤ b → b < B → (b - c / c1 * b1 % a1) % a1 = 0 → (b - c / c2 * b2) % a2 ≠ 0) ∧ (B - c / c2 * b2) % a2 = 0 ∧ Com a1 b1 c1 a2 b2 c2 X (B % X) c from fun e => by
      rw [e]; exact ⟨HK.out.2.1, B0, HBm.out, HK.out.2.2.1, HK.out.2.2.2.1, HK.out.2.2.2.2⟩)
    obtain ⟨d1, hd1⟩ : ∃ d, c / c1 = d := ⟨_, rfl⟩
    obtain ⟨d2, hd2⟩ : ∃ d, c / c2 = d := ⟨_, rfl⟩
    rw [hd1] at x1 x2 HK1 HKE
    rw [hd2] at y1 y2 HK1 HKE
    have hu1 := pmul_bd (q := d1) (b := b1) (B := 3000000) (M := 144) (by omega) (by omega) hb1 hb1'
    have hv1 := pmul_bd (q := d2) (b := b2) (B := 3000000) (M := 144) (by omega) (by omega) hb2 hb2'
    have hu0 : 0 ≤ d1 * b1 := Int.mul_nonneg x1 hb1
    have hv0 : 0 ≤ d2 * b2 := Int.mul_nonneg y1 hb2
    obtain ⟨u, hu⟩ : ∃ u, d1 * b1 = u := ⟨_, rfl⟩
    obtain ⟨v, hv⟩ : ∃ v, d2 * b2 = v := ⟨_, rfl⟩
    rw [hu] at hu1 hu0 HK1 HKE
    rw [hv] at hv1 hv0 HK1 HKE
    have k1 : IntKind.i64.wrap (d1 * b1) = u := by rw [hu]; exact IntWalk.i64_in _ (by omega)
    have k2 : IntKind.i64.wrap (d2 * b2) = v := by rw [hv]; exact IntWalk.i64_in _ (by omega)
    have z1 : (c1 == 0) = false := by rw [beq_eq_false_iff_ne]; omega
    have z2 : (c2 == 0) = false := by rw [beq_eq_false_iff_ne]; omega
    have z3 : ¬ c1 = 0 := by omega
    have z4 : ¬ c2 = 0 := by omega
    clear hu hv
    go_upto_region 6 with fail
    go_quiet (fail)
    generalize hgw : World.drewN wr _ = W4
    have H4 := Lib.hid (show CB w W4 a1 b1 c1 s1 a2 b2 c2 s2 by rw [← hgw]; exact hr.out.2.drew _)
    have HCL := Lib.hid hr.out.1
    clear hgw p0 p1 p2 p3 p4 q0 q1 q2 q3 q4 hr k1 k2 z1 z2 z3 z4 hd1 hd2
    obtain ⟨p0, p1, p2, p3, p4⟩ := H4.out.p.cells
    obtain ⟨q0, q1, q2, q3, q4⟩ := H4.out.q.cells
    by_cases hmz : (u - v) % g = 0
    · obtain rfl : C = c := by
        rcases Int.lt_or_le c C with h | h
        · exact absurd hmz (HK1.out h)
        · omega
      obtain ⟨-, B0', Bm', kk3, kk4, kk5⟩ := HKE.out rfl
      have t1 : ((u - v).tmod g != 0) = false := by rw [tmod_zero_iff.2 hmz]; rfl
      have HM1 := Lib.hid (fun w => pmod_any u a1 h1 (by omega) (by omega) (by omega) w)
      have HM2 := Lib.hid (fun n h0 h1 w => pmod_any n a2 h2 h0 h1 (by omega) w)
      have hr0 := Int.emod_nonneg u (show a1 ≠ 0 by omega)
      obtain ⟨r0, hr00⟩ : ∃ r, r = u % a1 := ⟨_, rfl⟩
      rw [← hr00] at HM1 B0' Bm' kk3 hr0
      have HB3 := Lib.hid (And.intro Bm' (And.intro kk3 (And.intro kk4 kk5)))
      have HST := Lib.hid (fun b hlt hm => mul_step h1 (x := b - r0) (A := B - r0) hlt hm Bm')
      clear hmz HK1 HKE Bm' kk3 kk4 kk5 hr00
      go_wp2_with fail
      refine (HM1.out W4).mono ?_
      rintro e w5 ⟨rfl, rfl⟩
      go_upto_region 9 with fail
      have H5 := H4
      clear H4 p0 p1 p2 p3 p4 q0 q1 q2 q3 q4 HM1 t1
      go_loopw [5] (fun t wq => ∃ b : Int, t = .int .i64 b ∧ r0 ≤ b ∧ b ≤ B ∧ Hid ((b - r0) % a1 = 0 ∧ CB w wq a1 b1 c1 s1 a2 b2 c2 s2)) (fun t _ => (B - intOf t).toNat)
      case atStart => exact ⟨r0, rfl, by omega, by omega, Lib.hid ⟨by rw [Int.sub_self]; exact Int.zero_emod _, H5.out⟩⟩
      case round =>
        clear H5
        obtain ⟨b, rfl, hbr, hbB, hq⟩ := hrel
        obtain ⟨p0, p1, p2, p3, p4⟩ := hq.out.2.p.cells
        obtain ⟨q0, q1, q2, q3, q4⟩ := hq.out.2.q.cells
        have HCM := Lib.hid (HM2.out (b - v) (by omega) (by omega) wr)
        have hnn := Int.emod_nonneg (b - v) (show a2 ≠ 0 by omega)
        have HBZ := Lib.hid (fun hlt => HB3.out.2.1 b hbr hlt hq.out.1)
        have HBE := Lib.hid (show b = B → (b - v) % a2 = 0 from fun e => by rw [e]; exact HB3.out.2.2.1)
        obtain ⟨t, ht⟩ : ∃ t, t = (b - v) % a2 := ⟨_, rfl⟩
        rw [← ht] at HCM HBZ HBE hnn
        clear ht
        go_wp2_with fail
        refine HCM.out.mono ?_
        rintro e w6 ⟨rfl, rfl⟩
        by_cases hbl : b < B
        · have t2 : (t != 0) = true := by rw [bne_iff_ne]; exact HBZ.out hbl
          obtain ⟨g1, g2'⟩ := HST.out b (by omega) hq.out.1
          have R2 := Lib.hid (show (b + a1 - r0) % a1 = 0 ∧ CB w wr a1 b1 c1 s1 a2 b2 c2 s2 from ⟨by rw [show b + a1 - r0 = b - r0 + a1 by omega]; exact g2', hq.out.2⟩)
          clear hq g2' HCM HBZ HBE
          go_wp2
          go_roundw
          case rel => exact ⟨b + a1, by go_num, by omega, by omega, R2⟩
          case measure => simp [intOf]; omega
        · obtain rfl : B = b := by omega
          have ht0 := HBE.out rfl
          subst ht0
          have e5 : (X == 0) = false := by rw [beq_eq_false_iff_ne]; omega
          have e6 : ¬ X = 0 := by omega
          have HF := Lib.hid (And.intro HB3.out.2.2.2 hq.out.2.b)
          have y0' := Int.emod_nonneg B (show X ≠ 0 by omega)
          have y1' := Int.emod_lt_of_pos B (show 0 < X by omega)
          obtain ⟨yy, hyy⟩ : ∃ y, B % X = y := ⟨_, rfl⟩
          have hyt : B.tmod X = yy := by rw [Int.tmod_eq_emod_of_nonneg (by omega), hyy]
          rw [hyy] at HF y0' y1'
          have kyy : IntKind.i64.wrap yy = yy := IntWalk.i64_in _ (by omega)
          clear hq HCM HBZ HBE hbl
          go_wp2
          go_quiet (fail)
          go_wp2
          go_ret3
          exact ⟨_, _, _, rfl, HF.out.1, below_drewN HF.out.2 _⟩
    · have t1 : ((u - v).tmod g != 0) = true := by rw [bne_iff_ne]; exact fun h => hmz (tmod_zero_iff.1 h)
      have hlt : c < C := by
        rcases Int.lt_or_le c C with h | h
        · exact h
        · exact absurd ((HKE.out (by omega)).1) hmz
      obtain ⟨g1, g2'⟩ := HLS.out c hlt HCL.out
      have R2 := Lib.hid (And.intro g2' H4.out)
      clear hmz HK1 HKE g2' H4 HCL
      go_wp2
      go_roundw
      case rel => exact ⟨c + L, rfl, by go_num, by omega, g1, R2⟩
      case measure => simp [intOf]; omega
end Go.Proofs.YtlinldbbhdpgcaaGreatDoor
/-
  THE PROGRAM: Over.
-/
namespace Go.Proofs.YtlinldbbhdpgcaaGreatDoor
open Go.RowKit
set_option maxRecDepth 100000 in
theorem over_fun (w : World) (bx by' : Nat) (p q : PatD) (A : Option Addr) (k : Nat) (B : Option Addr) (m : Nat) (h : PBox w bx p.a p.b p.c (.slice A p.xs.length k)) (h2 : PBox w by' q.a q.b q.c (.slice B q.xs.length m)) (hp : PatOK p) (hq : PatOK q) (hi : PatIn w p A) (hj : PatIn w q B) :
    FunV w (.func (.func 40) #[] #[.pointer (some ⟨bx, 0, none⟩), .pointer (some ⟨by', 0, none⟩)]) (overF (colF p) (colF q)) 50000000 := by
  refine ⟨_, _, rfl, fun args w' => ?_, fun w' hb x y h0 h3 h4 h5 => ?_⟩
  · go_simp
  · obtain ⟨q0, q1, q2, q3, q4⟩ := (h.keep hb).cells
    have HC := Lib.hid (pcolor_any p hp A p.xs.length k x y (by omega) (by omega) (by omega) (by omega) w' (hi.below hb))
    have HD := Lib.hid (fun w2 hx => pcolor_any q hq B q.xs.length m x y (by omega) (by omega) (by omega) (by omega) w2 hx)
    have HB := Lib.hid (And.intro (h2.keep hb) (hj.below hb))
    obtain ⟨z1, hz1⟩ : ∃ z, z = colF p x y := ⟨_, rfl⟩
    obtain ⟨z2, hz2⟩ : ∃ z, z = colF q x y := ⟨_, rfl⟩
    have HZ := Lib.hid (show overF (colF p) (colF q) x y = if z1 ≠ 0 then z1 else z2 by rw [hz1, hz2]; rfl)
    rw [← hz1] at HC
    rw [← hz2] at HD
    clear h hi hb hp hz1 hz2 h2 hj hq
    show Calls Tryz.prog 40 #[.int .i64 x, .int .i64 y, .pointer (some ⟨bx, 0, none⟩), .pointer (some ⟨by', 0, none⟩)] w' _
    go_enter Tryz.func40, Tryz.ntmps40
    go_wp2_with fail
    refine HC.out.mono ?_
    rintro e w2 ⟨rfl, hb2⟩
    have H2 := Lib.hid (And.intro (HB.out.1.keep hb2) (And.intro (HB.out.2.below hb2) hb2))
    clear hb2 HB HC q0 q1 q2 q3 q4
    by_cases hz : z1 = 0
    · subst hz
      have HZ2 := Lib.hid (show overF (colF p) (colF q) x y = z2 by rw [HZ.out, if_neg (by simp)])
      obtain ⟨q0, q1, q2, q3, q4⟩ := H2.out.1.cells
      clear HZ
      go_wp2_with fail
      refine (HD.out w2 H2.out.2.1).mono ?_
      rintro e w3 ⟨rfl, hb3⟩
      have H3 := Lib.hid (H2.out.2.2.trans (hb3.mono H2.out.2.2.size))
      clear hb3 H2 HD q0 q1 q2 q3 q4
      go_wp2
      go_ret
      exact ⟨by rw [HZ2.out] <;> rfl, H3.out⟩
    · have d1 : (z1 != 0) = true := by rw [bne_iff_ne]; exact hz
      have HZ2 := Lib.hid (show overF (colF p) (colF q) x y = z1 by rw [HZ.out, if_pos hz])
      clear hz HZ
      go_wp2
      go_ret
      exact ⟨by rw [HZ2.out] <;> rfl, H2.out.2.2⟩
noncomputable def oveT (p q : PatD) : PatD := if twoZ p q ≠ 0 then zeroP else resT (overF (colF p) (colF q))
noncomputable def oveZ (p q : PatD) : Int := if twoZ p q ≠ 0 then twoZ p q else resZ (overF (colF p) (colF q))
theorem com_bd {p q : PatD} (h1 : GoodP p) (h2 : GoodP q) {x y z : Int} (hc : Com p.a p.b p.c q.a q.b q.c x y z) : x * z ≤ 144 * 144 ∧ x ≤ 20736 ∧ z ≤ 20736 ∧ y ≤ 20736 := by
  have h := hc.sz
  have e : p.a * q.a * (p.c * q.c) = (p.a * p.c) * (q.a * q.c) := by ac_rfl
  rw [e] at h
  have h3 : (p.a * p.c) * (q.a * q.c) ≤ 144 * 144 := Int.mul_le_mul h1.ac h2.ac (by have := Int.mul_pos h2.a0 h2.c0; omega) (by omega)
  have hx := hc.pa
  have hz := hc.pc
  have hb := hc.lb
  have l1 : x * 1 ≤ x * z := Int.mul_le_mul_of_nonneg_left (by omega) (by omega)
  have l2 : 1 * z ≤ x * z := Int.mul_le_mul_of_nonneg_right (by omega) (by omega)
  exact ⟨by omega, by omega, by omega, by omega⟩
set_option maxRecDepth 100000 in
set_option maxHeartbeats 2000000 in
theorem pover_any (p q : PatD) (hl : p.xs.length ≤ 1000000) (hl2 : q.xs.length ≤ 1000000) (A : Option Addr) (k : Nat) (D : Option Addr) (m : Nat) (w : World) (hi : PatIn w p A) (hq : PatIn w q D) :
    Calls Tryz.prog 12 #[.agg #[.int .i64 p.a, .int .i64 p.b, .int .i64 p.c, .slice A p.xs.length k], .agg #[.int .i64 q.a, .int .i64 q.b, .int .i64 q.c, .slice D q.xs.length m]] w (OutP w (oveT p q) (.int .i64 (oveZ p q))) := by
  have HC := Lib.hid (fun w hi hq => two_any p q hl hl2 A k D m w hi hq)
  obtain ⟨R, hR⟩ : ∃ T, T = oveT p q := ⟨_, rfl⟩
  obtain ⟨Y, hY⟩ : ∃ T, T = oveZ p q := ⟨_, rfl⟩
  rw [← hR, ← hY]
  unfold oveT at hR
  unfold oveZ at hY
  obtain ⟨T, hT⟩ : ∃ T, T = twoT p q := ⟨_, rfl⟩
  have hz0 := fun h => twoZ_zero (p := p) (q := q) h
  have hTu : twoZ p q = 0 → T = (lst (colF p), lst (colF q)) := fun h => by rw [hT]; unfold twoT; rw [if_neg (by simp [h])]
  obtain ⟨Z, hZ⟩ : ∃ Z, Z = twoZ p q := ⟨_, rfl⟩
  rw [← hZ] at HC hz0 hTu hR hY
  rw [← hT] at HC
  have HI := Lib.hid (And.intro hi hq)
  have H01 := Lib.hid (And.intro hz0 (And.intro hTu (And.intro hR hY)))
  have hmf : ∀ (fn : Fn) (first cap : Array Value) (w : World), (Instr.makeFunc fn first cap).run Tryz.prog w = .ok (.func fn first cap) w := fun _ _ _ _ => rfl
  clear hi hq hz0 hTu hT hZ hR hY
  go_enter Tryz.func12, Tryz.ntmps12
  go_wp2_with fail
  obtain ⟨a0, a1, a2, a3, a4⟩ := al3 w (.cells #[.int .i64 p.a, .int .i64 p.b, .int .i64 p.c, .slice A p.xs.length k] 24) (.cells #[.int .i64 q.a, .int .i64 q.b, .int .i64 q.c, .slice D q.xs.length m] 24) (.cells #[.int .i64 0, .int .i64 0, .int .i64 0, .slice none 0 0] 24)
  obtain ⟨V, hV⟩ : ∃ V, V = ((w.alloc (.cells #[.int .i64 p.a, .int .i64 p.b, .int .i64 p.c, .slice A p.xs.length k] 24)).alloc (.cells #[.int .i64 q.a, .int .i64 q.b, .int .i64 q.c, .slice D q.xs.length m] 24)).alloc (.cells #[.int .i64 0, .int .i64 0, .int .i64 0, .slice none 0 0] 24) := ⟨_, rfl⟩
  rw [← hV] at a0 a1 a2 a3 a4 ⊢
  have HV := Lib.hid (show PBox V (w.heap.size + 1 + 1) 0 0 0 (.slice none 0 0) ∧ Below w.heap.size w V from ⟨a3, a4⟩)
  refine (HC.out V (HI.out.1.below a4) (HI.out.2.below a4)).mono ?_
  clear hV a0 a1 a2 a3 a4
  rintro e w1 ⟨A1, k1, A2, k2, rfl, i1, i2, hb1, -⟩
  obtain ⟨t1, t2⟩ := T
  simp only at i1 i2 ⊢
  have H1 := Lib.hid (And.intro i1 (And.intro i2 (And.intro (HV.out.1.keep hb1) (HV.out.2.trans (hb1.mono HV.out.2.size)))))
  clear i1 i2 hb1 HC HV HI
  by_cases hz : Z = 0
  · subst hz
    obtain ⟨hv1, hv2⟩ := H01.out.1 rfl
    have hTu := H01.out.2.1 rfl
    have hR := H01.out.2.2.1
    have hY := H01.out.2.2.2
    rw [if_neg (by simp)] at hR hY
    simp only [Prod.mk.injEq] at hTu
    have g1 : GoodP t1 := by rw [hTu.1]; exact lst_good hv1
    have g2 : GoodP t2 := by rw [hTu.2]; exact lst_good hv2
    have e1 : colF t1 = colF p := by rw [hTu.1]; exact (lst_pat hv1).lst_col
    have e2 : colF t2 = colF q := by rw [hTu.2]; exact (lst_pat hv2).lst_col
    rw [← e1, ← e2] at hR hY
    have HCO := Lib.hid (fun s1 s2 w => pcommon_any t1.a t1.b t1.c s1 t2.a t2.b t2.c s2 g1.a0 g1.a1 g1.b0 (by have := g1.b1; have := g1.a1; omega) g1.c0 g1.c1 g2.a0 g2.a1 g2.b0 (by have := g2.b1; have := g2.a1; omega) g2.c0 g2.c1 w)
    have HG := Lib.hid (And.intro g1 (And.intro g2 (And.intro hR hY)))
    obtain ⟨l1, hl1⟩ : ∃ l, l = t1.xs.length := ⟨_, rfl⟩
    obtain ⟨l2, hl2'⟩ : ∃ l, l = t2.xs.length := ⟨_, rfl⟩
    have HL1 := Lib.hid hl1
    have HL2 := Lib.hid hl2'
    rw [← hl1, ← hl2']
    clear hv1 hv2 hTu hR hY g1 g2 e1 e2 H01 hl1 hl2'
    go_wp2_with fail
    obtain ⟨u0, u1, u2, u3⟩ := al2 w1 (.cells #[.int .i64 t1.a, .int .i64 t1.b, .int .i64 t1.c, .slice A1 l1 k1] 24) (.cells #[.int .i64 t2.a, .int .i64 t2.b, .int .i64 t2.c, .slice A2 l2 k2] 24)
    obtain ⟨V2, hV2⟩ : ∃ V, V = (w1.alloc (.cells #[.int .i64 t1.a, .int .i64 t1.b, .int .i64 t1.c, .slice A1 l1 k1] 24)).alloc (.cells #[.int .i64 t2.a, .int .i64 t2.b, .int .i64 t2.c, .slice A2 l2 k2] 24) := ⟨_, rfl⟩
    rw [← hV2] at u0 u1 u2 u3 ⊢
    have H2 := Lib.hid (show PBox V2 w1.heap.size t1.a t1.b t1.c (.slice A1 l1 k1) ∧ PBox V2 (w1.heap.size + 1) t2.a t2.b t2.c (.slice A2 l2 k2) ∧ PatIn V2 t1 A1 ∧ PatIn V2 t2 A2 ∧ PBox V2 (w.heap.size + 1 + 1) 0 0 0 (.slice none 0 0) ∧ Below w.heap.size w V2 from
      ⟨u1, u2, H1.out.1.below u3, H1.out.2.1.below u3, H1.out.2.2.1.keep u3, H1.out.2.2.2.trans (u3.mono H1.out.2.2.2.size)⟩)
    obtain ⟨bx, hbx⟩ : ∃ b, b = w1.heap.size := ⟨_, rfl⟩
    rw [← hbx] at H2 ⊢
    clear hV2 u0 u1 u2 u3 H1 hbx
    refine (HCO.out _ _ V2).mono ?_
    rintro e w3 ⟨x, y, z, rfl, hc, hb3⟩
    obtain ⟨b1, b2, b3, b4⟩ := com_bd HG.out.1 HG.out.2.1 hc
    have hbase := hc.base (col_base HG.out.1.ok) (col_base HG.out.2.1.ok)
    have hbo := hbase.1.over hbase.2
    have H3 := Lib.hid (show PBox w3 bx t1.a t1.b t1.c (.slice A1 l1 k1) ∧ PBox w3 (bx + 1) t2.a t2.b t2.c (.slice A2 l2 k2) ∧ PatIn w3 t1 A1 ∧ PatIn w3 t2 A2 ∧ PBox w3 (w.heap.size + 1 + 1) 0 0 0 (.slice none 0 0) ∧ Below w.heap.size w w3 from
      ⟨H2.out.1.keep hb3, H2.out.2.1.keep hb3, H2.out.2.2.1.below hb3, H2.out.2.2.2.1.below hb3, H2.out.2.2.2.2.1.keep hb3, H2.out.2.2.2.2.2.trans (hb3.mono H2.out.2.2.2.2.2.size)⟩)
    have hfun := over_fun w3 bx (bx + 1) t1 t2 A1 k1 A2 k2 (by rw [← HL1.out]; exact H3.out.1) (by rw [← HL2.out]; exact H3.out.2.1) HG.out.1.ok HG.out.2.1.ok H3.out.2.2.1 H3.out.2.2.2.1
    have hres := presult_lst _ x y z hbo (by omega) (by omega) _ w3 hfun
    rw [← HG.out.2.2.1, ← HG.out.2.2.2] at hres
    have HRES := Lib.hid hres
    clear hc hb3 hbase hbo hfun hres b1 b2 b3 b4 H2 HCO HG HL1 HL2
    go_wp2_with fail
    refine HRES.out.mono ?_
    rintro e w4 ⟨v, rfl, hown, hb4⟩
    obtain ⟨A4, n4, rfl, -⟩ := hown.isL
    have hr4 := H3.out.2.2.2.2.1.keep hb4
    have HP := Lib.hid (put_ret hr4 (H3.out.2.2.2.2.2.trans (hb4.mono H3.out.2.2.2.2.2.size)) (by omega) R _ hown H3.out.2.2.2.2.2.size (Array.getElem?_eq_some_iff.1 H3.out.2.2.2.2.1).1)
    obtain ⟨r0, r1, r2, r3, r4⟩ := PBox.cells hr4
    have f0 : (w4).frozen? ⟨w.heap.size + 1 + 1, 0, none⟩ = false := frozen_of_row (w4) (w.heap.size + 1 + 1) 0 _ _ hr4
    have f1 : (w4).frozen? ⟨w.heap.size + 1 + 1, 1, none⟩ = false := frozen_of_row (w4) (w.heap.size + 1 + 1) 1 _ _ hr4
    have f2 : (w4).frozen? ⟨w.heap.size + 1 + 1, 2, none⟩ = false := frozen_of_row (w4) (w.heap.size + 1 + 1) 2 _ _ hr4
    have f3 : (w4).frozen? ⟨w.heap.size + 1 + 1, 3, none⟩ = false := frozen_of_row (w4) (w.heap.size + 1 + 1) 3 _ _ hr4
    clear hown hb4 hr4 HRES
    go_wp2
    refine bodyPost_ret (v := .tuple #[.agg #[.int .i64 R.a, .int .i64 R.b, .int .i64 R.c, .slice A4 R.xs.length n4], .int .i64 Y]) (ret_pat2 rfl rfl rfl HP.out.1) rfl ?_
    exact ⟨_, rfl, HP.out.2⟩
  · have d1 : (Z == 0) = false := by rw [beq_eq_false_iff_ne]; exact hz
    have d2 : (Z != 0) = true := by rw [bne_iff_ne]; exact hz
    have HRY := Lib.hid (show R = zeroP ∧ Y = Z from ⟨by rw [H01.out.2.2.1, if_pos hz], by rw [H01.out.2.2.2, if_pos hz]⟩)
    obtain ⟨l1, hl1⟩ : ∃ l, l = t1.xs.length := ⟨_, rfl⟩
    obtain ⟨l2, hl2'⟩ : ∃ l, l = t2.xs.length := ⟨_, rfl⟩
    rw [← hl1, ← hl2']
    clear hz H01 hl1 hl2'
    go_upto_region 2 with fail
    obtain ⟨u0, u1, u2, u3⟩ := al2 w1 (.cells #[.int .i64 t1.a, .int .i64 t1.b, .int .i64 t1.c, .slice A1 l1 k1] 24) (.cells #[.int .i64 t2.a, .int .i64 t2.b, .int .i64 t2.c, .slice A2 l2 k2] 24)
    obtain ⟨V2, hV2⟩ : ∃ V, V = (w1.alloc (.cells #[.int .i64 t1.a, .int .i64 t1.b, .int .i64 t1.c, .slice A1 l1 k1] 24)).alloc (.cells #[.int .i64 t2.a, .int .i64 t2.b, .int .i64 t2.c, .slice A2 l2 k2] 24) := ⟨_, rfl⟩
    rw [← hV2] at u0 u1 u2 u3 ⊢
    have hr := H1.out.2.2.1.keep u3
    have hbw := H1.out.2.2.2.trans (u3.mono H1.out.2.2.2.size)
    have HP := Lib.hid (put_zero hr hbw (by omega))
    obtain ⟨r0, r1, r2, r3, r4⟩ := PBox.cells hr
    have f0 : (V2).frozen? ⟨w.heap.size + 1 + 1, 0, none⟩ = false := frozen_of_row (V2) (w.heap.size + 1 + 1) 0 _ _ hr
    have f1 : (V2).frozen? ⟨w.heap.size + 1 + 1, 1, none⟩ = false := frozen_of_row (V2) (w.heap.size + 1 + 1) 1 _ _ hr
    have f2 : (V2).frozen? ⟨w.heap.size + 1 + 1, 2, none⟩ = false := frozen_of_row (V2) (w.heap.size + 1 + 1) 2 _ _ hr
    have f3 : (V2).frozen? ⟨w.heap.size + 1 + 1, 3, none⟩ = false := frozen_of_row (V2) (w.heap.size + 1 + 1) 3 _ _ hr
    clear hV2 u0 u1 u2 u3 hr hbw H1
    go_wp2
    refine bodyPost_ret (v := .tuple #[.agg #[.int .i64 0, .int .i64 0, .int .i64 0, .slice none 0 0], .int .i64 Z]) (ret_pat2 rfl rfl rfl HP.out.1) rfl ?_
    rw [HRY.out.1, HRY.out.2]
    exact OutP.zero HP.out.2
end Go.Proofs.YtlinldbbhdpgcaaGreatDoor
