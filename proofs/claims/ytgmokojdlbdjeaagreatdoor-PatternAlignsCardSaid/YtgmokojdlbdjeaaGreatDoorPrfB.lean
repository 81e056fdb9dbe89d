/-
  THE REFERENCE: within, modulo, color, Validate.
-/
import Derived.Test.YtgmokojdlbdjeaaGreatDoorPatG
namespace Go.Proofs.YtgmokojdlbdjeaaGreatDoor
open Go.RowKit
attribute [local go_sem] grow_cell grow_frozen
set_option maxRecDepth 100000 in
theorem pwithin_any (n lo hi : Int) (r : Bool) (hr : (decide (lo ≤ n) && decide (n ≤ hi)) = r) (w : World) :
    Calls Tryz.prog 71 #[.int .i64 n, .int .i64 lo, .int .i64 hi] w fun e w' => e = .returned (.bool r) ∧ w = w' := by
  by_cases h : lo ≤ n
  · rw [decide_eq_true h, Bool.true_and] at hr
    have HR := Lib.hid hr
    clear hr
    have d1 : decide (lo ≤ n) = true := decide_eq_true h
    go_enter Tryz.func71, Tryz.ntmps71
    go_wp2
    go_ret
    exact ⟨by rw [← HR.out]; rfl, rfl⟩
  · rw [decide_eq_false h, Bool.false_and] at hr
    have HR := Lib.hid hr
    clear hr
    have d1 : decide (lo ≤ n) = false := decide_eq_false h
    go_enter Tryz.func71, Tryz.ntmps71
    go_wp2
    go_ret
    exact ⟨by rw [← HR.out]; rfl, rfl⟩
theorem mod_once {x n : Int} : (x.tmod n + n) % n = x % n := by
  rw [Int.add_emod_right]
  have h2 := Int.mul_tdiv_add_tmod x n
  rw [show x.tmod n = x - n * x.tdiv n by omega, Int.sub_mul_emod_self_left]
theorem mod_twice {x n : Int} (hn : 0 < n) : (x.tmod n + n).tmod n = x % n := by
  have h1 := tmod_gt x hn
  rw [Int.tmod_eq_emod_of_nonneg (by omega), Int.add_emod_right]
  have h2 := Int.mul_tdiv_add_tmod x n
  rw [show x.tmod n = x - n * x.tdiv n by omega, Int.sub_mul_emod_self_left]
set_option maxRecDepth 100000 in
theorem modulo_any (x n : Int) (hn : 0 < n) (hn2 : n ≤ 1000000000000) (w : World) :
    Calls Tryz.prog 67 #[.int .i64 x, .int .i64 n] w fun e w' => e = .returned (.int .i64 (x % n)) ∧ w = w' := by
  have e1 := tmod_gt x hn
  have e2 := Int.tmod_lt_of_pos x hn
  have hne : (n == 0) = false := by rw [beq_eq_false_iff_ne]; omega
  have HR := Lib.hid (mod_twice (x := x) hn)
  have e3 := tmod_gt (x.tmod n + n) hn
  have e4 := Int.tmod_lt_of_pos (x.tmod n + n) hn
  have HP := Lib.hid (mod_once (x := x) (n := n))
  go_enter Tryz.func67, Tryz.ntmps67
  go_wp2
  go_ret
  exact ⟨by first | (rw [← HR.out]; rfl) | (rw [← HP.out]; rfl), rfl⟩
/-- A pattern of any size. -/
structure PatW (p : PatD) : Prop where
  a0 : 0 < p.a
  a1 : p.a ≤ 30000000
  b0 : 0 ≤ p.b
  b1 : p.b ≤ 30000000
  c0 : 0 < p.c
  c1 : p.c ≤ 30000000
  len : p.a * p.c = p.xs.length
  sz : p.xs.length ≤ 1000000000
theorem PatOK.wide {p : PatD} (h : PatOK p) : PatW p := by
  obtain ⟨a0, a1, b0, b1, c0, c1, hl⟩ := h
  have : p.a * p.c ≤ 2000 * 2000 := Int.mul_le_mul a1 c1 (by omega) (by omega)
  exact ⟨a0, by omega, b0, by omega, c0, by omega, hl, by omega⟩
theorem PatW.base {p : PatD} (h : PatW p) : Base (colF p) p.a p.b p.c := by
  obtain ⟨a, b, c, xs⟩ := p
  obtain ⟨a0, -, -, -, c0, -, -, -⟩ := h
  simp only at a0 c0
  refine ⟨a0, c0, fun x y => ?_, fun x y => ?_⟩
  · unfold colF homeX
    simp only [Int.add_zero]
    rw [show x + a - y / c * b = x - y / c * b + a by omega, Int.add_emod_right]
  · unfold colF homeX
    simp only [Int.add_emod_right]
    rw [Int.add_ediv_of_dvd_right (Int.dvd_refl c), Int.ediv_self (show c ≠ 0 by omega), Int.add_mul, Int.one_mul, show x + b - (y / c * b + b) = x - y / c * b by omega]
theorem div_rem {y c : Int} (hc : 0 < c) : (y - y % c).tdiv c = y / c := by
  have e := Int.mul_ediv_add_emod y c
  rw [show y - y % c = c * (y / c) by omega, Int.mul_tdiv_cancel_left _ (by omega)]
set_option maxRecDepth 100000 in
set_option maxHeartbeats 1000000 in
theorem rcolor_any (p : PatD) (hp : PatW p) (A : Option Addr) (n cap : Nat) (x y : Int) (hx : -100000000 ≤ x) (hx2 : x ≤ 100000000) (hy : -100000000 ≤ y) (hy2 : y ≤ 100000000) (w : World) (hL : IsL w A n p.xs) :
    Calls Tryz.prog 62 #[.agg #[.int .i64 p.a, .int .i64 p.b, .int .i64 p.c, .slice A n cap], .int .i64 x, .int .i64 y] w fun e w' => e = .returned (.int .i64 (colF p x y)) ∧ Below w.heap.size w w' := by
  obtain ⟨a, b, c, xs⟩ := p
  obtain ⟨a0, a1, b0, b1, c0, c1, hlen, hsz⟩ := hp
  simp only at a0 a1 b0 b1 c0 c1 hlen hL hsz ⊢
  have hM1 := Lib.hid (modulo_any y c c0 (by omega))
  have hqb := ediv_bd c0 hy hy2
  have hdr := div_rem (y := y) c0
  have hcol : colF ⟨a, b, c, xs⟩ x y = xs.getD ((y % c * a + (x - y / c * b) % a).toNat) 0 := rfl
  obtain ⟨g1, g2, g3, g4⟩ := home_bd (b := b) (x := x) (y := y) a0 c0
  unfold homeX at g1 g2
  obtain ⟨q, hq⟩ : ∃ q, q = y / c := ⟨_, rfl⟩
  rw [← hq] at hqb hdr hcol g1 g2
  have h1 := pmul_bd hqb.1 hqb.2 b0 b1
  have hM2 := Lib.hid (modulo_any (x - q * b) a a0 (by omega))
  obtain ⟨i, hi⟩ : ∃ i, i = (x - q * b) % a := ⟨_, rfl⟩
  obtain ⟨j, hj⟩ : ∃ j, j = y % c := ⟨_, rfl⟩
  rw [← hi] at g1 g2 hcol hM2
  rw [← hj] at g3 g4 hcol hM1 hdr
  have hl : (xs.length : Int) = n := by rw [hL.1]
  obtain ⟨g5, g6⟩ := cell_bd g1 g2 g3 g4
  have g8 : j * a + i < n := by omega
  have gn : (n : Int) ≤ 1000000000 := by omega
  have HC := Lib.hid hcol
  have HL := Lib.hid hL
  have hjd : -200000000 ≤ y - j ∧ y - j ≤ 200000000 := by omega
  have hne : (c == 0) = false := by rw [beq_eq_false_iff_ne]; omega
  clear hi hj hcol hL hl hlen hq
  go_enter Tryz.func62, Tryz.ntmps62
  go_wp2_with fail
  obtain ⟨W, hW⟩ : ∃ W, W = w.alloc (.cells #[.int .i64 a, .int .i64 b, .int .i64 c, .slice A n cap] 24) := ⟨_, rfl⟩
  rw [← hW]
  have hbl := Lib.hid (show Below w.heap.size w W by rw [hW]; exact (by repeat' (first | (with_reducible exact Below.refl _ _) | (with_reducible assumption) | (with_reducible refine below_drewN ?_ _) | (with_reducible refine below_step (by assumption) ?_ ?_) | (with_reducible refine Below.alloc ?_ ?_ _) | (with_reducible refine Below.setCell ?_ ?_ _) | (with_reducible refine Below.drew ?_) | go_size | (exact Below.size (by assumption)) | (refine Nat.le_trans (Below.size (by assumption)) ?_))))
  obtain ⟨q0, q1, q2, q3, q4⟩ := (show PBox W w.heap.size a b c (.slice A n cap) by rw [hW]; exact PBox.new w a b c _).cells
  clear hW
  refine (hM1.out W).mono ?_
  rintro e w' ⟨rfl, rfl⟩
  obtain ⟨bk, o, rfl, hbz, hcx⟩ := (HL.out.below hbl.out).2 (by omega)
  obtain ⟨t, ht⟩ : ∃ t, t = j * a := ⟨_, rfl⟩
  rw [← ht] at g5 g6 g8 HC
  obtain ⟨k, hk⟩ : ∃ k : Nat, t + i = k := ⟨(t + i).toNat, by omega⟩
  have r1 := hcx k (by omega)
  have HK := Lib.hid (show colF ⟨a, b, c, xs⟩ x y = xs.getD k 0 by rw [HC.out, hk, Int.toNat_natCast])
  obtain ⟨z, hz⟩ : ∃ z, z = xs.getD k 0 := ⟨_, rfl⟩
  rw [← hz] at r1 HK
  have g9 : k < n := by omega
  have k1 : IntKind.i64.wrap (j * a) = t := by rw [ht]; exact IntWalk.i64_in _ (by omega)
  have k2 : IntKind.i64.wrap (q * b) = q * b := IntWalk.i64_in _ (by omega)
  have k3 : IntKind.i64.wrap (x - q * b) = x - q * b := IntWalk.i64_in _ (by omega)
  have hkk : t + i = k := hk
  clear hcx ht hz HC hk
  go_upto_region 3 with fail
  go_quiet ((go_at_call 67; exact Calls.quiet_of_same ((hM2.out _).mono fun _ _ h => ⟨h.1, h.2.symm⟩)))
  clear k1 k2 k3
  go_wp2
  go_ret
  exact ⟨by rw [HK.out]; rfl, below_drewN hbl.out _⟩
end Go.Proofs.YtgmokojdlbdjeaaGreatDoor
/-
  THE REFERENCE: period.
-/
namespace Go.Proofs.YtgmokojdlbdjeaaGreatDoor
open Go.RowKit
attribute [local go_sem] grow_cell grow_frozen
attribute [local irreducible] plainUpon stepC
set_option maxRecDepth 100000 in
set_option maxHeartbeats 1000000 in
theorem period_any (p : PatD) (hp : PatW p) (A : Option Addr) (cap : Nat) (dx dy : Int) (r : Bool) (hr : r = true ↔ SameOn (colF p) p.a dx dy p.c) (hdx : -40000000 ≤ dx) (hdx2 : dx ≤ 40000000) (hdy : -40000000 ≤ dy) (hdy2 : dy ≤ 40000000) (w : World) (hi : PatIn w p A) :
    Calls Tryz.prog 90 #[.agg #[.int .i64 p.a, .int .i64 p.b, .int .i64 p.c, .slice A p.xs.length cap], .int .i64 dx, .int .i64 dy] w fun e w' => e = .returned (.bool r) ∧ Below w.heap.size w w' := by
  have HC := Lib.hid (fun x y h0 h1 h2 h3 w hi => rcolor_any p hp A p.xs.length cap x y h0 h1 h2 h3 w hi)
  have HI := Lib.hid (show IsL w A p.xs.length p.xs from hi)
  obtain ⟨a0, a1, -, -, c0, c1, -, -⟩ := hp
  obtain ⟨F, hF⟩ : ∃ F, F = colF p := ⟨_, rfl⟩
  rw [← hF] at HC hr
  have HR := Lib.hid hr
  clear hi hr hF
  obtain ⟨a, ha⟩ : ∃ a, a = p.a := ⟨_, rfl⟩
  obtain ⟨b, hb⟩ : ∃ b, b = p.b := ⟨_, rfl⟩
  obtain ⟨c, hc⟩ : ∃ c, c = p.c := ⟨_, rfl⟩
  obtain ⟨n, hn⟩ : ∃ n, n = p.xs.length := ⟨_, rfl⟩
  rw [← ha, ← hb, ← hc, ← hn] at HC
  rw [← hn] at HI
  rw [← ha, ← hb, ← hc, ← hn]
  rw [← ha] at a0 a1 HR
  rw [← hc] at c0 c1 HR
  clear ha hb hc hn
  go_enter Tryz.func90, Tryz.ntmps90
  go_upto_region 2 with fail
  obtain ⟨W, hW⟩ : ∃ W, W = w.alloc (.cells #[.int .i64 a, .int .i64 b, .int .i64 c, .slice A n cap] 24) := ⟨_, rfl⟩
  rw [← hW]
  have H0 := Lib.hid (show PBox W w.heap.size a b c (.slice A n cap) ∧ Below w.heap.size w W from ⟨by rw [hW]; exact PBox.new w a b c _, by rw [hW]; exact (by repeat' (first | (with_reducible exact Below.refl _ _) | (with_reducible assumption) | (with_reducible refine below_drewN ?_ _) | (with_reducible refine below_step (by assumption) ?_ ?_) | (with_reducible refine Below.alloc ?_ ?_ _) | (with_reducible refine Below.setCell ?_ ?_ _) | (with_reducible refine Below.drew ?_) | go_size | (exact Below.size (by assumption)) | (refine Nat.le_trans (Below.size (by assumption)) ?_)))⟩)
  clear hW
  go_loopw [7] (fun t wr => ∃ k : Int, t = .int .i64 k ∧ 0 ≤ k ∧ k ≤ c ∧ Hid (PBox wr w.heap.size a b c (.slice A n cap) ∧ Below w.heap.size w wr ∧ SameOn F a dx dy k)) (fun t _ => (c - intOf t).toNat)
  case atStart => exact ⟨0, rfl, by omega, by omega, Lib.hid ⟨H0.out.1, H0.out.2, SameOn.zero⟩⟩
  case round =>
    clear H0
    obtain ⟨k, rfl, hk0, hk, hr⟩ := hrel
    obtain ⟨q0, q1, q2, q3, q4⟩ := hr.out.1.cells
    by_cases hlt : k < c
    · have d1 : decide (k < c) = true := decide_eq_true hlt
      have R0 := Lib.hid (And.intro hr.out (show ∀ x, 0 ≤ x → x < (0 : Int) → F x k = F (x + dx) (k + dy) from fun x h0 h1 => by omega))
      clear hr
      go_upto_region 5 with fail
      go_loopw [8] (fun t wq => ∃ i : Int, t = .int .i64 i ∧ 0 ≤ i ∧ i ≤ a ∧ Hid ((PBox wq w.heap.size a b c (.slice A n cap) ∧ Below w.heap.size w wq ∧ SameOn F a dx dy k) ∧ ∀ x, 0 ≤ x → x < i → F x k = F (x + dx) (k + dy))) (fun t _ => (a - intOf t).toNat)
      case atStart => exact ⟨0, rfl, by omega, by omega, R0⟩
      case round =>
        clear R0 q0 q1 q2 q3 q4
        obtain ⟨i, rfl, hi0, hi, hq⟩ := hrel
        obtain ⟨q0, q1, q2, q3, q4⟩ := hq.out.1.1.cells
        by_cases hil : i < a
        · have d2 : decide (i < a) = true := decide_eq_true hil
          have k1 : IntKind.i64.wrap (i + dx) = i + dx := IntWalk.i64_in _ (by omega)
          have k2 : IntKind.i64.wrap (k + dy) = k + dy := IntWalk.i64_in _ (by omega)
          go_upto_region 7 with fail
          refine region_tree (C := fun w' => ∃ x, w' = grow wr x) [0, 1, 2, 3, 4, 5, 6, 8, 9, 10] (OT.seq [7, 11, 12]) (by kernel_rfl) (by kernel_rfl) (grow_start wr) ?_
          simp only [pickL, List.getElem?_cons_zero, List.getElem?_cons_succ]
          repeat (go_big_quiet_step (fail))
          refine wpQuiet_nil ?_
          rintro w2 ⟨xg, hxg⟩
          have hb2 := below_grow wr xg
          rw [← hxg] at hb2
          simp only [treeS, OT.seq, atOp, List.getElem?_cons_zero, List.getElem?_cons_succ]
          refine ⟨⟨xg, hxg⟩, ?_⟩
          refine s_call 62 #[.agg #[.int .i64 a, .int .i64 b, .int .i64 c, .slice A n cap], .int .i64 (i + dx), .int .i64 (k + dy)] rfl (by go_simp) ?_
          refine (HC.out (i + dx) (k + dy) (by omega) (by omega) (by omega) (by omega) w2 ((HI.out.below hq.out.1.2.1).below hb2)).mono ?_
          rintro e w3 ⟨rfl, hb3⟩
          have hb3' := hb2.trans (hb3.mono hb2.size)
          refine ⟨_, rfl, grow_of_below hb3', ?_⟩
          refine s_call 62 #[.agg #[.int .i64 a, .int .i64 b, .int .i64 c, .slice A n cap], .int .i64 i, .int .i64 k] rfl (by go_simp) ?_
          refine (HC.out i k (by omega) (by omega) (by omega) (by omega) w3 ((HI.out.below hq.out.1.2.1).below hb3')).mono ?_
          rintro e w4 ⟨rfl, hb4⟩
          have hb4' := hb3'.trans (hb4.mono hb3'.size)
          refine ⟨_, rfl, grow_of_below hb4', ?_⟩
          obtain ⟨z1, hz1⟩ : ∃ z1, z1 = F i k := ⟨_, rfl⟩
          obtain ⟨z2, hz2⟩ : ∃ z2, z2 = F (i + dx) (k + dy) := ⟨_, rfl⟩
          rw [← hz1, ← hz2]
          have HZ := Lib.hid (And.intro hz1 hz2)
          have H4 := Lib.hid (And.intro (hq.out.1.1.keep hb4') (And.intro (hq.out.1.2.1.trans (hb4'.mono hq.out.1.2.1.size)) (And.intro hq.out.1.2.2 hq.out.2)))
          clear hz1 hz2 hq hb2 hb3 hb3' hb4 hxg k1 k2 q0 q1 q2 q3 q4
          by_cases hz : z2 = z1
          · have d3 : (z2 != z1) = false := by simp [hz]
            refine s_val (.bool false) w4 rfl (by go_simp) ?_
            refine ⟨grow_of_below hb4', ?_⟩
            have R2 := Lib.hid (show (PBox w4 w.heap.size a b c (.slice A n cap) ∧ Below w.heap.size w w4 ∧ SameOn F a dx dy k) ∧ ∀ x, 0 ≤ x → x < i + 1 → F x k = F (x + dx) (k + dy) from ⟨⟨H4.out.1, H4.out.2.1, H4.out.2.2.1⟩, fun x h0 h1 => by
              by_cases hx : x < i
              · exact H4.out.2.2.2 x h0 hx
              · obtain rfl : x = i := by omega
                rw [← HZ.out.1, ← HZ.out.2]; exact hz.symm⟩)
            clear hz HZ hb4' H4 d3
            go_simp
            go_wp2
            go_roundw
            case rel => exact ⟨i + 1, rfl, by omega, by omega, R2⟩
            case measure => simp [intOf]; omega
          · have d3 : (z2 != z1) = true := by rw [bne_iff_ne]; exact hz
            refine s_val (.bool true) w4 rfl (by go_simp) ?_
            refine ⟨grow_of_below hb4', ?_⟩
            have HRF := Lib.hid (show r = false by
              cases r with
              | false => rfl
              | true => exact absurd ((HR.out.1 rfl) i k hi0 hil hk0 hlt).symm (by rw [← HZ.out.1, ← HZ.out.2]; exact hz))
            clear hz HZ hb4' d3 HR
            go_simp
            go_wp2
            go_ret
            exact ⟨by rw [HRF.out]; rfl, H4.out.2.1⟩
        · have d2 : decide (i < a) = false := decide_eq_false hil
          have R2 := Lib.hid (show PBox wr w.heap.size a b c (.slice A n cap) ∧ Below w.heap.size w wr ∧ SameOn F a dx dy (k + 1) from ⟨hq.out.1.1, hq.out.1.2.1, hq.out.1.2.2.step fun x h0 h1 => hq.out.2 x h0 (by omega)⟩)
          clear hq
          go_wp2
          go_roundw
          case rel => exact ⟨k + 1, rfl, by omega, by omega, R2⟩
          case measure => simp [intOf]; omega
    · have d1 : decide (k < c) = false := decide_eq_false hlt
      have HRT := Lib.hid (show r = true from HR.out.2 fun x y h0 h1 h2 h3 => hr.out.2.2 x y h0 h1 h2 (by omega))
      have HB := Lib.hid hr.out.2.1
      clear hr HR
      go_wp2
      go_ret
      exact ⟨by rw [HRT.out]; rfl, HB.out⟩
end Go.Proofs.YtgmokojdlbdjeaaGreatDoor
