/-
  THE REFERENCE: within, modulo, color, Validate.
-/
import Derived.Test.YtlinldbbhdpgcaaGreatDoorPatG
import Derived.Deep.MidRow
namespace Go.Proofs.YtlinldbbhdpgcaaGreatDoor
open Go.RowKit
attribute [local go_sem] grow_cell grow_frozen
set_option maxRecDepth 100000 in
theorem pwithin_any (n lo hi : Int) (r : Bool) (hr : (decide (lo ≤ n) && decide (n ≤ hi)) = r) (w : World) :
    Calls Tryz.prog 82 #[.int .i64 n, .int .i64 lo, .int .i64 hi] w fun e w' => e = .returned (.bool r) ∧ w = w' := by
  by_cases h : lo ≤ n
  · rw [decide_eq_true h, Bool.true_and] at hr
    have HR := Lib.hid hr
    clear hr
    have d1 : decide (lo ≤ n) = true := decide_eq_true h
    go_enter Tryz.func82, Tryz.ntmps82
    go_wp2
    go_ret
    exact ⟨by rw [← HR.out]; rfl, rfl⟩
  · rw [decide_eq_false h, Bool.false_and] at hr
    have HR := Lib.hid hr
    clear hr
    have d1 : decide (lo ≤ n) = false := decide_eq_false h
    go_enter Tryz.func82, Tryz.ntmps82
    go_wp2
    go_ret
    exact ⟨by rw [← HR.out]; rfl, rfl⟩
theorem mod_once {x n : Int} : (x.tmod n + n) % n = x % n := by
  rw [Int.add_emod_right]
  have h2 := Int.mul_tdiv_add_tmod x n
  rw [show x.tmod n = x - n * x.tdiv n by omega, Int.sub_mul_emod_self_left]
theorem mod_twice {x n : Int} (hn : 0 < n) : (x.tmod n + n).tmod n = x % n := by
  have h1 := tmod_gt x hn
  rw [Int.tmod_eq_emod_of_nonneg (by omega), Int.add_emod_right]
  have h2 := Int.mul_tdiv_add_tmod x n
  rw [show x.tmod n = x - n * x.tdiv n by omega, Int.sub_mul_emod_self_left]
set_option maxRecDepth 100000 in
theorem modulo_any (x n : Int) (hn : 0 < n) (hn2 : n ≤ 1000000000000) (w : World) :
    Calls Tryz.prog 76 #[.int .i64 x, .int .i64 n] w fun e w' => e = .returned (.int .i64 (x % n)) ∧ w = w' := by
  have e1 := tmod_gt x hn
  have e2 := Int.tmod_lt_of_pos x hn
  have hne : (n == 0) = false := by rw [beq_eq_false_iff_ne]; omega
  have HR := Lib.hid (mod_twice (x := x) hn)
  have e3 := tmod_gt (x.tmod n + n) hn
  have e4 := Int.tmod_lt_of_pos (x.tmod n + n) hn
  have HP := Lib.hid (mod_once (x := x) (n := n))
  go_enter Tryz.func76, Tryz.ntmps76
  go_wp2
  go_ret
  exact ⟨by first | (rw [← HR.out]; rfl) | (rw [← HP.out]; rfl), rfl⟩
/-- A pattern of any size. -/
structure PatW (p : PatD) : Prop where
  a0 : 0 < p.a
  a1 : p.a ≤ 30000000
  b0 : 0 ≤ p.b
  b1 : p.b ≤ 30000000
  c0 : 0 < p.c
  c1 : p.c ≤ 30000000
  len : p.a * p.c = p.xs.length
  sz : p.xs.length ≤ 1000000000
theorem PatOK.wide {p : PatD} (h : PatOK p) : PatW p := by
  obtain ⟨a0, a1, b0, b1, c0, c1, hl⟩ := h
  have : p.a * p.c ≤ 2000 * 2000 := Int.mul_le_mul a1 c1 (by omega) (by omega)
  exact ⟨a0, by omega, b0, by omega, c0, by omega, hl, by omega⟩
theorem PatW.base {p : PatD} (h : PatW p) : Base (colF p) p.a p.b p.c := by
  obtain ⟨a, b, c, xs⟩ := p
  obtain ⟨a0, -, -, -, c0, -, -, -⟩ := h
  simp only at a0 c0
  refine ⟨a0, c0, fun x y => ?_, fun x y => ?_⟩
  · unfold colF homeX
    simp only [Int.add_zero]
    rw [show x + a - y / c * b = x - y / c * b + a by omega, Int.add_emod_right]
  · unfold colF homeX
    simp only [Int.add_emod_right]
    rw [Int.add_ediv_of_dvd_right (Int.dvd_refl c), Int.ediv_self (show c ≠ 0 by omega), Int.add_mul, Int.one_mul, show x + b - (y / c * b + b) = x - y / c * b by omega]
theorem div_rem {y c : Int} (hc : 0 < c) : (y - y % c).tdiv c = y / c := by
  have e := Int.mul_ediv_add_emod y c
  rw [show y - y % c = c * (y / c) by omega, Int.mul_tdiv_cancel_left _ (by omega)]
set_option maxRecDepth 100000 in
set_option maxHeartbeats 1000000 in
theorem rcolor_any (p : PatD) (hp : PatW p) (A : Option Addr) (n cap : Nat) (x y : Int) (hx : -100000000 ≤ x) (hx2 : x ≤ 100000000) (hy : -100000000 ≤ y) (hy2 : y ≤ 100000000) (w : World) (hL : IsL w A n p.xs) :
    Calls Tryz.prog 80 #[.agg #[.int .i64 p.a, .int .i64 p.b, .int .i64 p.c, .slice A n cap], .int .i64 x, .int .i64 y] w fun e w' => e = .returned (.int .i64 (colF p x y)) ∧ Below w.heap.size w w' := by
  obtain ⟨a, b, c, xs⟩ := p
  obtain ⟨a0, a1, b0, b1, c0, c1, hlen, hsz⟩ := hp
  simp only at a0 a1 b0 b1 c0 c1 hlen hL hsz ⊢
  have hM1 := Lib.hid (modulo_any y c c0 (by omega))
  have hqb := ediv_bd c0 hy hy2
  have hdr := div_rem (y := y) c0
  have hcol : colF ⟨a, b, c, xs⟩ x y = xs.getD ((y % c * a + (x - y / c * b) % a).toNat) 0 := rfl
  obtain ⟨g1, g2, g3, g4⟩ := home_bd (b := b) (x := x) (y := y) a0 c0
  unfold homeX at g1 g2
  obtain ⟨q, hq⟩ : ∃ q, q = y / c := ⟨_, rfl⟩
  rw [← hq] at hqb hdr hcol g1 g2
  have h1 := pmul_bd hqb.1 hqb.2 b0 b1
  have hM2 := Lib.hid (modulo_any (x - q * b) a a0 (by omega))
  obtain ⟨i, hi⟩ : ∃ i, i = (x - q * b) % a := ⟨_, rfl⟩
  obtain ⟨j, hj⟩ : ∃ j, j = y % c := ⟨_, rfl⟩
  rw [← hi] at g1 g2 hcol hM2
  rw [← hj] at g3 g4 hcol hM1 hdr
  have hl : (xs.length : Int) = n := by rw [hL.1]
  obtain ⟨g5, g6⟩ := cell_bd g1 g2 g3 g4
  have g8 : j * a + i < n := by omega
  have gn : (n : Int) ≤ 1000000000 := by omega
  have HC := Lib.hid hcol
  have HL := Lib.hid hL
  have hjd : -200000000 ≤ y - j ∧ y - j ≤ 200000000 := by omega
  have hne : (c == 0) = false := by rw [beq_eq_false_iff_ne]; omega
  clear hi hj hcol hL hl hlen hq
  go_enter Tryz.func80, Tryz.ntmps80
  go_wp2_with fail
  obtain ⟨W, hW⟩ : ∃ W, W = w.alloc (.cells #[.int .i64 a, .int .i64 b, .int .i64 c, .slice A n cap] 24) := ⟨_, rfl⟩
  rw [← hW]
  have hbl := Lib.hid (show Below w.heap.size w W by rw [hW]; exact (by repeat' (first | (with_reducible exact Below.refl _ _) | (with_reducible assumption) | (with_reducible refine below_drewN ?_ _) | (with_reducible refine below_step (by assumption) ?_ ?_) | (with_reducible refine Below.alloc ?_ ?_ _) | (with_reducible refine Below.setCell ?_ ?_ _) | (with_reducible refine Below.drew ?_) | go_size | (exact Below.size (by assumption)) | (refine Nat.le_trans (Below.size (by assumption)) ?_))))
  obtain ⟨q0, q1, q2, q3, q4⟩ := (show PBox W w.heap.size a b c (.slice A n cap) by rw [hW]; exact PBox.new w a b c _).cells
  clear hW
  refine (hM1.out W).mono ?_
  rintro e w' ⟨rfl, rfl⟩
  obtain ⟨bk, o, rfl, hbz, hcx⟩ := (HL.out.below hbl.out).2 (by omega)
  obtain ⟨t, ht⟩ : ∃ t, t = j * a := ⟨_, rfl⟩
  rw [← ht] at g5 g6 g8 HC
  obtain ⟨k, hk⟩ : ∃ k : Nat, t + i = k := ⟨(t + i).toNat, by omega⟩
  have r1 := hcx k (by omega)
  have HK := Lib.hid (show colF ⟨a, b, c, xs⟩ x y = xs.getD k 0 by rw [HC.out, hk, Int.toNat_natCast])
  obtain ⟨z, hz⟩ : ∃ z, z = xs.getD k 0 := ⟨_, rfl⟩
  rw [← hz] at r1 HK
  have g9 : k < n := by omega
  have k1 : IntKind.i64.wrap (j * a) = t := by rw [ht]; exact IntWalk.i64_in _ (by omega)
  have k2 : IntKind.i64.wrap (q * b) = q * b := IntWalk.i64_in _ (by omega)
  have k3 : IntKind.i64.wrap (x - q * b) = x - q * b := IntWalk.i64_in _ (by omega)
  have hkk : t + i = k := hk
  clear hcx ht hz HC hk
  go_upto_region 3 with fail
  go_quiet ((go_at_call 76; exact Calls.quiet_of_same ((hM2.out _).mono fun _ _ h => ⟨h.1, h.2.symm⟩)))
  clear k1 k2 k3
  go_wp2
  go_ret
  exact ⟨by rw [HK.out]; rfl, below_drewN hbl.out _⟩
end Go.Proofs.YtlinldbbhdpgcaaGreatDoor
/-
  THE REFERENCE: period.
-/
namespace Go.Proofs.YtlinldbbhdpgcaaGreatDoor
open Go.RowKit
attribute [local go_sem] grow_cell grow_frozen
attribute [local irreducible] plainUpon stepC
set_option maxRecDepth 100000 in
set_option maxHeartbeats 1000000 in
theorem period_any (p : PatD) (hp : PatW p) (A : Option Addr) (cap : Nat) (dx dy : Int) (r : Bool) (hr : r = true ↔ SameOn (colF p) p.a dx dy p.c) (hdx : -40000000 ≤ dx) (hdx2 : dx ≤ 40000000) (hdy : -40000000 ≤ dy) (hdy2 : dy ≤ 40000000) (w : World) (hi : PatIn w p A) :
    Calls Tryz.prog 87 #[.agg #[.int .i64 p.a, .int .i64 p.b, .int .i64 p.c, .slice A p.xs.length cap], .int .i64 dx, .int .i64 dy] w fun e w' => e = .returned (.bool r) ∧ Below w.heap.size w w' := by
  have HC := Lib.hid (fun x y h0 h1 h2 h3 w hi => rcolor_any p hp A p.xs.length cap x y h0 h1 h2 h3 w hi)
  have HI := Lib.hid (show IsL w A p.xs.length p.xs from hi)
  obtain ⟨a0, a1, -, -, c0, c1, -, -⟩ := hp
  obtain ⟨F, hF⟩ : ∃ F, F = colF p := ⟨_, rfl⟩
  rw [← hF] at HC hr
  have HR := Lib.hid hr
  clear hi hr hF
  obtain ⟨a, ha⟩ : ∃ a, a = p.a := ⟨_, rfl⟩
  obtain ⟨b, hb⟩ : ∃ b, b = p.b := ⟨_, rfl⟩
  obtain ⟨c, hc⟩ : ∃ c, c = p.c := ⟨_, rfl⟩
  obtain ⟨n, hn⟩ : ∃ n, n = p.xs.length := ⟨_, rfl⟩
  rw [← ha, ← hb, ← hc, ← hn] at HC
  rw [← hn] at HI
  rw [← ha, ← hb, ← hc, ← hn]
  rw [← ha] at a0 a1 HR
  rw [← hc] at c0 c1 HR
  clear ha hb hc hn
  go_enter Tryz.func87, Tryz.ntmps87
  go_upto_region 2 with fail
  obtain ⟨W, hW⟩ : ∃ W, W = w.alloc (.cells #[.int .i64 a, .int .i64 b, .int .i64 c, .slice A n cap] 24) := ⟨_, rfl⟩
  rw [← hW]
  have H0 := Lib.hid (show PBox W w.heap.size a b c (.slice A n cap) ∧ Below w.heap.size w W from ⟨by rw [hW]; exact PBox.new w a b c _, by rw [hW]; exact (by repeat' (first | (with_reducible exact Below.refl _ _) | (with_reducible assumption) | (with_reducible refine below_drewN ?_ _) | (with_reducible refine below_step (by assumption) ?_ ?_) | (with_reducible refine Below.alloc ?_ ?_ _) | (with_reducible refine Below.setCell ?_ ?_ _) | (with_reducible refine Below.drew ?_) | go_size | (exact Below.size (by assumption)) | (refine Nat.le_trans (Below.size (by assumption)) ?_)))⟩)
  clear hW
  go_loopw [7] (fun t wr => ∃ k : Int, t = .int .i64 k ∧ 0 ≤ k ∧ k ≤ c ∧ Hid (PBox wr w.heap.size a b c (.slice A n cap) ∧ Below w.heap.size w wr ∧ SameOn F a dx dy k)) (fun t _ => (c - intOf t).toNat)
  case atStart => exact ⟨0, rfl, by omega, by omega, Lib.hid ⟨H0.out.1, H0.out.2, SameOn.zero⟩⟩
  case round =>
    clear H0
    obtain ⟨k, rfl, hk0, hk, hr⟩ := hrel
    obtain ⟨q0, q1, q2, q3, q4⟩ := hr.out.1.cells
    by_cases hlt : k < c
    · have d1 : decide (k < c) = true := decide_eq_true hlt
      have R0 := Lib.hid (And.intro hr.out (show ∀ x, 0 ≤ x → x < (0 : Int) → F x k = F (x + dx) (k + dy) from fun x h0 h1 => by omega))
      clear hr
      go_upto_region 5 with fail
      go_loopw [8] (fun t wq => ∃ i : Int, t = .int .i64 i ∧ 0 ≤ i ∧ i ≤ a ∧ Hid ((PBox wq w.heap.size a b c (.slice A n cap) ∧ Below w.heap.size w wq ∧ SameOn F a dx dy k) ∧ ∀ x, 0 ≤ x → x < i → F x k = F (x + dx) (k + dy))) (fun t _ => (a - intOf t).toNat)
      case atStart => exact ⟨0, rfl, by omega, by omega, R0⟩
      case round =>
        clear R0 q0 q1 q2 q3 q4
        obtain ⟨i, rfl, hi0, hi, hq⟩ := hrel
        obtain ⟨q0, q1, q2, q3, q4⟩ := hq.out.1.1.cells
        by_cases hil : i < a
        · have d2 : decide (i < a) = true := decide_eq_true hil
          have k1 : IntKind.i64.wrap (i + dx) = i + dx := IntWalk.i64_in _ (by omega)
          have k2 : IntKind.i64.wrap (k + dy) = k + dy := IntWalk.i64_in _ (by omega)
          go_upto_region 7 with fail
          refine region_tree (C := fun w' => ∃ x, w' = grow wr x) [0, 1, 2, 3, 4, 5, 6, 8, 9, 10] (OT.seq [7, 11, 12]) (by kernel_rfl) (by kernel_rfl) (grow_start wr) ?_
          simp only [pickL, List.getElem?_cons_zero, List.getElem?_cons_succ]
          repeat (go_big_quiet_step (fail))
          refine wpQuiet_nil ?_
          rintro w2 ⟨xg, hxg⟩
          have hb2 := below_grow wr xg
          rw [← hxg] at hb2
          simp only [treeS, OT.seq, atOp, List.getElem?_cons_zero, List.getElem?_cons_succ]
          refine ⟨⟨xg, hxg⟩, ?_⟩
          refine s_call 80 #[.agg #[.int .i64 a, .int .i64 b, .int .i64 c, .slice A n cap], .int .i64 (i + dx), .int .i64 (k + dy)] rfl (by go_simp) ?_
          refine (HC.out (i + dx) (k + dy) (by omega) (by omega) (by omega) (by omega) w2 ((HI.out.below hq.out.1.2.1).below hb2)).mono ?_
          rintro e w3 ⟨rfl, hb3⟩
          have hb3' := hb2.trans (hb3.mono hb2.size)
          refine ⟨_, rfl, grow_of_below hb3', ?_⟩
          refine s_call 80 #[.agg #[.int .i64 a, .int .i64 b, .int .i64 c, .slice A n cap], .int .i64 i, .int .i64 k] rfl (by go_simp) ?_
          refine (HC.out i k (by omega) (by omega) (by omega) (by omega) w3 ((HI.out.below hq.out.1.2.1).below hb3')).mono ?_
          rintro e w4 ⟨rfl, hb4⟩
          have hb4' := hb3'.trans (hb4.mono hb3'.size)
          refine ⟨_, rfl, grow_of_below hb4', ?_⟩
          obtain ⟨z1, hz1⟩ : ∃ z1, z1 = F i k := ⟨_, rfl⟩
          obtain ⟨z2, hz2⟩ : ∃ z2, z2 = F (i + dx) (k + dy) := ⟨_, rfl⟩
          rw [← hz1, ← hz2]
          have HZ := Lib.hid (And.intro hz1 hz2)
          have H4 := Lib.hid (And.intro (hq.out.1.1.keep hb4') (And.intro (hq.out.1.2.1.trans (hb4'.mono hq.out.1.2.1.size)) (And.intro hq.out.1.2.2 hq.out.2)))
          clear hz1 hz2 hq hb2 hb3 hb3' hb4 hxg k1 k2 q0 q1 q2 q3 q4
          by_cases hz : z2 = z1
          · have d3 : (z2 != z1) = false := by simp [hz]
            refine s_val (.bool false) w4 rfl (by go_simp) ?_
            refine ⟨grow_of_below hb4', ?_⟩
            have R2 := Lib.hid (show (PBox w4 w.heap.size a b c (.slice A n cap) ∧ Below w.heap.size w w4 ∧ SameOn F a dx dy k) ∧ ∀ x, 0 ≤ x → x < i + 1 → F x k = F (x + dx) (k + dy) from ⟨⟨H4.out.1, H4.out.2.1, H4.out.2.2.1⟩, fun x h0 h1 => by
              by_cases hx : x < i
              · exact H4.out.2.2.2 x h0 hx
              · obtain rfl : x = i := by omega
                rw [← HZ.out.1, ← HZ.out.2]; exact hz.symm⟩)
            clear hz HZ hb4' H4 d3
            go_simp
            go_wp2
            go_roundw
            case rel => exact ⟨i + 1, rfl, by omega, by omega, R2⟩
            case measure => simp [intOf]; omega
          · have d3 : (z2 != z1) = true := by rw [bne_iff_ne]; exact hz
            refine s_val (.bool true) w4 rfl (by go_simp) ?_
            refine ⟨grow_of_below hb4', ?_⟩
            have HRF := Lib.hid (show r = false by
              cases r with
              | false => rfl
              | true => exact absurd ((HR.out.1 rfl) i k hi0 hil hk0 hlt).symm (by rw [← HZ.out.1, ← HZ.out.2]; exact hz))
            clear hz HZ hb4' d3 HR
            go_simp
            go_wp2
            go_ret
            exact ⟨by rw [HRF.out]; rfl, H4.out.2.1⟩
        · have d2 : decide (i < a) = false := decide_eq_false hil
          have R2 := Lib.hid (show PBox wr w.heap.size a b c (.slice A n cap) ∧ Below w.heap.size w wr ∧ SameOn F a dx dy (k + 1) from ⟨hq.out.1.1, hq.out.1.2.1, hq.out.1.2.2.step fun x h0 h1 => hq.out.2 x h0 (by omega)⟩)
          clear hq
          go_wp2
          go_roundw
          case rel => exact ⟨k + 1, rfl, by omega, by omega, R2⟩
          case measure => simp [intOf]; omega
    · have d1 : decide (k < c) = false := decide_eq_false hlt
      have HRT := Lib.hid (show r = true from HR.out.2 fun x y h0 h1 h2 h3 => hr.out.2.2 x y h0 h1 h2 (by omega))
      have HB := Lib.hid hr.out.2.1
      clear hr HR
      go_wp2
      go_ret
      exact ⟨by rw [HRT.out]; rfl, HB.out⟩
end Go.Proofs.YtlinldbbhdpgcaaGreatDoor
/-
  THE REFERENCE: least.
-/
namespace Go.Proofs.YtlinldbbhdpgcaaGreatDoor
open Go.RowKit
attribute [local go_sem] sub_cell sub_frozen
def cellI (w : World) (b i : Nat) : Int := match w.cell? ⟨b, i, none⟩ with | some (.int _ z) => z | _ => 0
/-- The world in the loops of the reference's least: the boxes of the pattern, of the result, of the new pattern. -/
structure RW (w wr : World) (B pb rb ob : Nat) (a b c : Int) (s : Value) (x y z : Int) (v : Value) (zs : List Int) : Prop where
  p : PBox wr pb a b c s
  r : PBox wr rb 0 0 0 (.slice none 0 0)
  o : PBox wr ob x y z v
  own : OwnI wr B v zs
  below : Below w.heap.size w wr
  pB : pb < B
  rB : rb < B
  oB : ob < B
  po : pb ≠ ob
  ro : rb ≠ ob
  wo : w.heap.size ≤ ob
  wr' : w.heap.size ≤ rb
  sz : B ≤ wr.heap.size
  wB : w.heap.size ≤ B
section
variable {w wr w' : World} {B pb rb ob : Nat} {a b c x y z : Int} {s v v' : Value} {zs zs' : List Int}
theorem RW.start (w : World) (a b c : Int) (s : Value) :
    RW w (((w.alloc (.cells #[.int .i64 a, .int .i64 b, .int .i64 c, s] 24)).alloc (.cells #[.int .i64 0, .int .i64 0, .int .i64 0, .slice none 0 0] 24)).alloc (.cells #[.int .i64 1, .int .i64 0, .int .i64 1, .slice none 0 0] 24))
      (w.heap.size + 1 + 1 + 1) w.heap.size (w.heap.size + 1) (w.heap.size + 1 + 1) a b c s 1 0 1 (.slice none 0 0) [] := by
  refine ⟨?_, ?_, ?_, OwnI.nil _ _, (by repeat' (first | (with_reducible exact Below.refl _ _) | (with_reducible assumption) | (with_reducible refine below_drewN ?_ _) | (with_reducible refine below_step (by assumption) ?_ ?_) | (with_reducible refine Below.alloc ?_ ?_ _) | (with_reducible refine Below.setCell ?_ ?_ _) | (with_reducible refine Below.drew ?_) | go_size | (exact Below.size (by assumption)) | (refine Nat.le_trans (Below.size (by assumption)) ?_))), by omega, by omega, by omega, by omega, by omega, by omega, by omega, by simp, by omega⟩
  · exact (heap_alloc_old _ _ (by simp; omega)).trans ((heap_alloc_old _ _ (by simp)).trans (heap_alloc_new w _))
  · have := heap_alloc_new (w.alloc (.cells #[.int .i64 a, .int .i64 b, .int .i64 c, s] 24)) (.cells #[.int .i64 0, .int .i64 0, .int .i64 0, .slice none 0 0] 24)
    exact (heap_alloc_old _ _ (by simp)).trans (by simpa using this)
  · have := heap_alloc_new ((w.alloc (.cells #[.int .i64 a, .int .i64 b, .int .i64 c, s] 24)).alloc (.cells #[.int .i64 0, .int .i64 0, .int .i64 0, .slice none 0 0] 24)) (.cells #[.int .i64 1, .int .i64 0, .int .i64 1, .slice none 0 0] 24)
    unfold PBox
    simpa using this
theorem RW.keep (h : RW w wr B pb rb ob a b c s x y z v zs) (hb : Below wr.heap.size wr w') : RW w w' B pb rb ob a b c s x y z v zs :=
  ⟨h.p.keep hb, h.r.keep hb, h.o.keep hb, OwnI.keep hb h.own, h.below.trans (hb.mono h.below.size), h.pB, h.rB, h.oB, h.po, h.ro, h.wo, h.wr', Nat.le_trans h.sz hb.size, h.wB⟩
theorem RW.put (h : RW w wr B pb rb ob a b c s x y z v zs) (i : Nat) (u : Value) {x' y' z' : Int} {v' : Value} (ho : PBox (wr.setCell ⟨ob, i, none⟩ u) ob x' y' z' v') (hv : v' = v) : RW w (wr.setCell ⟨ob, i, none⟩ u) B pb rb ob a b c s x' y' z' v' zs := by
  subst hv
  have hgr : wr.grownBy (wr.setCell ⟨ob, i, none⟩ u) (some ob) := ⟨rfl, rfl, rfl, by simp [World.setCell], fun q _ hne => Below.heap_setCell wr ⟨ob, i, none⟩ _ q (fun e => hne (by rw [e]))⟩
  refine ⟨h.p.other (p := ⟨ob, i, none⟩) h.po _, h.r.other (p := ⟨ob, i, none⟩) h.ro _, ho, h.own.grown hgr ?_, h.below.setCell h.wo _, h.pB, h.rB, h.oB, h.po, h.ro, h.wo, h.wr', by simpa [World.setCell] using h.sz, h.wB⟩
  rcases hv : v'.ownBlock with _ | g
  · exact .inl rfl
  · exact .inr (fun e => by have := h.own.lt' g hv; have := h.oB; cases e; omega)
theorem PBox.set0 (h : PBox w ob x y z v) (u : Int) : PBox (w.setCell ⟨ob, 0, none⟩ (.int .i64 u)) ob u y z v := by
  obtain ⟨hg, he⟩ := Array.getElem?_eq_some_iff.1 h
  unfold PBox
  simp [World.setCell, hg, Array.getElem_modify, he]
theorem PBox.set1 (h : PBox w ob x y z v) (u : Int) : PBox (w.setCell ⟨ob, 1, none⟩ (.int .i64 u)) ob x u z v := by
  obtain ⟨hg, he⟩ := Array.getElem?_eq_some_iff.1 h
  unfold PBox
  simp [World.setCell, hg, Array.getElem_modify, he]
theorem PBox.set2 (h : PBox w ob x y z v) (u : Int) : PBox (w.setCell ⟨ob, 2, none⟩ (.int .i64 u)) ob x y u v := by
  obtain ⟨hg, he⟩ := Array.getElem?_eq_some_iff.1 h
  unfold PBox
  simp [World.setCell, hg, Array.getElem_modify, he]
theorem RW.set0 (h : RW w wr B pb rb ob a b c s x y z v zs) (u : Int) : RW w (wr.setCell ⟨ob, 0, none⟩ (.int .i64 u)) B pb rb ob a b c s u y z v zs := h.put 0 _ (h.o.set0 u) rfl
theorem RW.set1 (h : RW w wr B pb rb ob a b c s x y z v zs) (u : Int) : RW w (wr.setCell ⟨ob, 1, none⟩ (.int .i64 u)) B pb rb ob a b c s x u z v zs := h.put 1 _ (h.o.set1 u) rfl
theorem RW.set2 (h : RW w wr B pb rb ob a b c s x y z v zs) (u : Int) : RW w (wr.setCell ⟨ob, 2, none⟩ (.int .i64 u)) B pb rb ob a b c s x y u v zs := h.put 2 _ (h.o.set2 u) rfl
theorem RW.step (h : RW w wr B pb rb ob a b c s x y z v zs) (hb : Below B wr w') (ho : OwnI w' B v' zs') : RW w (w'.setCell ⟨ob, 3, none⟩ v') B pb rb ob a b c s x y z v' zs' := by
  have hgr : w'.grownBy (w'.setCell ⟨ob, 3, none⟩ v') (some ob) := ⟨rfl, rfl, rfl, by simp [World.setCell], fun q _ hne => Below.heap_setCell w' ⟨ob, 3, none⟩ _ q (fun e => hne (by rw [e]))⟩
  refine ⟨PBox.other (w := w') ((hb.block _ h.pB).trans h.p) (p := ⟨ob, 3, none⟩) h.po _, PBox.other (w := w') ((hb.block _ h.rB).trans h.r) (p := ⟨ob, 3, none⟩) h.ro _, PBox.set (w := w') ((hb.block _ h.oB).trans h.o) _, ho.grown hgr ?_, (h.below.trans (hb.mono h.wB)).setCell h.wo _, h.pB, h.rB, h.oB, h.po, h.ro, h.wo, h.wr', by simpa [World.setCell] using Nat.le_trans h.sz hb.size, h.wB⟩
  rcases hv : v'.ownBlock with _ | g
  · exact .inl rfl
  · exact .inr (fun e => by have := ho.lt' g hv; have := h.oB; cases e; omega)
theorem RW.of (h : RW w wr B pb rb ob a b c s x y z v zs) (i : Nat) : wr.frozen? ⟨ob, i, none⟩ = false := frozen_of_row wr ob i _ _ h.o
theorem RW.rf (h : RW w wr B pb rb ob a b c s x y z v zs) (i : Nat) : wr.frozen? ⟨rb, i, none⟩ = false := frozen_of_row wr rb i _ _ h.r
theorem RW.x0 (h : RW w wr B pb rb ob a b c s x y z v zs) : cellI wr ob 0 = x ∧ cellI wr ob 1 = y ∧ cellI wr ob 2 = z := by
  obtain ⟨o0, o1, o2, -⟩ := h.o.cells
  unfold cellI
  rw [o0, o1, o2]
  exact ⟨rfl, rfl, rfl⟩
end
def msB (t : Value) (n : Nat) : Nat := match t with | .bool true => 0 | _ => n + 1
attribute [local irreducible] plainUpon stepC
set_option maxRecDepth 100000 in
set_option maxHeartbeats 4000000 in
theorem rleast_any (p : PatD) (hp : PatW p) (a1 b1 c1 : Int) (hL : Least (colF p) a1 b1 c1) (A : Option Addr) (cap : Nat) (w : World) (hi : PatIn w p A) :
    Calls Tryz.prog 58 #[.agg #[.int .i64 p.a, .int .i64 p.b, .int .i64 p.c, .slice A p.xs.length cap]] w fun e w' => ∃ v, e = .returned (.agg #[.int .i64 a1, .int .i64 b1, .int .i64 c1, v]) ∧ OwnI w' w.heap.size v (leastP (colF p) a1 b1 c1).xs ∧ Below w.heap.size w w' := by
  have HC := Lib.hid (fun x y h0 h1 h2 h3 w hi => rcolor_any p hp A p.xs.length cap x y h0 h1 h2 h3 w hi)
  have HPE := Lib.hid (fun dx dy r hr h0 h1 h2 h3 w hi => period_any p hp A cap dx dy r hr h0 h1 h2 h3 w hi)
  have HI := Lib.hid hi
  have HB := Lib.hid hp.base
  have HL := Lib.hid hL
  obtain ⟨l1, l2, l3, l4⟩ := hL.le hp.base
  have hcells := hL.cells hp.base
  rw [hp.len] at hcells
  have hsz := hp.sz
  have HD := Lib.hid (And.intro l3 l4)
  obtain ⟨a0, a2, -, -, c0, c2, -, -⟩ := hp
  have a10 := hL.a0
  have c10 := hL.c0
  have b10 := hL.b0
  have b11 := hL.b1
  obtain ⟨n1, hn1⟩ : ∃ n : Nat, a1 = n := ⟨a1.toNat, by omega⟩
  obtain ⟨m1, hm1⟩ : ∃ n : Nat, c1 = n := ⟨c1.toNat, by omega⟩
  subst hn1 hm1
  have HT := Lib.hid (show (leastP (colF p) n1 b1 m1).xs = tabN (colF p) n1 (n1 * m1) by simp [leastP])
  have hnm : n1 * m1 ≤ 1000000000 := by rw [← Int.natCast_mul] at hcells; omega
  rw [HT.out]
  clear hi hL l3 l4 hcells
  obtain ⟨F, hF⟩ : ∃ F, F = colF p := ⟨_, rfl⟩
  rw [← hF] at HC HPE HB HL
  rw [← hF]
  clear hF HT
  obtain ⟨a, ha⟩ : ∃ a, a = p.a := ⟨_, rfl⟩
  obtain ⟨b, hb⟩ : ∃ b, b = p.b := ⟨_, rfl⟩
  obtain ⟨c, hc⟩ : ∃ c, c = p.c := ⟨_, rfl⟩
  obtain ⟨s, hs⟩ : ∃ s, s = Value.slice A p.xs.length cap := ⟨_, rfl⟩
  rw [← ha, ← hb, ← hc, ← hs] at HC HPE
  rw [← ha, ← hb, ← hc, ← hs]
  rw [← ha] at a0 a2 l1 HD HB
  rw [← hc] at c0 c2 l2 HD HB
  rw [← hb] at HB
  clear ha hb hc hs
  go_enter Tryz.func58, Tryz.ntmps58
  go_upto_region 2 with fail
  have T0 := Lib.hid (RW.start w a b c s)
  obtain ⟨W, hW⟩ : ∃ W, W = ((w.alloc (.cells #[.int .i64 a, .int .i64 b, .int .i64 c, s] 24)).alloc (.cells #[.int .i64 0, .int .i64 0, .int .i64 0, .slice none 0 0] 24)).alloc (.cells #[.int .i64 1, .int .i64 0, .int .i64 1, .slice none 0 0] 24) := ⟨_, rfl⟩
  rw [← hW] at T0 ⊢
  obtain ⟨ob, hob⟩ : ∃ ob, ob = w.heap.size + 1 + 1 := ⟨_, rfl⟩
  obtain ⟨rb, hrb⟩ : ∃ rb, rb = w.heap.size + 1 := ⟨_, rfl⟩
  obtain ⟨B, hBB⟩ : ∃ B, B = w.heap.size + 1 + 1 + 1 := ⟨_, rfl⟩
  rw [← hBB, ← hob, ← hrb] at T0
  rw [← hob, ← hrb]
  clear hW hob hrb hBB
  go_loopw [] (fun wr => ∃ x : Int, 1 ≤ x ∧ x ≤ n1 ∧ Hid (RW w wr B w.heap.size rb ob a b c s x 0 1 (.slice none 0 0) [])) (fun wr => (n1 - cellI wr ob 0).toNat)
  case atStart => exact ⟨1, by omega, by omega, T0⟩
  case round =>
    clear T0
    obtain ⟨x, hx1, hx2, hr⟩ := hrel
    obtain ⟨p0, p1, p2, p3, p4⟩ := hr.out.p.cells
    obtain ⟨o0, o1, o2, o3, o4⟩ := hr.out.o.cells
    have f0 := hr.out.of 0
    have HMX := Lib.hid hr.out.x0.1
    have hne : (x == 0) = false := by rw [beq_eq_false_iff_ne]; omega
    have hmb0 := Int.emod_nonneg a (show x ≠ 0 by omega)
    have hmb1 := Int.emod_lt_of_pos a (show 0 < x by omega)
    obtain ⟨q, hq⟩ : ∃ q, q = a % x := ⟨_, rfl⟩
    have HQ := Lib.hid hq
    by_cases hq0 : q = 0
    · have d1' : ((a % x) != 0) = false := by rw [← hq, hq0]; rfl
      clear hq0 hq
      go_wp2_with fail
      by_cases hp : Per F x 0
      · refine (HPE.out x 0 true ⟨fun _ => (sameOn_per HB.out).2 hp, fun _ => rfl⟩ (by omega) (by omega) (by omega) (by omega) wr (HI.out.below hr.out.below)).mono ?_
        rintro e w2 ⟨rfl, hb2⟩
        obtain rfl : (n1 : Int) = x := by have := HL.out.la x (by omega) hp; omega
        have R2 := Lib.hid (hr.out.keep hb2)
        clear hr hp hb2 p0 p1 p2 p3 p4 o0 o1 o2 o3 o4 f0 HQ HMX hmb0 hmb1 d1' hne
        go_upto_region 5 with fail
        go_loopw [4] (fun t wr => ∃ (f : Bool) (y z : Int), t = .bool f ∧ 1 ≤ z ∧ z ≤ m1 ∧ (f = true → y = b1 ∧ z = m1) ∧ Hid (RW w wr B w.heap.size rb ob a b c s n1 y z (.slice none 0 0) [])) (fun t wr => msB t (m1 + 1 - cellI wr ob 2).toNat)
        case atStart => exact ⟨false, 0, 1, rfl, by omega, by omega, fun h => (by cases h), R2⟩
        case round =>
          clear R2
          obtain ⟨f, y, z, rfl, hz1, hz2, hf, hr⟩ := hrel
          have HMZ := Lib.hid hr.out.x0.2.2
          obtain ⟨p0, p1, p2, p3, p4⟩ := hr.out.p.cells
          obtain ⟨o0, o1, o2, o3, o4⟩ := hr.out.o.cells
          have f1 := hr.out.of 1
          cases f with
          | true =>
            obtain ⟨hyb, hzm⟩ := hf rfl
            subst hyb hzm
            have R3 := Lib.hid (show ∃ v, RW w wr B w.heap.size rb ob a b c s n1 y m1 v (tabN F n1 (0 * n1)) from ⟨_, by rw [Nat.zero_mul]; exact hr.out⟩)
            clear hf hr p0 p1 p2 p3 p4 o0 o1 o2 o3 o4 f1 HMZ
            go_wp2
            go_loopw [5] (fun t wr => ∃ k : Nat, t = .int .i64 k ∧ k ≤ m1 ∧ Hid (∃ v, RW w wr B w.heap.size rb ob a b c s n1 y m1 v (tabN F n1 (k * n1)))) (fun t _ => m1 - (intOf t).toNat)
            case atStart => exact ⟨0, rfl, by omega, R3⟩
            case round =>
              clear R3
              obtain ⟨k, rfl, hk, hr⟩ := hrel
              obtain ⟨v, hT⟩ := hr.out
              obtain ⟨o0, o1, o2, o3, o4⟩ := hT.o.cells
              by_cases hlt : k < m1
              · have R0 := Lib.hid (show ∃ v, RW w wr B w.heap.size rb ob a b c s n1 y m1 v (tabN F n1 (k * n1 + 0)) from ⟨v, hT⟩)
                clear hr hT
                go_wp2
                go_loopw [6] (fun t wq => ∃ i : Nat, t = .int .i64 i ∧ i ≤ n1 ∧ Hid (∃ v, RW w wq B w.heap.size rb ob a b c s n1 y m1 v (tabN F n1 (k * n1 + i)))) (fun t _ => n1 - (intOf t).toNat)
                case atStart => exact ⟨0, rfl, by omega, R0⟩
                case round =>
                  clear R0 o0 o1 o2 o3 o4 v
                  obtain ⟨i, rfl, hi, hq⟩ := hrel
                  obtain ⟨v, hT⟩ := hq.out
                  obtain ⟨p0, p1, p2, p3, p4⟩ := hT.p.cells
                  obtain ⟨o0, o1, o2, o3, o4⟩ := hT.o.cells
                  by_cases hil : i < n1
                  · have HT := Lib.hid hT
                    have hlen : k * n1 + i ≤ 1000000000 - 1 := by
                      have h1 : (k + 1) * n1 ≤ m1 * n1 := Nat.mul_le_mul_right n1 (by omega)
                      rw [Nat.add_mul, Nat.one_mul, Nat.mul_comm m1 n1] at h1
                      omega
                    have HTN := Lib.hid (tabN_step (F := F) (k := k) hil)
                    obtain ⟨z, hz⟩ : ∃ z, z = F i k := ⟨_, rfl⟩
                    have HZ := Lib.hid hz
                    have hpB := hT.pB
                    have hoB := hT.oB
                    clear hT hq hz
                    go_upto_region 19 with fail
                    refine region_last1 (C := fun w' => ∃ x : SubW B wr, w' = x.val) [0, 1, 2, 3, 4] [5, 6, 7, 8, 9] 9 (by kernel_rfl) (by kernel_rfl) (sub_start B wr) ?_
                    simp only [pickL, List.getElem?_cons_zero, List.getElem?_cons_succ]
                    repeat (go_big_quiet_step (fail))
                    refine wpQuiet_nil ?_
                    obtain ⟨w2, hw2⟩ : ∃ w2 : World, w2 = { wr with drawn := wr.drawn + 1 } := ⟨_, rfl⟩
                    rw [← hw2]
                    have hb2 : Below wr.heap.size wr w2 := by rw [hw2]; exact (Below.refl _ _).drew
                    have hsz := HT.out.sz
                    clear hw2
                    refine d_call 80 #[.agg #[.int .i64 a, .int .i64 b, .int .i64 c, s], .int .i64 i, .int .i64 k] rfl (by go_simp) (sub_of (hb2.mono hsz)) ?_
                    refine (HC.out i k (by omega) (by omega) (by omega) (by omega) w2 ((HI.out.below HT.out.below).below hb2)).mono ?_
                    rintro e w3 ⟨rfl, hb3⟩
                    have hb3' := hb2.trans (hb3.mono hb2.size)
                    refine ⟨_, rfl, ?_⟩
                    rw [← HZ.out]
                    refine d_val (.slice (some ⟨w3.heap.size, 0, none⟩) 1 1) (w3.alloc (.cells #[.int .i64 z] 3)) rfl (by go_simp) (sub_of (hb3'.mono hsz)) ?_
                    have hal := (Below.refl w3.heap.size w3).alloc (Nat.le_refl _) (.cells #[.int .i64 z] 3)
                    have hb4 := hb3'.trans (hal.mono hb3'.size)
                    obtain ⟨v', w5, r1, r2, r3, -⟩ := ap_i64 w3 22 B v _ z (OwnI.keep hb3' HT.out.own) (by rw [tabN_length]; omega) (Nat.le_trans hsz hb3'.size)
                    obtain ⟨A5, n5, hv5, -⟩ := r2.isL
                    obtain ⟨m5, hm5⟩ : ∃ m5, m5 = (tabN F n1 (k * n1 + i) ++ [z]).length := ⟨_, rfl⟩
                    rw [← hm5] at hv5
                    clear hm5
                    subst hv5
                    have hb5 := (hb3'.mono hsz).grown r3 (Nat.le_trans hsz hb3'.size) (fun g hg => (HT.out.own.lt' g hg).1)
                    refine d_val (.slice A5 _ n5) w5 rfl (ap_exec (.tmp 74) (.tmp 79) 22 rfl v (.slice (some ⟨w3.heap.size, 0, none⟩) 1 1) _ w5 rfl rfl r1) (sub_of (hb4.mono hsz)) ?_
                    refine d_val (.pointer (some ⟨ob, 3, none⟩)) w5 rfl (by go_simp) (sub_of hb5) ?_
                    have z1 := (hb5.cell (p := ⟨ob, 3, none⟩) hoB).trans o3
                    have z2 : w5.frozen? ⟨ob, 3, none⟩ = false := frozen_of_row w5 ob 3 _ _ ((hb5.block _ hoB).trans HT.out.o)
                    have T6 := HT.out.step hb5 r2
                    rw [HZ.out, ← HTN.out] at T6
                    have HT6 := Lib.hid T6
                    refine d_skip (w5.setCell ⟨ob, 3, none⟩ (.slice A5 m5 n5)) rfl (by go_simp) (sub_of hb5) ?_
                    obtain ⟨w6, hw6⟩ : ∃ w6, w6 = w5.setCell ⟨ob, 3, none⟩ (.slice A5 m5 n5) := ⟨_, rfl⟩
                    rw [← hw6] at HT6
                    show plainD _ _ _ _ _ _ _
                    rw [← hw6]
                    clear hw6 T6 z1 z2 hb5 r1 r2 r3 hb4 hal hb3' hb3 hb2 HT o0 o1 o2 o3 o4 p0 p1 p2 p3 p4 hpB hoB
                    simp only [plainD]
                    go_simp
                    go_wp2
                    go_roundw
                    case rel => exact ⟨i + 1, by go_num, by omega, Lib.hid ⟨_, HT6.out⟩⟩
                    case measure => simp [intOf]; omega
                  · obtain rfl : i = n1 := by omega
                    have R2 := Lib.hid (show ∃ v, RW w wr B w.heap.size rb ob a b c s i y m1 v (tabN F i ((k + 1) * i)) from by rw [Nat.add_mul, Nat.one_mul]; exact ⟨v, hT⟩)
                    clear hq hT
                    go_wp2
                    go_roundw
                    case rel => exact ⟨k + 1, by go_num, by omega, R2⟩
                    case measure => simp [intOf]; omega
              · obtain rfl : k = m1 := by omega
                obtain ⟨A1, n2, hv, -⟩ := hT.own.isL
                obtain ⟨nn, hnn⟩ : ∃ nn, nn = (tabN F n1 (k * n1)).length := ⟨_, rfl⟩
                rw [← hnn] at hv
                clear hnn
                subst hv
                obtain ⟨q0, q1, q2, q3, q4⟩ := hT.r.cells
                have g0 := hT.rf 0
                have g1 := hT.rf 1
                have g2 := hT.rf 2
                have g3 := hT.rf 3
                have HP4 := Lib.hid (put_ret hT.r hT.below hT.wr' ⟨n1, y, k, tabN F n1 (k * n1)⟩ _ hT.own hT.wB hT.rB)
                have HNK := Lib.hid (Nat.mul_comm n1 k)
                clear hT hr
                go_wp2
                refine bodyPost_ret (v := .agg #[.int .i64 n1, .int .i64 y, .int .i64 k, .slice A1 nn n2]) (ret_pat rfl rfl HP4.out.1) rfl ?_
                rw [HNK.out]
                exact ⟨_, rfl, HP4.out.2⟩
          | false =>
            have R3 := Lib.hid (hr.out.set1 0)
            clear hf hr p0 p1 p2 p3 p4
            go_upto_region 7 with fail
            obtain ⟨W3, hW3⟩ : ∃ W3, W3 = wr.setCell ⟨ob, 1, none⟩ (.int .i64 0) := ⟨_, rfl⟩
            rw [← hW3] at R3 ⊢
            clear hW3 o0 o1 o2 o3 o4 f1
            go_loopw [4] (fun t wq => ∃ (f : Bool) (y : Int), t = .bool f ∧ 0 ≤ y ∧ y ≤ n1 ∧ (f = false → z = m1 → y ≤ b1) ∧ (f = true → y = b1 ∧ z = m1) ∧ Hid (RW w wq B w.heap.size rb ob a b c s n1 y z (.slice none 0 0) [])) (fun t wq => msB t (n1 - cellI wq ob 1).toNat)
            case atStart => exact ⟨false, 0, rfl, by omega, by omega, fun _ _ => by omega, fun h => (by cases h), R3⟩
            case round =>
              clear R3
              obtain ⟨f, y, rfl, hy0, hy1, hy2, hf, hq⟩ := hrel
              have HMY := Lib.hid hq.out.x0.2.1
              obtain ⟨p0, p1, p2, p3, p4⟩ := hq.out.p.cells
              obtain ⟨o0, o1, o2, o3, o4⟩ := hq.out.o.cells
              have f1 := hq.out.of 1
              have f2 := hq.out.of 2
              have hne : (z == 0) = false := by rw [beq_eq_false_iff_ne]; omega
              have hmb0 := Int.emod_nonneg c (show z ≠ 0 by omega)
              have hmb1 := Int.emod_lt_of_pos c (show 0 < z by omega)
              cases f with
              | true =>
                obtain ⟨rfl, rfl⟩ := hf rfl
                have d1 : decide (y < (n1 : Int)) = true := decide_eq_true b11
                clear hf hy2
                go_wp2
                go_roundw
                case rel => exact ⟨true, y, m1, rfl, by omega, by omega, fun _ => ⟨rfl, rfl⟩, hq⟩
                case measure => simp [msB]
              | false =>
                clear hf
                by_cases hja : y < n1
                · have d1 : decide (y < (n1 : Int)) = true := decide_eq_true hja
                  obtain ⟨q, hq0⟩ : ∃ q, q = c % z := ⟨_, rfl⟩
                  have HQ := Lib.hid hq0
                  by_cases hzz : q = 0
                  · have d3 : ((c % z) == 0) = true := by rw [← hq0, hzz]; rfl
                    clear hq0 hzz
                    go_wp2_with fail
                    by_cases hp : Per F y z
                    · refine (HPE.out y z true ⟨fun _ => (sameOn_per HB.out).2 hp, fun _ => rfl⟩ (by omega) (by omega) (by omega) (by omega) wr (HI.out.below hq.out.below)).mono ?_
                      rintro e w2 ⟨rfl, hb2⟩
                      have hzm : z = m1 := by have := HL.out.lc y z (by omega) hp; omega
                      have hyb : y = b1 := HL.out.b_uniq hy0 hja (by rw [← hzm]; exact hp)
                      have R4 := Lib.hid (hq.out.keep hb2)
                      clear hq hb2 hp p0 p1 p2 p3 p4 o0 o1 o2 o3 o4 f1 f2 d3 HQ hmb0 hmb1 hy2
                      go_wp2
                      go_roundw
                      case rel => exact ⟨true, y, rfl, by omega, by omega, fun h => (by cases h), fun _ => ⟨hyb, hzm⟩, R4⟩
                      case measure => simp [msB]
                    · refine (HPE.out y z false ⟨fun h => (by cases h), fun h => absurd ((sameOn_per HB.out).1 h) hp⟩ (by omega) (by omega) (by omega) (by omega) wr (HI.out.below hq.out.below)).mono ?_
                      rintro e w2 ⟨rfl, hb2⟩
                      have hst : z = m1 → y + 1 ≤ b1 := fun e => by
                        have h1 := hy2 (by first | rfl | trivial) e
                        by_cases h2 : y = b1
                        · exact absurd (by rw [h2, e]; exact HL.out.pb) hp
                        · omega
                      have R1 := Lib.hid (hq.out.keep hb2)
                      clear hq hb2 hp p0 p1 p2 p3 p4 o0 o1 o2 o3 o4 f1 f2 hy2
                      obtain ⟨o0, o1, o2, o3, o4⟩ := R1.out.o.cells
                      have f1 := R1.out.of 1
                      have R4 := Lib.hid (R1.out.set1 (y + 1))
                      have hm2 := R4.out.x0.2.1
                      clear R1
                      go_wp2
                      go_roundw
                      case rel => exact ⟨false, y + 1, rfl, by omega, by omega, fun _ => hst, fun h => (by cases h), R4⟩
                      case measure => simp only [msB]; rw [hm2, HMY.out]; omega
                  · have d3 : ((c % z) == 0) = false := by rw [← hq0, beq_eq_false_iff_ne]; exact hzz
                    have hkc : z ≠ m1 := fun e => hzz (by rw [hq0, e]; exact HD.out.2)
                    have R4 := Lib.hid (hq.out.set1 (y + 1))
                    have hm2 := R4.out.x0.2.1
                    clear hq0 hzz hy2 hq
                    go_wp2
                    go_roundw
                    case rel => exact ⟨false, y + 1, rfl, by omega, by omega, fun _ e => absurd e hkc, fun h => (by cases h), R4⟩
                    case measure => simp only [msB]; rw [hm2, HMY.out]; omega
                · have d1 : decide (y < (n1 : Int)) = false := decide_eq_false hja
                  have hkc : z ≠ m1 := fun e => by have := hy2 (by first | rfl | trivial) e; omega
                  have R4 := Lib.hid (hq.out.set2 (z + 1))
                  have hm2 := R4.out.x0.2.2
                  clear hy2 hq
                  go_wp2
                  go_roundw
                  case rel => exact ⟨false, y, z + 1, rfl, by omega, by omega, fun h => (by cases h), R4⟩
                  case measure => simp only [msB]; rw [hm2, HMZ.out]; omega
      · refine (HPE.out x 0 false ⟨fun h => (by cases h), fun h => absurd ((sameOn_per HB.out).1 h) hp⟩ (by omega) (by omega) (by omega) (by omega) wr (HI.out.below hr.out.below)).mono ?_
        rintro e w2 ⟨rfl, hb2⟩
        have hka : x ≠ n1 := fun e => hp (by rw [e]; exact HL.out.pa)
        have R1 := Lib.hid (hr.out.keep hb2)
        clear hr hp hb2 p0 p1 p2 p3 p4 o0 o1 o2 o3 o4 f0
        obtain ⟨o0, o1, o2, o3, o4⟩ := R1.out.o.cells
        have f0 := R1.out.of 0
        have R2 := Lib.hid (R1.out.set0 (x + 1))
        have hm2 := R2.out.x0.1
        have hm1 := R1.out.x0.1
        clear R1
        go_wp2
        go_roundw
        case rel => exact ⟨x + 1, by omega, by omega, R2⟩
        case measure => rw [hm2, HMX.out]; omega
    · have hka : x ≠ n1 := fun e => hq0 (by rw [HQ.out, e]; exact HD.out.1)
      have d1' : ((a % x) != 0) = true := by rw [bne_iff_ne, ← hq]; exact hq0
      clear hq0 hq
      have R2 := Lib.hid (hr.out.set0 (x + 1))
      have hm2 := R2.out.x0.1
      have hm1 := hr.out.x0.1
      clear hr
      go_wp2
      go_roundw
      case rel => exact ⟨x + 1, by omega, by omega, R2⟩
      case measure => rw [hm2, HMX.out]; omega
end Go.Proofs.YtlinldbbhdpgcaaGreatDoor
/-
  THE REFERENCE: Validate, Least, Equal.
-/
namespace Go.Proofs.YtlinldbbhdpgcaaGreatDoor
open Go.RowKit
theorem badC_within (x : Int) : (decide (0 ≤ x) && decide (x ≤ 7)) = !badC x := by
  unfold badC
  by_cases h1 : x < 0
  · rw [decide_eq_false (by omega : ¬ 0 ≤ x), decide_eq_true h1]; rfl
  · rw [decide_eq_true (by omega : 0 ≤ x), decide_eq_false h1]
    by_cases h2 : 8 ≤ x
    · rw [decide_eq_true h2, decide_eq_false (by omega : ¬ x ≤ 7)]; rfl
    · rw [decide_eq_false h2, decide_eq_true (by omega : x ≤ 7)]; rfl
set_option maxRecDepth 100000 in
set_option maxHeartbeats 1000000 in
theorem rvalidateP_any (p : PatD) (hl : p.xs.length ≤ 1000000) (z : Int) (hz : valP p = z) (A : Option Addr) (cap : Nat) (w : World) (hi : PatIn w p A) :
    Calls Tryz.prog 57 #[.agg #[.int .i64 p.a, .int .i64 p.b, .int .i64 p.c, .slice A p.xs.length cap]] w fun e w' => e = .returned (.int .i64 z) ∧ Below w.heap.size w w' := by
  obtain ⟨a, b, c, xs⟩ := p
  simp only at hl ⊢
  have HI := Lib.hid (show IsL w A xs.length xs from hi)
  have HZ := Lib.hid (show (if a < 1 ∨ 144 < a ∨ c < 1 ∨ 144 < c ∨ b < 0 ∨ a ≤ b then 1 else if 144 < a * c then 4 else if (xs.length : Int) ≠ a * c ∨ xs.any badC = true then 1 else 0) = z from hz)
  clear hi hz
  obtain ⟨r1, hr1⟩ : ∃ r, (decide (1 ≤ a) && decide (a ≤ 144)) = r := ⟨_, rfl⟩
  obtain ⟨r2, hr2⟩ : ∃ r, (decide (1 ≤ c) && decide (c ≤ 144)) = r := ⟨_, rfl⟩
  obtain ⟨r3, hr3⟩ : ∃ r, (decide (0 ≤ b) && decide (b ≤ a - 1)) = r := ⟨_, rfl⟩
  have hor : (a < 1 ∨ 144 < a ∨ c < 1 ∨ 144 < c ∨ b < 0 ∨ a ≤ b) ↔ ¬ (r1 = true ∧ r2 = true ∧ r3 = true) := by
    rw [← hr1, ← hr2, ← hr3]; simp only [Bool.and_eq_true, decide_eq_true_eq]; omega
  have W1 := Lib.hid (pwithin_any a 1 144 r1 hr1)
  have W2 := Lib.hid (pwithin_any c 1 144 r2 hr2)
  have W3 := Lib.hid (pwithin_any b 0 (a - 1) r3 hr3)
  have HOR := Lib.hid hor
  by_cases hall : r1 = true ∧ r2 = true ∧ r3 = true
  · obtain ⟨rfl, rfl, rfl⟩ := hall
    simp only [Bool.and_eq_true, decide_eq_true_eq] at hr1 hr2 hr3
    have hz2 := HZ.out
    rw [if_neg (fun h => (hor.1 h) ⟨rfl, rfl, rfl⟩)] at hz2
    obtain ⟨a0, a1⟩ := hr1
    obtain ⟨c0, c1⟩ := hr2
    obtain ⟨b0, b1⟩ := hr3
    have hac : a * c ≤ 144 * 144 := Int.mul_le_mul a1 c1 (by omega) (by omega)
    have hac0 : 0 ≤ a * c := Int.mul_nonneg (by omega) (by omega)
    obtain ⟨m, hm⟩ : ∃ m, m = a * c := ⟨_, rfl⟩
    have k1 : IntKind.i64.wrap (a * c) = m := by rw [hm]; exact IntWalk.i64_in _ (by omega)
    rw [← hm] at hz2 hac hac0
    clear hm HZ hor HOR
    by_cases h2 : 144 < m
    · have HR := Lib.hid (show 4 = z by rw [← hz2, if_pos h2])
      have d7 : decide (144 < m) = true := decide_eq_true h2
      clear hz2
      go_enter Tryz.func57, Tryz.ntmps57
      go_wp2_with (go_at_call 82; (first | (with_reducible refine (W1.out _).mono ?_) | (with_reducible refine (W2.out _).mono ?_) | (with_reducible refine (W3.out _).mono ?_)); rintro e w' ⟨rfl, rfl⟩)
      go_ret
      exact ⟨by rw [← HR.out]; rfl, (by repeat' (first | (with_reducible exact Below.refl _ _) | (with_reducible assumption) | (with_reducible refine below_drewN ?_ _) | (with_reducible refine below_step (by assumption) ?_ ?_) | (with_reducible refine Below.alloc ?_ ?_ _) | (with_reducible refine Below.setCell ?_ ?_ _) | (with_reducible refine Below.drew ?_) | go_size | (exact Below.size (by assumption)) | (refine Nat.le_trans (Below.size (by assumption)) ?_)))⟩
    · rw [if_neg h2] at hz2
      have d7 : decide (144 < m) = false := decide_eq_false h2
      by_cases h3 : (xs.length : Int) = m
      · have d8 : ((xs.length : Int) != m) = false := by simp [h3]
        have HR := Lib.hid (show (if xs.any badC = true then 1 else 0) = z by
          rw [← hz2]
          by_cases hb : xs.any badC = true
          · rw [if_pos hb, if_pos (.inr hb)]
          · rw [if_neg hb, if_neg (fun h => h.elim (fun h => h h3) hb)])
        clear hz2 h3 h2
        go_enter Tryz.func57, Tryz.ntmps57
        go_upto_region 8 with (go_at_call 82; (first | (with_reducible refine (W1.out _).mono ?_) | (with_reducible refine (W2.out _).mono ?_) | (with_reducible refine (W3.out _).mono ?_)); rintro e w' ⟨rfl, rfl⟩)
        obtain ⟨W, hW⟩ : ∃ W, W = w.alloc (.cells #[.int .i64 a, .int .i64 b, .int .i64 c, .slice A xs.length cap] 24) := ⟨_, rfl⟩
        rw [← hW]
        have hbl := Lib.hid (show Below w.heap.size w W by rw [hW]; exact (by repeat' (first | (with_reducible exact Below.refl _ _) | (with_reducible assumption) | (with_reducible refine below_drewN ?_ _) | (with_reducible refine below_step (by assumption) ?_ ?_) | (with_reducible refine Below.alloc ?_ ?_ _) | (with_reducible refine Below.setCell ?_ ?_ _) | (with_reducible refine Below.drew ?_) | go_size | (exact Below.size (by assumption)) | (refine Nat.le_trans (Below.size (by assumption)) ?_))))
        obtain ⟨q0, q1, q2, q3, q4⟩ := (show PBox W w.heap.size a b c (.slice A xs.length cap) by rw [hW]; exact PBox.new w a b c _).cells
        clear hW d7 d8 k1
        go_loopw [3] (fun t wr => ∃ k : Nat, t = .int .i64 k ∧ k ≤ xs.length ∧ wr = W ∧ Hid ((xs.take k).any badC = false)) (fun t _ => xs.length - (intOf t).toNat)
        case atStart => exact ⟨0, rfl, by omega, rfl, Lib.hid (by simp)⟩
        case round =>
          obtain ⟨k, rfl, hk, rfl, hr⟩ := hrel
          by_cases hlt : k < xs.length
          · obtain ⟨bk, o, rfl, hbz, hcx⟩ := (HI.out.below hbl.out).2 (by omega)
            have r1 := hcx k hlt
            have hat := pany_take xs badC hlt
            have hah := pany_hit xs badC hlt
            rw [hr.out, Bool.false_or] at hat
            rw [pgetD_at hlt] at hat hah
            obtain ⟨x, hx⟩ : ∃ x, x = xs.getD k 0 := ⟨_, rfl⟩
            rw [← hx] at r1 hat hah
            have WX := Lib.hid (pwithin_any x 0 7 (!badC x) (badC_within x))
            obtain ⟨t, ht⟩ : ∃ t, t = badC x := ⟨_, rfl⟩
            rw [← ht] at hat hah WX
            have HAT := Lib.hid hat
            have HAH := Lib.hid hah
            clear hcx hx ht hat hah
            cases t with
            | true =>
              have HR2 := Lib.hid (show 1 = z by rw [← HR.out, if_pos (HAH.out rfl)])
              go_wp2_with fail
              refine (WX.out _).mono ?_
              rintro e w' ⟨rfl, rfl⟩
              go_wp2
              go_ret
              exact ⟨by rw [← HR2.out]; rfl, hbl.out⟩
            | false =>
              go_wp2_with fail
              refine (WX.out _).mono ?_
              rintro e w' ⟨rfl, rfl⟩
              go_wp2
              go_roundw
              case rel => exact ⟨k + 1, by go_num, by omega, trivial, Lib.hid HAT.out⟩
              case measure => simp [intOf]; omega
          · obtain rfl : k = xs.length := by omega
            have HR2 := Lib.hid (show 0 = z by
              have := hr.out
              rw [List.take_length] at this
              rw [← HR.out, this]; rfl)
            clear hr
            go_wp2
            go_ret
            exact ⟨by rw [← HR2.out]; rfl, hbl.out⟩
      · have d8 : ((xs.length : Int) != m) = true := by rw [bne_iff_ne]; exact h3
        have HR := Lib.hid (show 1 = z by rw [← hz2, if_pos (.inl h3)])
        clear hz2 h3 h2
        go_enter Tryz.func57, Tryz.ntmps57
        go_wp2_with (go_at_call 82; (first | (with_reducible refine (W1.out _).mono ?_) | (with_reducible refine (W2.out _).mono ?_) | (with_reducible refine (W3.out _).mono ?_)); rintro e w' ⟨rfl, rfl⟩)
        go_ret
        exact ⟨by rw [← HR.out]; rfl, (by repeat' (first | (with_reducible exact Below.refl _ _) | (with_reducible assumption) | (with_reducible refine below_drewN ?_ _) | (with_reducible refine below_step (by assumption) ?_ ?_) | (with_reducible refine Below.alloc ?_ ?_ _) | (with_reducible refine Below.setCell ?_ ?_ _) | (with_reducible refine Below.drew ?_) | go_size | (exact Below.size (by assumption)) | (refine Nat.le_trans (Below.size (by assumption)) ?_)))⟩
  · have HR := Lib.hid (show 1 = z by rw [← HZ.out, if_pos (hor.2 hall)])
    have HA := Lib.hid (show r1 = true → 1 ≤ a ∧ a ≤ 144 from fun h => by rw [h] at hr1; simpa using hr1)
    clear HZ hor hr1 hr2 hr3
    cases r1 with
    | false =>
      go_enter Tryz.func57, Tryz.ntmps57
      go_wp2_with fail
      refine (W1.out _).mono ?_
      rintro e w' ⟨rfl, rfl⟩
      go_wp2
      go_ret
      exact ⟨by rw [← HR.out]; rfl, (by repeat' (first | (with_reducible exact Below.refl _ _) | (with_reducible assumption) | (with_reducible refine below_drewN ?_ _) | (with_reducible refine below_step (by assumption) ?_ ?_) | (with_reducible refine Below.alloc ?_ ?_ _) | (with_reducible refine Below.setCell ?_ ?_ _) | (with_reducible refine Below.drew ?_) | go_size | (exact Below.size (by assumption)) | (refine Nat.le_trans (Below.size (by assumption)) ?_)))⟩
    | true =>
      cases r2 with
      | false =>
        go_enter Tryz.func57, Tryz.ntmps57
        go_wp2_with fail
        refine (W1.out _).mono ?_
        rintro e w' ⟨rfl, rfl⟩
        go_wp2_with fail
        refine (W2.out _).mono ?_
        rintro e w' ⟨rfl, rfl⟩
        go_wp2
        go_ret
        exact ⟨by rw [← HR.out]; rfl, (by repeat' (first | (with_reducible exact Below.refl _ _) | (with_reducible assumption) | (with_reducible refine below_drewN ?_ _) | (with_reducible refine below_step (by assumption) ?_ ?_) | (with_reducible refine Below.alloc ?_ ?_ _) | (with_reducible refine Below.setCell ?_ ?_ _) | (with_reducible refine Below.drew ?_) | go_size | (exact Below.size (by assumption)) | (refine Nat.le_trans (Below.size (by assumption)) ?_)))⟩
      | true =>
        cases r3 with
        | true => exact absurd ⟨rfl, rfl, rfl⟩ hall
        | false =>
          clear hall
          have ha := HA.out rfl
          have ha1 := ha.1
          have ha2 := ha.2
          clear ha
          go_enter Tryz.func57, Tryz.ntmps57
          go_wp2_with fail
          refine (W1.out _).mono ?_
          rintro e w' ⟨rfl, rfl⟩
          go_wp2_with fail
          refine (W2.out _).mono ?_
          rintro e w' ⟨rfl, rfl⟩
          go_wp2_with fail
          refine (W3.out _).mono ?_
          rintro e w' ⟨rfl, rfl⟩
          go_wp2
          go_ret
          exact ⟨by rw [← HR.out]; rfl, (by repeat' (first | (with_reducible exact Below.refl _ _) | (with_reducible assumption) | (with_reducible refine below_drewN ?_ _) | (with_reducible refine below_step (by assumption) ?_ ?_) | (with_reducible refine Below.alloc ?_ ?_ _) | (with_reducible refine Below.setCell ?_ ?_ _) | (with_reducible refine Below.drew ?_) | go_size | (exact Below.size (by assumption)) | (refine Nat.le_trans (Below.size (by assumption)) ?_)))⟩
theorem leastO_ok {p : PatD} {a1 b1 c1 : Int} (h : valP p = 0) : leastO p a1 b1 c1 = leastP (colF p) a1 b1 c1 := by
  unfold leastO
  rw [if_neg (by rw [h]; simp)]
set_option maxRecDepth 100000 in
set_option maxHeartbeats 1000000 in
theorem rleastP_any (p : PatD) (hl : p.xs.length ≤ 1000000) (a1 b1 c1 : Int) (hL : LeastOf p a1 b1 c1) (A : Option Addr) (cap : Nat) (w : World) (hi : PatIn w p A) :
    Calls Tryz.prog 50 #[.agg #[.int .i64 p.a, .int .i64 p.b, .int .i64 p.c, .slice A p.xs.length cap]] w (OutP w (leastO p a1 b1 c1) (.int .i64 (valP p))) := by
  have HI := Lib.hid hi
  have HV := Lib.hid (fun w hi => rvalidateP_any p hl (valP p) rfl A cap w hi)
  obtain ⟨r, hr⟩ : ∃ r, r = OutP w (leastO p a1 b1 c1) (.int .i64 (valP p)) := ⟨_, rfl⟩
  rw [← hr]
  have HLE := Lib.hid hL
  obtain ⟨E, hE⟩ : ∃ E, E = valP p := ⟨_, rfl⟩
  unfold leastO at hr
  rw [← hE] at HV hr
  have HR := Lib.hid hr
  have HE := Lib.hid hE
  clear hi hL hr hE
  go_enter Tryz.func50, Tryz.ntmps50
  go_wp2_with fail
  have T0 : PBox ((w.alloc (.cells #[.int .i64 p.a, .int .i64 p.b, .int .i64 p.c, .slice A p.xs.length cap] 24)).alloc (.cells #[.int .i64 0, .int .i64 0, .int .i64 0, .slice none 0 0] 24)) w.heap.size p.a p.b p.c (.slice A p.xs.length cap) := (heap_alloc_old _ _ (by simp)).trans (heap_alloc_new w _)
  have U0 : PBox ((w.alloc (.cells #[.int .i64 p.a, .int .i64 p.b, .int .i64 p.c, .slice A p.xs.length cap] 24)).alloc (.cells #[.int .i64 0, .int .i64 0, .int .i64 0, .slice none 0 0] 24)) (w.heap.size + 1) 0 0 0 (.slice none 0 0) := by
    have := heap_alloc_new (w.alloc (.cells #[.int .i64 p.a, .int .i64 p.b, .int .i64 p.c, .slice A p.xs.length cap] 24)) (.cells #[.int .i64 0, .int .i64 0, .int .i64 0, .slice none 0 0] 24)
    unfold PBox
    simpa using this
  obtain ⟨W, hW⟩ : ∃ W, W = (w.alloc (.cells #[.int .i64 p.a, .int .i64 p.b, .int .i64 p.c, .slice A p.xs.length cap] 24)).alloc (.cells #[.int .i64 0, .int .i64 0, .int .i64 0, .slice none 0 0] 24) := ⟨_, rfl⟩
  have hb0 : Below w.heap.size w W := by rw [hW]; exact (by repeat' (first | (with_reducible exact Below.refl _ _) | (with_reducible assumption) | (with_reducible refine below_drewN ?_ _) | (with_reducible refine below_step (by assumption) ?_ ?_) | (with_reducible refine Below.alloc ?_ ?_ _) | (with_reducible refine Below.setCell ?_ ?_ _) | (with_reducible refine Below.drew ?_) | go_size | (exact Below.size (by assumption)) | (refine Nat.le_trans (Below.size (by assumption)) ?_)))
  rw [← hW] at T0 U0 ⊢
  obtain ⟨rb, hrb⟩ : ∃ rb, rb = w.heap.size + 1 := ⟨_, rfl⟩
  rw [← hrb] at U0 ⊢
  have hwr : w.heap.size ≤ rb := by omega
  have H0 := Lib.hid (And.intro T0 (And.intro U0 hb0))
  clear hW hrb T0 U0 hb0
  refine (HV.out W (HI.out.below H0.out.2.2)).mono ?_
  rintro e w1 ⟨rfl, hb1⟩
  have H1 := Lib.hid (And.intro (H0.out.1.keep hb1) (And.intro (H0.out.2.1.keep hb1) (H0.out.2.2.trans (hb1.mono H0.out.2.2.size))))
  clear H0 hb1 HV
  obtain ⟨q0, q1, q2, q3, q4⟩ := H1.out.1.cells
  obtain ⟨r0, r1, r2, r3, r4⟩ := H1.out.2.1.cells
  have f0 : w1.frozen? ⟨rb, 0, none⟩ = false := frozen_of_row w1 rb 0 _ _ H1.out.2.1
  have f1 : w1.frozen? ⟨rb, 1, none⟩ = false := frozen_of_row w1 rb 1 _ _ H1.out.2.1
  have f2 : w1.frozen? ⟨rb, 2, none⟩ = false := frozen_of_row w1 rb 2 _ _ H1.out.2.1
  have f3 : w1.frozen? ⟨rb, 3, none⟩ = false := frozen_of_row w1 rb 3 _ _ H1.out.2.1
  by_cases hz : E = 0
  · subst hz
    have hrf := HR.out
    rw [if_neg (by simp : ¬ (0 : Int) ≠ 0)] at hrf
    have HRF := Lib.hid hrf
    have hg := valP_zero HE.out.symm
    have HRES := Lib.hid (fun w hi => rleast_any p hg.ok.wide a1 b1 c1 (HLE.out HE.out.symm) A cap w hi)
    obtain ⟨xs, hxs⟩ : ∃ xs, xs = (leastP (colF p) a1 b1 c1).xs := ⟨_, rfl⟩
    have hPP : leastP (colF p) a1 b1 c1 = ⟨a1, b1, c1, xs⟩ := by rw [hxs]; rfl
    rw [← hxs] at HRES
    rw [hPP] at HRF
    clear hrf hg HR HE HLE hxs hPP
    go_wp2_with fail
    refine (HRES.out w1 (HI.out.below H1.out.2.2)).mono ?_
    rintro e w3 ⟨v, rfl, hown, hb3⟩
    obtain ⟨A3, n3, rfl, -⟩ := hown.isL
    have H3 := Lib.hid (And.intro (H1.out.2.1.keep hb3) (H1.out.2.2.trans (hb3.mono H1.out.2.2.size)))
    have HP3 := Lib.hid (put_ret H3.out.1 H3.out.2 hwr ⟨a1, b1, c1, xs⟩ _ hown H1.out.2.2.size (Array.getElem?_eq_some_iff.1 H1.out.2.1).1)
    clear hown hb3 H1 q0 q1 q2 q3 q4 r0 r1 r2 r3 r4 f0 f1 f2 f3
    obtain ⟨r0, r1, r2, r3, r4⟩ := H3.out.1.cells
    have f0 : w3.frozen? ⟨rb, 0, none⟩ = false := frozen_of_row w3 rb 0 _ _ H3.out.1
    have f1 : w3.frozen? ⟨rb, 1, none⟩ = false := frozen_of_row w3 rb 1 _ _ H3.out.1
    have f2 : w3.frozen? ⟨rb, 2, none⟩ = false := frozen_of_row w3 rb 2 _ _ H3.out.1
    have f3 : w3.frozen? ⟨rb, 3, none⟩ = false := frozen_of_row w3 rb 3 _ _ H3.out.1
    go_wp2
    refine bodyPost_ret (v := .tuple #[.agg #[.int .i64 a1, .int .i64 b1, .int .i64 c1, .slice A3 xs.length n3], .int .i64 0]) (ret_pat2 rfl rfl rfl HP3.out.1) rfl ?_
    rw [HRF.out]
    exact ⟨_, rfl, HP3.out.2⟩
  · have d1 : (E == 0) = false := by rw [beq_eq_false_iff_ne]; exact hz
    have d2 : (E != 0) = true := by rw [bne_iff_ne]; exact hz
    have hrf := HR.out
    rw [if_pos hz] at hrf
    have HRF := Lib.hid hrf
    have HP3 := Lib.hid (put_zero H1.out.2.1 H1.out.2.2 hwr)
    clear hrf HR hz HE H1
    go_wp2
    refine bodyPost_ret (v := .tuple #[.agg #[.int .i64 0, .int .i64 0, .int .i64 0, .slice none 0 0], .int .i64 E]) (ret_pat2 rfl rfl rfl HP3.out.1) rfl ?_
    rw [HRF.out]
    exact OutP.zero HP3.out.2
end Go.Proofs.YtlinldbbhdpgcaaGreatDoor
/-
  THE REFERENCE: Equal, Copy.
-/
namespace Go.Proofs.YtlinldbbhdpgcaaGreatDoor
open Go.RowKit
attribute [local go_sem] grow_cell grow_frozen
theorem two_boxes (w : World) (a b c : Int) (s : Value) (a' b' c' : Int) (s' : Value) :
    PBox ((w.alloc (.cells #[.int .i64 a, .int .i64 b, .int .i64 c, s] 24)).alloc (.cells #[.int .i64 a', .int .i64 b', .int .i64 c', s'] 24)) w.heap.size a b c s ∧ PBox ((w.alloc (.cells #[.int .i64 a, .int .i64 b, .int .i64 c, s] 24)).alloc (.cells #[.int .i64 a', .int .i64 b', .int .i64 c', s'] 24)) (w.heap.size + 1) a' b' c' s' := by
  refine ⟨(heap_alloc_old _ _ (by simp)).trans (heap_alloc_new w _), ?_⟩
  have := heap_alloc_new (w.alloc (.cells #[.int .i64 a, .int .i64 b, .int .i64 c, s] 24)) (.cells #[.int .i64 a', .int .i64 b', .int .i64 c', s'] 24)
  unfold PBox
  simpa using this
set_option maxRecDepth 100000 in
set_option maxHeartbeats 1000000 in
theorem equalP_any (p q : PatD) (hl : p.xs.length ≤ 1000000000) (hl2 : q.xs.length ≤ 1000000000) (r : Bool) (hr : r = true ↔ p = q) (A : Option Addr) (cap : Nat) (B : Option Addr) (cap2 : Nat) (w : World) (hi : PatIn w p A) (hq : PatIn w q B) :
    Calls Tryz.prog 21 #[.agg #[.int .i64 p.a, .int .i64 p.b, .int .i64 p.c, .slice A p.xs.length cap], .agg #[.int .i64 q.a, .int .i64 q.b, .int .i64 q.c, .slice B q.xs.length cap2]] w fun e w' => e = .returned (.bool r) ∧ Below w.heap.size w w' := by
  obtain ⟨a, b, c, xs⟩ := p
  obtain ⟨a', b', c', ys⟩ := q
  simp only at hl hl2 ⊢
  have HI := Lib.hid (show IsL w A xs.length xs from hi)
  have HQ := Lib.hid (show IsL w B ys.length ys from hq)
  rw [PatD.mk.injEq] at hr
  have HR := Lib.hid hr
  clear hi hq hr
  by_cases h1 : a = a'
  · subst h1
    have d1 : (a != a) = false := by simp
    by_cases h2 : b = b'
    · subst h2
      have d2 : (b != b) = false := by simp
      by_cases h3 : c = c'
      · subst h3
        have d3 : (c != c) = false := by simp
        by_cases h4 : xs.length = ys.length
        · have d4 : ((xs.length : Int) != (ys.length : Int)) = false := by rw [h4]; simp
          obtain ⟨n, hn⟩ : ∃ n, n = xs.length := ⟨_, rfl⟩
          have HN := Lib.hid (And.intro hn (hn.trans h4))
          have HI2 := Lib.hid (show IsL w A n xs by rw [hn]; exact HI.out)
          have HQ2 := Lib.hid (show IsL w B n ys by rw [hn, h4]; exact HQ.out)
          rw [← h4, ← hn]
          rw [← h4, ← hn] at d4
          have hn9 : n ≤ 1000000000 := by omega
          clear hn h4 HI HQ hl hl2
          go_enter Tryz.func21, Tryz.ntmps21
          go_upto_region 4 with fail
          have hbx := two_boxes w a b c (.slice A n cap) a b c (.slice B n cap2)
          obtain ⟨W, hW⟩ : ∃ W, W = (w.alloc (.cells #[.int .i64 a, .int .i64 b, .int .i64 c, .slice A n cap] 24)).alloc (.cells #[.int .i64 a, .int .i64 b, .int .i64 c, .slice B n cap2] 24) := ⟨_, rfl⟩
          have hb0 := Lib.hid (show Below w.heap.size w W by rw [hW]; exact (by repeat' (first | (with_reducible exact Below.refl _ _) | (with_reducible assumption) | (with_reducible refine below_drewN ?_ _) | (with_reducible refine below_step (by assumption) ?_ ?_) | (with_reducible refine Below.alloc ?_ ?_ _) | (with_reducible refine Below.setCell ?_ ?_ _) | (with_reducible refine Below.drew ?_) | go_size | (exact Below.size (by assumption)) | (refine Nat.le_trans (Below.size (by assumption)) ?_))))
          rw [← hW] at hbx ⊢
          obtain ⟨p0, p1, p2, p3, p4⟩ := hbx.1.cells
          obtain ⟨q0, q1, q2, q3, q4⟩ := hbx.2.cells
          clear hW hbx d1 d2 d3 d4
          go_loopw [5] (fun t wr => ∃ (k e : Nat), t = .int .i64 k ∧ k ≤ n ∧ wr = W.drewN e ∧ Hid (∀ j, j < k → xs.getD j 0 = ys.getD j 0)) (fun t _ => n - (intOf t).toNat)
          case atStart => exact ⟨0, 0, rfl, by omega, rfl, Lib.hid (fun j hj => by omega)⟩
          case round =>
            obtain ⟨k, e, rfl, hk, rfl, hr⟩ := hrel
            by_cases hlt : k < n
            · obtain ⟨b1, o1, rfl, hb1, hc1⟩ := (HI2.out.below hb0.out).2 (by omega)
              obtain ⟨b2, o2, rfl, hb2, hc2⟩ := (HQ2.out.below hb0.out).2 (by omega)
              have r1 := hc1 k hlt
              have r2 := hc2 k hlt
              obtain ⟨x, hx⟩ : ∃ x, x = xs.getD k 0 := ⟨_, rfl⟩
              obtain ⟨y, hy⟩ : ∃ y, y = ys.getD k 0 := ⟨_, rfl⟩
              rw [← hx] at r1
              rw [← hy] at r2
              have HXY := Lib.hid (And.intro hx hy)
              clear hc1 hc2 hx hy
              by_cases hz : x = y
              · have d5 : (x != y) = false := by simp [hz]
                have R2 := Lib.hid (show ∀ j, j < k + 1 → xs.getD j 0 = ys.getD j 0 from fun j hj => by
                  by_cases he : j < k
                  · exact hr.out j he
                  · obtain rfl : j = k := by omega
                    rw [← HXY.out.1, ← HXY.out.2]; exact hz)
                clear hz hr HXY
                go_wp2
                go_quiet (fail)
                go_wp2
                go_roundw
                case rel => exact ⟨k + 1, _, by go_num, by omega, rfl, R2⟩
                case measure => simp [intOf]; omega
              · have d5 : (x != y) = true := by rw [bne_iff_ne]; exact hz
                have HRF := Lib.hid (show r = false by
                  cases r with
                  | false => rfl
                  | true => exact absurd (by rw [HXY.out.1, HXY.out.2, ((HR.out.1 rfl).2.2.2)]) hz)
                clear hz hr HXY HR
                go_wp2
                go_quiet (fail)
                go_wp2
                go_ret
                exact ⟨by rw [HRF.out]; rfl, below_drewN (below_drewN hb0.out _) _⟩
            · obtain rfl : k = n := by omega
              have HRT := Lib.hid (show r = true from HR.out.2 ⟨by first | rfl | trivial, by first | rfl | trivial, by first | rfl | trivial, by
                apply List.ext_getElem
                · exact HN.out.1.symm.trans HN.out.2
                · intro j h1 h2
                  have := hr.out j (by rw [HN.out.1]; exact h1)
                  rw [← pgetD_at h1, ← pgetD_at h2] at this
                  exact this⟩)
              clear hr HR
              go_wp2
              go_ret
              exact ⟨by rw [HRT.out]; rfl, below_drewN hb0.out _⟩
        · have d4 : ((xs.length : Int) != (ys.length : Int)) = true := by rw [bne_iff_ne]; omega
          have HRF := Lib.hid (show r = false by
            cases r with
            | false => rfl
            | true => exact absurd (by rw [(HR.out.1 rfl).2.2.2]) h4)
          clear h4 HR
          go_enter Tryz.func21, Tryz.ntmps21
          go_wp2
          go_ret
          exact ⟨by rw [HRF.out]; rfl, (by repeat' (first | (with_reducible exact Below.refl _ _) | (with_reducible assumption) | (with_reducible refine below_drewN ?_ _) | (with_reducible refine below_step (by assumption) ?_ ?_) | (with_reducible refine Below.alloc ?_ ?_ _) | (with_reducible refine Below.setCell ?_ ?_ _) | (with_reducible refine Below.drew ?_) | go_size | (exact Below.size (by assumption)) | (refine Nat.le_trans (Below.size (by assumption)) ?_)))⟩
      · have d3 : (c != c') = true := by rw [bne_iff_ne]; exact h3
        have HRF := Lib.hid (show r = false by
          cases r with
          | false => rfl
          | true => exact absurd (HR.out.1 rfl).2.2.1 h3)
        clear h3 HR
        go_enter Tryz.func21, Tryz.ntmps21
        go_wp2
        go_ret
        exact ⟨by rw [HRF.out]; rfl, (by repeat' (first | (with_reducible exact Below.refl _ _) | (with_reducible assumption) | (with_reducible refine below_drewN ?_ _) | (with_reducible refine below_step (by assumption) ?_ ?_) | (with_reducible refine Below.alloc ?_ ?_ _) | (with_reducible refine Below.setCell ?_ ?_ _) | (with_reducible refine Below.drew ?_) | go_size | (exact Below.size (by assumption)) | (refine Nat.le_trans (Below.size (by assumption)) ?_)))⟩
    · have d2 : (b != b') = true := by rw [bne_iff_ne]; exact h2
      have HRF := Lib.hid (show r = false by
        cases r with
        | false => rfl
        | true => exact absurd (HR.out.1 rfl).2.1 h2)
      clear h2 HR
      go_enter Tryz.func21, Tryz.ntmps21
      go_wp2
      go_ret
      exact ⟨by rw [HRF.out]; rfl, (by repeat' (first | (with_reducible exact Below.refl _ _) | (with_reducible assumption) | (with_reducible refine below_drewN ?_ _) | (with_reducible refine below_step (by assumption) ?_ ?_) | (with_reducible refine Below.alloc ?_ ?_ _) | (with_reducible refine Below.setCell ?_ ?_ _) | (with_reducible refine Below.drew ?_) | go_size | (exact Below.size (by assumption)) | (refine Nat.le_trans (Below.size (by assumption)) ?_)))⟩
  · have d1 : (a != a') = true := by rw [bne_iff_ne]; exact h1
    have HRF := Lib.hid (show r = false by
      cases r with
      | false => rfl
      | true => exact absurd (HR.out.1 rfl).1 h1)
    clear h1 HR
    go_enter Tryz.func21, Tryz.ntmps21
    go_wp2
    go_ret
    exact ⟨by rw [HRF.out]; rfl, (by repeat' (first | (with_reducible exact Below.refl _ _) | (with_reducible assumption) | (with_reducible refine below_drewN ?_ _) | (with_reducible refine below_step (by assumption) ?_ ?_) | (with_reducible refine Below.alloc ?_ ?_ _) | (with_reducible refine Below.setCell ?_ ?_ _) | (with_reducible refine Below.drew ?_) | go_size | (exact Below.size (by assumption)) | (refine Nat.le_trans (Below.size (by assumption)) ?_)))⟩
/-- append(empty, xs...): the integers in new memory. -/
theorem ints_run (w : World) (ty : TypeId) (xs : List Int) (A : Option Addr) (c : Nat) (hP : IsL (w.alloc (.cells #[] 3)) A xs.length xs) (hn : xs.length ≤ 1000000000) :
    ∃ s w', (Builtin.append_ #[22, 22] ty #[.slice (some ⟨w.heap.size, 0, none⟩) 0 0, .slice A xs.length c]).run Tryz.prog (w.alloc (.cells #[] 3)) = .ok s w' ∧ OwnI w' w.heap.size s xs ∧ Below w.heap.size w w' := by
  have hown : (w.alloc (.cells #[] 3)).ownsRow w.heap.size 3 1 (.slice (some ⟨w.heap.size, 0, none⟩) 0 0) 0 [] :=
    ⟨by simp, .inr ⟨w.heap.size, 0, #[], rfl, Nat.le_refl _, heap_alloc_new w _, Nat.le_refl _, Nat.zero_le _, by simp, by simp⟩⟩
  have hal := (Below.refl w.heap.size w).alloc (Nat.le_refl _) (.cells #[] 3)
  obtain ⟨i0, hi, hz0, hz1, hz2⟩ := info_parts intInfo
  cases A with
  | none =>
    have h0 : xs = [] := by
      rcases Nat.eq_zero_or_pos xs.length with h | h
      · exact List.eq_nil_of_length_eq_zero h
      · obtain ⟨b, o, hb, -⟩ := hP.2 h; cases hb
    subst h0
    refine ⟨_, w.alloc (.cells #[] 3), ?_, hown, hal⟩
    simp [Builtin.append_, run_underlying Tryz.underlying22, sizeOf, typeInfo, hi, Builtin.lenOf, Builtin.firstCells, storeCells]
  | some ad =>
    obtain ⟨v', w', hr, h2, h3, -, h5⟩ := run_append_own_at (P := Tryz.prog) (w.alloc (.cells #[] 3)) w.heap.size 22 ty 3 i0 (.int .i64 0) 1 8 Tryz.underlying22 hi hz0 hz1 hz2 rfl (by decide) _ 0 [] hown ad xs.length c (xs.map (Value.int .i64)) (by simp) (fun j u hu => by
      obtain ⟨hj, rfl⟩ := List.getElem?_eq_some_iff.1 hu
      rw [List.length_map] at hj
      obtain ⟨b, o, hb, -, hcc⟩ := hP.2 (by omega)
      cases hb
      rw [Addr.add_mid, hcc j hj]
      simp [hj]) (fun u hu => by obtain ⟨y, -, rfl⟩ := List.mem_map.1 hu; rfl) (by unfold maxLen; omega) (by omega) (by simp)
    rw [Nat.zero_add, List.nil_append] at h2
    exact ⟨v', w', hr, h2, hal.grown h3 (by simp) (fun g e => by simp [Value.ownBlock] at e; omega)⟩
attribute [local irreducible] plainUpon stepC
set_option maxRecDepth 100000 in
set_option maxHeartbeats 1000000 in
theorem copyP_any (p : PatD) (hl : p.xs.length ≤ 1000000000) (A : Option Addr) (cap : Nat) (w : World) (hi : PatIn w p A) :
    Calls Tryz.prog 83 #[.agg #[.int .i64 p.a, .int .i64 p.b, .int .i64 p.c, .slice A p.xs.length cap]] w fun e w' => ∃ v, e = .returned (.agg #[.int .i64 p.a, .int .i64 p.b, .int .i64 p.c, v]) ∧ OwnI w' w.heap.size v p.xs ∧ Below w.heap.size w w' := by
  obtain ⟨a, b, c, xs⟩ := p
  simp only at hl ⊢
  have HI := Lib.hid (show IsL w A xs.length xs from hi)
  clear hi
  go_enter Tryz.func83, Tryz.ntmps83
  go_upto_region 1 with fail
  have hbx := two_boxes w a b c (.slice A xs.length cap) 0 0 0 (.slice none 0 0)
  obtain ⟨W, hW⟩ : ∃ W, W = (w.alloc (.cells #[.int .i64 a, .int .i64 b, .int .i64 c, .slice A xs.length cap] 24)).alloc (.cells #[.int .i64 0, .int .i64 0, .int .i64 0, .slice none 0 0] 24) := ⟨_, rfl⟩
  have hb0 := Lib.hid (show Below w.heap.size w W by rw [hW]; exact (by repeat' (first | (with_reducible exact Below.refl _ _) | (with_reducible assumption) | (with_reducible refine below_drewN ?_ _) | (with_reducible refine below_step (by assumption) ?_ ?_) | (with_reducible refine Below.alloc ?_ ?_ _) | (with_reducible refine Below.setCell ?_ ?_ _) | (with_reducible refine Below.drew ?_) | go_size | (exact Below.size (by assumption)) | (refine Nat.le_trans (Below.size (by assumption)) ?_))))
  rw [← hW] at hbx ⊢
  obtain ⟨rb, hrb⟩ : ∃ rb, rb = w.heap.size + 1 := ⟨_, rfl⟩
  rw [← hrb] at hbx ⊢
  have hwr : w.heap.size ≤ rb := by omega
  obtain ⟨p0, p1, p2, p3, p4⟩ := hbx.1.cells
  have HBX := Lib.hid hbx.2
  clear hW hbx hrb
  refine region_last1 (C := fun w' => ∃ x, w' = grow W x) [0, 1, 2, 3, 4, 5, 7, 8] [6, 9, 10, 11] 11 (by kernel_rfl) (by kernel_rfl) (grow_start W) ?_
  simp only [pickL, List.getElem?_cons_zero, List.getElem?_cons_succ]
  repeat (go_big_quiet_step (fail))
  refine wpQuiet_nil ?_
  obtain ⟨w3, hw3⟩ : ∃ w3 : World, w3 = { W with drawn := W.drawn + 1 } := ⟨_, rfl⟩
  rw [← hw3]
  have hb3 : Below W.heap.size W w3 := by rw [hw3]; exact (Below.refl _ _).drew
  clear hw3
  have hal := (Below.refl w3.heap.size w3).alloc (Nat.le_refl _) (.cells #[] 3)
  have hb4 := hb3.trans (hal.mono hb3.size)
  refine d_val (.slice (some ⟨w3.heap.size, 0, none⟩) 0 0) (w3.alloc (.cells #[] 3)) rfl (by go_simp) (grow_of_below hb3) ?_
  obtain ⟨s, w5, r1, r2, r3⟩ := ints_run w3 22 xs A cap (IsL.below hb4 (IsL.below hb0.out HI.out)) hl
  obtain ⟨A5, n5, rfl, -⟩ := r2.isL
  have hb5 := hb3.trans (r3.mono hb3.size)
  refine d_val (.slice A5 xs.length n5) w5 rfl (ap_exec (.tmp 9) (.tmp 11) 22 rfl _ _ _ w5 rfl rfl r1) (grow_of_below hb4) ?_
  refine d_val (.agg #[.int .i64 a, .int .i64 b, .int .i64 c, .slice A5 xs.length n5]) w5 rfl (by go_simp) (grow_of_below hb5) ?_
  have hbx5 := HBX.out.keep hb5
  obtain ⟨s0, s1, s2, s3, s4⟩ := hbx5.cells
  have f0 : w5.frozen? ⟨rb, 0, none⟩ = false := frozen_of_row w5 rb 0 _ _ hbx5
  have f1 : w5.frozen? ⟨rb, 1, none⟩ = false := frozen_of_row w5 rb 1 _ _ hbx5
  have f2 : w5.frozen? ⟨rb, 2, none⟩ = false := frozen_of_row w5 rb 2 _ _ hbx5
  have f3 : w5.frozen? ⟨rb, 3, none⟩ = false := frozen_of_row w5 rb 3 _ _ hbx5
  have HP := Lib.hid (put_ret hbx5 (hb0.out.trans (hb5.mono hb0.out.size)) hwr ⟨a, b, c, xs⟩ _ r2 (Nat.le_trans hb0.out.size hb3.size) (Nat.lt_of_lt_of_le (Array.getElem?_eq_some_iff.1 HBX.out).1 hb3.size))
  refine d_skip (set4 w5 rb a b c (.slice A5 xs.length n5)) rfl (by unfold set4; go_simp) (grow_of_below hb5) ?_
  obtain ⟨w6, hw6⟩ : ∃ w6, w6 = set4 w5 rb a b c (.slice A5 xs.length n5) := ⟨_, rfl⟩
  simp only at HP
  rw [← hw6] at HP
  show plainD _ _ _ _ _ _ _
  rw [← hw6]
  clear hw6 hbx5 s0 s1 s2 s3 s4 f0 f1 f2 f3 r1 r2 r3 hb5 hb4 hal hb3 HBX p0 p1 p2 p3 p4
  simp only [plainD]
  go_simp
  go_wp2
  refine bodyPost_ret (v := .agg #[.int .i64 a, .int .i64 b, .int .i64 c, .slice A5 xs.length n5]) (ret_pat rfl rfl HP.out.1) rfl ?_
  exact ⟨_, rfl, HP.out.2⟩
end Go.Proofs.YtlinldbbhdpgcaaGreatDoor
