/-
  THE REFERENCE: Same.
-/
import Derived.Test.YtgmokojdlbdjeaaGreatDoorPrfM
namespace Go.Proofs.YtgmokojdlbdjeaaGreatDoor
open Go.RowKit
attribute [local go_sem] grow_cell grow_frozen
attribute [local irreducible] plainUpon stepC
/-- No cell of so many rows differs. -/
def EqOn (F G : Int → Int → Int) (a k : Int) : Prop := ∀ x y, 0 ≤ x → x < a → 0 ≤ y → y < k → F x y = G x y
theorem EqOn.step {F G : Int → Int → Int} {a k : Int} (h : EqOn F G a k) (h2 : ∀ x, 0 ≤ x → x < a → F x k = G x k) : EqOn F G a (k + 1) := fun x y h0 h1 h3 h4 => by
  by_cases he : y < k
  · exact h x y h0 h1 h3 he
  · obtain rfl : y = k := by omega
    exact h2 x h0 h1
/-- The boxes of Same. -/
structure SB (w wr : World) (B : Nat) (p q : PatD) (A : Option Addr) (k : Nat) (D : Option Addr) (m : Nat) (ob : Nat) (x y z : Int) : Prop where
  p : PBox wr w.heap.size p.a p.b p.c (.slice A p.xs.length k)
  q : PBox wr (w.heap.size + 1) q.a q.b q.c (.slice D q.xs.length m)
  o : PBox wr ob x y z (.slice none 0 0)
  b : Below w.heap.size w wr
theorem SB.keep {w wr w' : World} {B : Nat} {p q : PatD} {A : Option Addr} {k : Nat} {D : Option Addr} {m ob : Nat} {x y z : Int} (h : SB w wr B p q A k D m ob x y z) (hb : Below wr.heap.size wr w') : SB w w' B p q A k D m ob x y z := ⟨h.p.keep hb, h.q.keep hb, h.o.keep hb, h.b.trans (hb.mono h.b.size)⟩
set_option maxRecDepth 100000 in
set_option maxHeartbeats 2000000 in
theorem rsame_any (p q : PatD) (hl : p.xs.length ≤ 1000000) (hl2 : q.xs.length ≤ 1000000) (A : Option Addr) (k : Nat) (D : Option Addr) (m : Nat) (w : World) (hi : PatIn w p A) (hq : PatIn w q D) :
    Calls Tryz.prog 42 #[.agg #[.int .i64 p.a, .int .i64 p.b, .int .i64 p.c, .slice A p.xs.length k], .agg #[.int .i64 q.a, .int .i64 q.b, .int .i64 q.c, .slice D q.xs.length m]] w fun e w' => e = .returned (.tuple #[.bool (samT p q), .int .i64 (twoZ p q)]) ∧ Below w.heap.size w w' := by
  have HC := Lib.hid (fun w hi hq => rboth_any p q hl hl2 A k D m w hi hq)
  obtain ⟨S, hS⟩ : ∃ S, S = samT p q := ⟨_, rfl⟩
  have h0 := fun h => samT_bad (p := p) (q := q) h
  have h1 := fun h => samT_iff (p := p) (q := q) h
  have hz0 := fun h => twoZ_zero (p := p) (q := q) h
  obtain ⟨Z, hZ⟩ : ∃ Z, Z = twoZ p q := ⟨_, rfl⟩
  rw [← hS] at h0 h1
  rw [← hZ] at HC h0 h1 hz0
  rw [← hS, ← hZ]
  have HI := Lib.hid (And.intro hi hq)
  have H01 := Lib.hid (And.intro h0 (And.intro h1 hz0))
  clear hi hq h0 h1 hz0 hS hZ
  go_enter Tryz.func42, Tryz.ntmps42
  go_wp2_with fail
  obtain ⟨a0, a1, a2, a3⟩ := al2 w (.cells #[.int .i64 p.a, .int .i64 p.b, .int .i64 p.c, .slice A p.xs.length k] 24) (.cells #[.int .i64 q.a, .int .i64 q.b, .int .i64 q.c, .slice D q.xs.length m] 24)
  obtain ⟨V, hV⟩ : ∃ V, V = (w.alloc (.cells #[.int .i64 p.a, .int .i64 p.b, .int .i64 p.c, .slice A p.xs.length k] 24)).alloc (.cells #[.int .i64 q.a, .int .i64 q.b, .int .i64 q.c, .slice D q.xs.length m] 24) := ⟨_, rfl⟩
  rw [← hV] at a0 a1 a2 a3 ⊢
  refine (HC.out V (HI.out.1.below a3) (HI.out.2.below a3)).mono ?_
  rintro e w1 ⟨rfl, hb1⟩
  have H1 := Lib.hid (show PBox w1 w.heap.size p.a p.b p.c (.slice A p.xs.length k) ∧ PBox w1 (w.heap.size + 1) q.a q.b q.c (.slice D q.xs.length m) ∧ Below w.heap.size w w1 from ⟨PBox.keep (w := V) a1 hb1, PBox.keep (w := V) a2 hb1, a3.trans (hb1.mono a3.size)⟩)
  clear hV a0 a1 a2 a3 hb1 HC V
  by_cases hz : Z = 0
  · subst hz
    obtain ⟨hv1, hv2⟩ := H01.out.2.2 rfl
    have hg1 := valP_zero hv1
    have hg2 := valP_zero hv2
    have HS := Lib.hid (H01.out.2.1 rfl)
    have HB1 := Lib.hid (And.intro (lst_pat hv1) (lst_pat hv2))
    have HCO := Lib.hid (rcommon_any p.a p.b p.c (.slice A p.xs.length k) q.a q.b q.c (.slice D q.xs.length m) hg1.a0 hg1.a1 hg1.b0 (by have := hg1.b1; have := hg1.a1; omega) hg1.c0 hg1.c1 hg2.a0 hg2.a1 hg2.b0 (by have := hg2.b1; have := hg2.a1; omega) hg2.c0 hg2.c1 w1)
    have HF1 := Lib.hid (fun x y h1 h2 h3 h4 w hL => rcolor_any p hg1.ok.wide A p.xs.length k x y h1 h2 h3 h4 w hL)
    have HF2 := Lib.hid (fun x y h1 h2 h3 h4 w hL => rcolor_any q hg2.ok.wide D q.xs.length m x y h1 h2 h3 h4 w hL)
    obtain ⟨F, hF⟩ : ∃ F, F = colF p := ⟨_, rfl⟩
    obtain ⟨G, hG⟩ : ∃ F, F = colF q := ⟨_, rfl⟩
    rw [← hF] at HS HB1 HF1
    rw [← hG] at HS HB1 HF2
    have hsz : p.a * q.a * (p.c * q.c) ≤ 144 * 144 * (144 * 144) := Int.mul_le_mul (Int.mul_le_mul hg1.a1 hg2.a1 (by have := hg2.a0; omega) (by omega)) (Int.mul_le_mul hg1.c1 hg2.c1 (by have := hg2.c0; omega) (by omega)) (by have := Int.mul_pos hg1.c0 hg2.c0; omega) (by omega)
    have hsz2 : p.a * q.a * (p.c * q.c) ≤ 144 * 144 := by
      have e : p.a * q.a * (p.c * q.c) = (p.a * p.c) * (q.a * q.c) := by ac_rfl
      rw [e]
      exact Int.mul_le_mul hg1.ac hg2.ac (by have := Int.mul_pos hg2.a0 hg2.c0; omega) (by omega)
    obtain ⟨q0, q1, q2, q3, q4⟩ := H1.out.1.cells
    obtain ⟨r0, r1, r2, r3, r4⟩ := H1.out.2.1.cells
    clear hv1 hv2 hg1 hg2 H01 hF hG hsz
    go_wp2_with fail
    refine HCO.out.mono ?_
    rintro e w2 ⟨a, b, c, rfl, hcom, hb2⟩
    have ha0 := hcom.pa
    have hc0 := hcom.pc
    have hac := Int.le_trans hcom.sz hsz2
    have ha1 : a ≤ 20736 := by
      have : a * 1 ≤ a * c := Int.mul_le_mul_of_nonneg_left (by omega) (by omega)
      omega
    have hc1 : c ≤ 20736 := by
      have : 1 * c ≤ a * c := Int.mul_le_mul_of_nonneg_right (by omega) (by omega)
      omega
    have hbb := hcom.base HB1.out.1 HB1.out.2
    have HEQ := Lib.hid (show S = true ↔ EqOn F G a c from by
      rw [HS.out]
      exact ⟨fun e x y _ _ _ _ => by rw [e], fun h => hbb.1.ext hbb.2 h⟩)
    have H2 := Lib.hid (show PBox w2 w.heap.size p.a p.b p.c (.slice A p.xs.length k) ∧ PBox w2 (w.heap.size + 1) q.a q.b q.c (.slice D q.xs.length m) ∧ Below w.heap.size w w2 from ⟨H1.out.1.keep hb2, H1.out.2.1.keep hb2, H1.out.2.2.trans (hb2.mono H1.out.2.2.size)⟩)
    clear hcom hb2 hbb HB1 HS q0 q1 q2 q3 q4 r0 r1 r2 r3 r4 H1 HCO hac hsz2
    go_upto_region 6 with fail
    have hal := below_new w2 (.cells #[.int .i64 a, .int .i64 b, .int .i64 c, .slice none 0 0] 24)
    have hn := PBox.new w2 a b c (.slice none 0 0)
    obtain ⟨W, hW⟩ : ∃ W, W = w2.alloc (.cells #[.int .i64 a, .int .i64 b, .int .i64 c, .slice none 0 0] 24) := ⟨_, rfl⟩
    rw [← hW] at hal hn ⊢
    have T0 := Lib.hid (show SB w W 0 p q A k D m w2.heap.size a b c from ⟨H2.out.1.keep hal, H2.out.2.1.keep hal, hn, H2.out.2.2.trans (hal.mono H2.out.2.2.size)⟩)
    obtain ⟨ob, hob⟩ : ∃ ob, ob = w2.heap.size := ⟨_, rfl⟩
    rw [← hob] at T0 ⊢
    clear hal hn hW H2 hob
    go_loopw [8] (fun t wr => ∃ j : Int, t = .int .i64 j ∧ 0 ≤ j ∧ j ≤ c ∧ Hid (SB w wr 0 p q A k D m ob a b c ∧ EqOn F G a j)) (fun t _ => (c - intOf t).toNat)
    case atStart => exact ⟨0, rfl, by omega, by omega, Lib.hid ⟨T0.out, fun x y _ _ h1 h2 => by omega⟩⟩
    case round =>
      clear T0
      obtain ⟨j, rfl, hj0, hj, hr⟩ := hrel
      obtain ⟨o0, o1, o2, o3, o4⟩ := hr.out.1.o.cells
      by_cases hlt : j < c
      · have d1 : decide (j < c) = true := decide_eq_true hlt
        have R0 := Lib.hid (And.intro hr.out.1 (And.intro hr.out.2 (show ∀ x, 0 ≤ x → x < (0 : Int) → F x j = G x j from fun x h0 h1 => by omega)))
        clear hr
        go_upto_region 9 with fail
        go_loopw [9] (fun t wq => ∃ i : Int, t = .int .i64 i ∧ 0 ≤ i ∧ i ≤ a ∧ Hid (SB w wq 0 p q A k D m ob a b c ∧ EqOn F G a j ∧ ∀ x, 0 ≤ x → x < i → F x j = G x j)) (fun t _ => (a - intOf t).toNat)
        case atStart => exact ⟨0, rfl, by omega, by omega, R0⟩
        case round =>
          clear R0 o0 o1 o2 o3 o4
          obtain ⟨i, rfl, hi0, hi, hr⟩ := hrel
          obtain ⟨o0, o1, o2, o3, o4⟩ := hr.out.1.o.cells
          obtain ⟨p0, p1, p2, p3, p4⟩ := hr.out.1.p.cells
          obtain ⟨q0, q1, q2, q3, q4⟩ := hr.out.1.q.cells
          by_cases hil : i < a
          · have d2 : decide (i < a) = true := decide_eq_true hil
            go_upto_region 11 with fail
            refine region_tree (C := fun w' => ∃ x, w' = grow wr x) [0, 1, 2, 4, 5, 6] (OT.seq [3, 7, 8]) (by kernel_rfl) (by kernel_rfl) (grow_start wr) ?_
            simp only [pickL, List.getElem?_cons_zero, List.getElem?_cons_succ]
            repeat (go_big_quiet_step (fail))
            refine wpQuiet_nil ?_
            rintro wx ⟨xg, hxg⟩
            have hbx := below_grow wr xg
            rw [← hxg] at hbx
            simp only [treeS, OT.seq, atOp, List.getElem?_cons_zero, List.getElem?_cons_succ]
            refine ⟨⟨xg, hxg⟩, ?_⟩
            clear hxg
            refine s_call 62 #[.agg #[.int .i64 p.a, .int .i64 p.b, .int .i64 p.c, .slice A p.xs.length k], .int .i64 i, .int .i64 j] rfl (by go_simp) ?_
            refine (HF1.out i j (by omega) (by omega) (by omega) (by omega) wx (HI.out.1.below (hr.out.1.b.trans (hbx.mono hr.out.1.b.size)))).mono ?_
            rintro e wx1 ⟨rfl, hc1⟩
            have hbx1 := hbx.trans (hc1.mono hbx.size)
            refine ⟨_, rfl, grow_of_below hbx1, ?_⟩
            refine s_call 62 #[.agg #[.int .i64 q.a, .int .i64 q.b, .int .i64 q.c, .slice D q.xs.length m], .int .i64 i, .int .i64 j] rfl (by go_simp) ?_
            refine (HF2.out i j (by omega) (by omega) (by omega) (by omega) wx1 (HI.out.2.below (hr.out.1.b.trans (hbx1.mono hr.out.1.b.size)))).mono ?_
            rintro e wx2 ⟨rfl, hc2⟩
            have hbx2 := hbx1.trans (hc2.mono hbx1.size)
            refine ⟨_, rfl, grow_of_below hbx2, ?_⟩
            have hgb := grow_of_below hbx2
            obtain ⟨z1, hz1⟩ : ∃ z1, z1 = F i j := ⟨_, rfl⟩
            obtain ⟨z2, hz2⟩ : ∃ z2, z2 = G i j := ⟨_, rfl⟩
            rw [← hz1, ← hz2]
            have HZ := Lib.hid (And.intro hz1 hz2)
            have R4 := Lib.hid (And.intro (hr.out.1.keep hbx2) hr.out.2)
            clear hz1 hz2 hr hbx hbx1 hbx2 hc1 hc2 o0 o1 o2 o3 o4 p0 p1 p2 p3 p4 q0 q1 q2 q3 q4
            by_cases hzz : z1 = z2
            · have d3 : (z1 != z2) = false := by simp [hzz]
              refine s_val (.bool false) wx2 rfl (by go_simp) ?_
              refine ⟨hgb, ?_⟩
              have R5 := Lib.hid (show SB w wx2 0 p q A k D m ob a b c ∧ EqOn F G a j ∧ ∀ x, 0 ≤ x → x < i + 1 → F x j = G x j from ⟨R4.out.1, R4.out.2.1, fun x h0 h1 => by
                by_cases hx : x < i
                · exact R4.out.2.2 x h0 hx
                · obtain rfl : x = i := by omega
                  rw [← HZ.out.1, ← HZ.out.2]; exact hzz⟩)
              clear hzz HZ d3 R4 hgb
              go_simp
              go_wp2
              go_roundw
              case rel => exact ⟨i + 1, by go_num, by omega, by omega, R5⟩
              case measure => simp [intOf]; omega
            · have d3 : (z1 != z2) = true := by rw [bne_iff_ne]; exact hzz
              have HSF := Lib.hid (show S = false by
                cases S with
                | false => rfl
                | true => exact absurd (HEQ.out.1 rfl i j hi0 hil hj0 hlt) (by rw [← HZ.out.1, ← HZ.out.2]; exact hzz))
              refine s_val (.bool true) wx2 rfl (by go_simp) ?_
              refine ⟨hgb, ?_⟩
              clear hzz HZ HEQ d3 hgb
              go_simp
              go_wp2
              go_ret2
              exact ⟨by rw [HSF.out] <;> rfl, R4.out.1.b⟩
          · have d2 : decide (i < a) = false := decide_eq_false hil
            have R2 := Lib.hid (show SB w wr 0 p q A k D m ob a b c ∧ EqOn F G a (j + 1) from ⟨hr.out.1, hr.out.2.1.step fun x h0 h1 => hr.out.2.2 x h0 (by omega)⟩)
            clear hr
            go_wp2
            go_roundw
            case rel => exact ⟨j + 1, by go_num, by omega, by omega, R2⟩
            case measure => simp [intOf]; omega
      · have d1 : decide (j < c) = false := decide_eq_false hlt
        have HST := Lib.hid (show S = true from HEQ.out.2 fun x y h0 h1 h2 h3 => hr.out.2 x y h0 h1 h2 (by omega))
        have HBB := Lib.hid hr.out.1.b
        clear hr HEQ
        go_wp2
        go_ret2
        exact ⟨by rw [HST.out] <;> rfl, HBB.out⟩
  · have d1 : (Z == 0) = false := by rw [beq_eq_false_iff_ne]; exact hz
    have d2 : (Z != 0) = true := by rw [bne_iff_ne]; exact hz
    have HS := Lib.hid (H01.out.1 hz)
    clear hz H01
    go_wp2
    go_ret2
    exact ⟨by rw [HS.out] <;> rfl, H1.out.2.2⟩
end Go.Proofs.YtgmokojdlbdjeaaGreatDoor
