/-
  THE PROGRAM: Over.
-/
import Derived.Test.YtgmokojdlbdjeaaGreatDoorPatX
namespace Go.Proofs.YtgmokojdlbdjeaaGreatDoor
open Go.RowKit
set_option maxRecDepth 100000 in
theorem over_fun (w : World) (bx by' : Nat) (p q : PatD) (A : Option Addr) (k : Nat) (B : Option Addr) (m : Nat) (h : PBox w bx p.a p.b p.c (.slice A p.xs.length k)) (h2 : PBox w by' q.a q.b q.c (.slice B q.xs.length m)) (hp : PatOK p) (hq : PatOK q) (hi : PatIn w p A) (hj : PatIn w q B) :
    FunV w (.func (.func 74) #[] #[.pointer (some ⟨bx, 0, none⟩), .pointer (some ⟨by', 0, none⟩)]) (overF (colF p) (colF q)) 50000000 := by
  refine ⟨_, _, rfl, fun args w' => ?_, fun w' hb x y h0 h3 h4 h5 => ?_⟩
  · go_simp
  · obtain ⟨q0, q1, q2, q3, q4⟩ := (h.keep hb).cells
    have HC := Lib.hid (pcolor_any p hp A p.xs.length k x y (by omega) (by omega) (by omega) (by omega) w' (hi.below hb))
    have HD := Lib.hid (fun w2 hx => pcolor_any q hq B q.xs.length m x y (by omega) (by omega) (by omega) (by omega) w2 hx)
    have HB := Lib.hid (And.intro (h2.keep hb) (hj.below hb))
    obtain ⟨z1, hz1⟩ : ∃ z, z = colF p x y := ⟨_, rfl⟩
    obtain ⟨z2, hz2⟩ : ∃ z, z = colF q x y := ⟨_, rfl⟩
    have HZ := Lib.hid (show overF (colF p) (colF q) x y = if z1 ≠ 0 then z1 else z2 by rw [hz1, hz2]; rfl)
    rw [← hz1] at HC
    rw [← hz2] at HD
    clear h hi hb hp hz1 hz2 h2 hj hq
    show Calls Tryz.prog 74 #[.int .i64 x, .int .i64 y, .pointer (some ⟨bx, 0, none⟩), .pointer (some ⟨by', 0, none⟩)] w' _
    go_enter Tryz.func74, Tryz.ntmps74
    go_wp2_with fail
    refine HC.out.mono ?_
    rintro e w2 ⟨rfl, hb2⟩
    have H2 := Lib.hid (And.intro (HB.out.1.keep hb2) (And.intro (HB.out.2.below hb2) hb2))
    clear hb2 HB HC q0 q1 q2 q3 q4
    by_cases hz : z1 = 0
    · subst hz
      have HZ2 := Lib.hid (show overF (colF p) (colF q) x y = z2 by rw [HZ.out, if_neg (by simp)])
      obtain ⟨q0, q1, q2, q3, q4⟩ := H2.out.1.cells
      clear HZ
      go_wp2_with fail
      refine (HD.out w2 H2.out.2.1).mono ?_
      rintro e w3 ⟨rfl, hb3⟩
      have H3 := Lib.hid (H2.out.2.2.trans (hb3.mono H2.out.2.2.size))
      clear hb3 H2 HD q0 q1 q2 q3 q4
      go_wp2
      go_ret
      exact ⟨by rw [HZ2.out] <;> rfl, H3.out⟩
    · have d1 : (z1 != 0) = true := by rw [bne_iff_ne]; exact hz
      have HZ2 := Lib.hid (show overF (colF p) (colF q) x y = z1 by rw [HZ.out, if_pos hz])
      clear hz HZ
      go_wp2
      go_ret
      exact ⟨by rw [HZ2.out] <;> rfl, H2.out.2.2⟩
noncomputable def oveT (p q : PatD) : PatD := if twoZ p q ≠ 0 then zeroP else resT (overF (colF p) (colF q))
noncomputable def oveZ (p q : PatD) : Int := if twoZ p q ≠ 0 then twoZ p q else resZ (overF (colF p) (colF q))
theorem com_bd {p q : PatD} (h1 : GoodP p) (h2 : GoodP q) {x y z : Int} (hc : Com p.a p.b p.c q.a q.b q.c x y z) : x * z ≤ 144 * 144 ∧ x ≤ 20736 ∧ z ≤ 20736 ∧ y ≤ 20736 := by
  have h := hc.sz
  have e : p.a * q.a * (p.c * q.c) = (p.a * p.c) * (q.a * q.c) := by ac_rfl
  rw [e] at h
  have h3 : (p.a * p.c) * (q.a * q.c) ≤ 144 * 144 := Int.mul_le_mul h1.ac h2.ac (by have := Int.mul_pos h2.a0 h2.c0; omega) (by omega)
  have hx := hc.pa
  have hz := hc.pc
  have hb := hc.lb
  have l1 : x * 1 ≤ x * z := Int.mul_le_mul_of_nonneg_left (by omega) (by omega)
  have l2 : 1 * z ≤ x * z := Int.mul_le_mul_of_nonneg_right (by omega) (by omega)
  exact ⟨by omega, by omega, by omega, by omega⟩
set_option maxRecDepth 100000 in
set_option maxHeartbeats 2000000 in
theorem pover_any (p q : PatD) (hl : p.xs.length ≤ 1000000) (hl2 : q.xs.length ≤ 1000000) (A : Option Addr) (k : Nat) (D : Option Addr) (m : Nat) (w : World) (hi : PatIn w p A) (hq : PatIn w q D) :
    Calls Tryz.prog 29 #[.agg #[.int .i64 p.a, .int .i64 p.b, .int .i64 p.c, .slice A p.xs.length k], .agg #[.int .i64 q.a, .int .i64 q.b, .int .i64 q.c, .slice D q.xs.length m]] w (OutP w (oveT p q) (.int .i64 (oveZ p q))) := by
  have HC := Lib.hid (fun w hi hq => two_any p q hl hl2 A k D m w hi hq)
  obtain ⟨R, hR⟩ : ∃ T, T = oveT p q := ⟨_, rfl⟩
  obtain ⟨Y, hY⟩ : ∃ T, T = oveZ p q := ⟨_, rfl⟩
  rw [← hR, ← hY]
  unfold oveT at hR
  unfold oveZ at hY
  obtain ⟨T, hT⟩ : ∃ T, T = twoT p q := ⟨_, rfl⟩
  have hz0 := fun h => twoZ_zero (p := p) (q := q) h
  have hTu : twoZ p q = 0 → T = (lst (colF p), lst (colF q)) := fun h => by rw [hT]; unfold twoT; rw [if_neg (by simp [h])]
  obtain ⟨Z, hZ⟩ : ∃ Z, Z = twoZ p q := ⟨_, rfl⟩
  rw [← hZ] at HC hz0 hTu hR hY
  rw [← hT] at HC
  have HI := Lib.hid (And.intro hi hq)
  have H01 := Lib.hid (And.intro hz0 (And.intro hTu (And.intro hR hY)))
  have hmf : ∀ (fn : Fn) (first cap : Array Value) (w : World), (Instr.makeFunc fn first cap).run Tryz.prog w = .ok (.func fn first cap) w := fun _ _ _ _ => rfl
  clear hi hq hz0 hTu hT hZ hR hY
  go_enter Tryz.func29, Tryz.ntmps29
  go_wp2_with fail
  obtain ⟨a0, a1, a2, a3, a4⟩ := al3 w (.cells #[.int .i64 p.a, .int .i64 p.b, .int .i64 p.c, .slice A p.xs.length k] 24) (.cells #[.int .i64 q.a, .int .i64 q.b, .int .i64 q.c, .slice D q.xs.length m] 24) (.cells #[.int .i64 0, .int .i64 0, .int .i64 0, .slice none 0 0] 24)
  obtain ⟨V, hV⟩ : ∃ V, V = ((w.alloc (.cells #[.int .i64 p.a, .int .i64 p.b, .int .i64 p.c, .slice A p.xs.length k] 24)).alloc (.cells #[.int .i64 q.a, .int .i64 q.b, .int .i64 q.c, .slice D q.xs.length m] 24)).alloc (.cells #[.int .i64 0, .int .i64 0, .int .i64 0, .slice none 0 0] 24) := ⟨_, rfl⟩
  rw [← hV] at a0 a1 a2 a3 a4 ⊢
  have HV := Lib.hid (show PBox V (w.heap.size + 1 + 1) 0 0 0 (.slice none 0 0) ∧ Below w.heap.size w V from ⟨a3, a4⟩)
  refine (HC.out V (HI.out.1.below a4) (HI.out.2.below a4)).mono ?_
  clear hV a0 a1 a2 a3 a4
  rintro e w1 ⟨A1, k1, A2, k2, rfl, i1, i2, hb1⟩
  obtain ⟨t1, t2⟩ := T
  simp only at i1 i2 ⊢
  have H1 := Lib.hid (And.intro i1 (And.intro i2 (And.intro (HV.out.1.keep hb1) (HV.out.2.trans (hb1.mono HV.out.2.size)))))
  clear i1 i2 hb1 HC HV HI
  by_cases hz : Z = 0
  · subst hz
    obtain ⟨hv1, hv2⟩ := H01.out.1 rfl
    have hTu := H01.out.2.1 rfl
    have hR := H01.out.2.2.1
    have hY := H01.out.2.2.2
    rw [if_neg (by simp)] at hR hY
    simp only [Prod.mk.injEq] at hTu
    have g1 : GoodP t1 := by rw [hTu.1]; exact lst_good hv1
    have g2 : GoodP t2 := by rw [hTu.2]; exact lst_good hv2
    have e1 : colF t1 = colF p := by rw [hTu.1]; exact (lst_pat hv1).lst_col
    have e2 : colF t2 = colF q := by rw [hTu.2]; exact (lst_pat hv2).lst_col
    rw [← e1, ← e2] at hR hY
    have HCO := Lib.hid (fun s1 s2 w => pcommon_any t1.a t1.b t1.c s1 t2.a t2.b t2.c s2 g1.a0 g1.a1 g1.b0 (by have := g1.b1; have := g1.a1; omega) g1.c0 g1.c1 g2.a0 g2.a1 g2.b0 (by have := g2.b1; have := g2.a1; omega) g2.c0 g2.c1 w)
    have HG := Lib.hid (And.intro g1 (And.intro g2 (And.intro hR hY)))
    obtain ⟨l1, hl1⟩ : ∃ l, l = t1.xs.length := ⟨_, rfl⟩
    obtain ⟨l2, hl2'⟩ : ∃ l, l = t2.xs.length := ⟨_, rfl⟩
    have HL1 := Lib.hid hl1
    have HL2 := Lib.hid hl2'
    rw [← hl1, ← hl2']
    clear hv1 hv2 hTu hR hY g1 g2 e1 e2 H01 hl1 hl2'
    go_wp2_with fail
    obtain ⟨u0, u1, u2, u3⟩ := al2 w1 (.cells #[.int .i64 t1.a, .int .i64 t1.b, .int .i64 t1.c, .slice A1 l1 k1] 24) (.cells #[.int .i64 t2.a, .int .i64 t2.b, .int .i64 t2.c, .slice A2 l2 k2] 24)
    obtain ⟨V2, hV2⟩ : ∃ V, V = (w1.alloc (.cells #[.int .i64 t1.a, .int .i64 t1.b, .int .i64 t1.c, .slice A1 l1 k1] 24)).alloc (.cells #[.int .i64 t2.a, .int .i64 t2.b, .int .i64 t2.c, .slice A2 l2 k2] 24) := ⟨_, rfl⟩
    rw [← hV2] at u0 u1 u2 u3 ⊢
    have H2 := Lib.hid (show PBox V2 w1.heap.size t1.a t1.b t1.c (.slice A1 l1 k1) ∧ PBox V2 (w1.heap.size + 1) t2.a t2.b t2.c (.slice A2 l2 k2) ∧ PatIn V2 t1 A1 ∧ PatIn V2 t2 A2 ∧ PBox V2 (w.heap.size + 1 + 1) 0 0 0 (.slice none 0 0) ∧ Below w.heap.size w V2 from
      ⟨u1, u2, H1.out.1.below u3, H1.out.2.1.below u3, H1.out.2.2.1.keep u3, H1.out.2.2.2.trans (u3.mono H1.out.2.2.2.size)⟩)
    obtain ⟨bx, hbx⟩ : ∃ b, b = w1.heap.size := ⟨_, rfl⟩
    rw [← hbx] at H2 ⊢
    clear hV2 u0 u1 u2 u3 H1 hbx
    refine (HCO.out _ _ V2).mono ?_
    rintro e w3 ⟨x, y, z, rfl, hc, hb3⟩
    obtain ⟨b1, b2, b3, b4⟩ := com_bd HG.out.1 HG.out.2.1 hc
    have hbase := hc.base (col_base HG.out.1.ok) (col_base HG.out.2.1.ok)
    have hbo := hbase.1.over hbase.2
    have H3 := Lib.hid (show PBox w3 bx t1.a t1.b t1.c (.slice A1 l1 k1) ∧ PBox w3 (bx + 1) t2.a t2.b t2.c (.slice A2 l2 k2) ∧ PatIn w3 t1 A1 ∧ PatIn w3 t2 A2 ∧ PBox w3 (w.heap.size + 1 + 1) 0 0 0 (.slice none 0 0) ∧ Below w.heap.size w w3 from
      ⟨H2.out.1.keep hb3, H2.out.2.1.keep hb3, H2.out.2.2.1.below hb3, H2.out.2.2.2.1.below hb3, H2.out.2.2.2.2.1.keep hb3, H2.out.2.2.2.2.2.trans (hb3.mono H2.out.2.2.2.2.2.size)⟩)
    have hfun := over_fun w3 bx (bx + 1) t1 t2 A1 k1 A2 k2 (by rw [← HL1.out]; exact H3.out.1) (by rw [← HL2.out]; exact H3.out.2.1) HG.out.1.ok HG.out.2.1.ok H3.out.2.2.1 H3.out.2.2.2.1
    have hres := presult_lst _ x y z hbo (by omega) (by omega) _ w3 hfun
    rw [← HG.out.2.2.1, ← HG.out.2.2.2] at hres
    have HRES := Lib.hid hres
    clear hc hb3 hbase hbo hfun hres b1 b2 b3 b4 H2 HCO HG HL1 HL2
    go_wp2_with fail
    refine HRES.out.mono ?_
    rintro e w4 ⟨v, rfl, hown, hb4⟩
    obtain ⟨A4, n4, rfl, -⟩ := hown.isL
    have hr4 := H3.out.2.2.2.2.1.keep hb4
    have HP := Lib.hid (put_ret hr4 (H3.out.2.2.2.2.2.trans (hb4.mono H3.out.2.2.2.2.2.size)) (by omega) R _ hown H3.out.2.2.2.2.2.size (Array.getElem?_eq_some_iff.1 H3.out.2.2.2.2.1).1)
    obtain ⟨r0, r1, r2, r3, r4⟩ := PBox.cells hr4
    have f0 : (w4).frozen? ⟨w.heap.size + 1 + 1, 0, none⟩ = false := frozen_of_row (w4) (w.heap.size + 1 + 1) 0 _ _ hr4
    have f1 : (w4).frozen? ⟨w.heap.size + 1 + 1, 1, none⟩ = false := frozen_of_row (w4) (w.heap.size + 1 + 1) 1 _ _ hr4
    have f2 : (w4).frozen? ⟨w.heap.size + 1 + 1, 2, none⟩ = false := frozen_of_row (w4) (w.heap.size + 1 + 1) 2 _ _ hr4
    have f3 : (w4).frozen? ⟨w.heap.size + 1 + 1, 3, none⟩ = false := frozen_of_row (w4) (w.heap.size + 1 + 1) 3 _ _ hr4
    clear hown hb4 hr4 HRES
    go_wp2
    refine bodyPost_ret (v := .tuple #[.agg #[.int .i64 R.a, .int .i64 R.b, .int .i64 R.c, .slice A4 R.xs.length n4], .int .i64 Y]) (ret_pat2 rfl rfl rfl HP.out.1) rfl ?_
    exact ⟨_, rfl, HP.out.2⟩
  · have d1 : (Z == 0) = false := by rw [beq_eq_false_iff_ne]; exact hz
    have d2 : (Z != 0) = true := by rw [bne_iff_ne]; exact hz
    have HRY := Lib.hid (show R = zeroP ∧ Y = Z from ⟨by rw [H01.out.2.2.1, if_pos hz], by rw [H01.out.2.2.2, if_pos hz]⟩)
    obtain ⟨l1, hl1⟩ : ∃ l, l = t1.xs.length := ⟨_, rfl⟩
    obtain ⟨l2, hl2'⟩ : ∃ l, l = t2.xs.length := ⟨_, rfl⟩
    rw [← hl1, ← hl2']
    clear hz H01 hl1 hl2'
    go_upto_region 2 with fail
    obtain ⟨u0, u1, u2, u3⟩ := al2 w1 (.cells #[.int .i64 t1.a, .int .i64 t1.b, .int .i64 t1.c, .slice A1 l1 k1] 24) (.cells #[.int .i64 t2.a, .int .i64 t2.b, .int .i64 t2.c, .slice A2 l2 k2] 24)
    obtain ⟨V2, hV2⟩ : ∃ V, V = (w1.alloc (.cells #[.int .i64 t1.a, .int .i64 t1.b, .int .i64 t1.c, .slice A1 l1 k1] 24)).alloc (.cells #[.int .i64 t2.a, .int .i64 t2.b, .int .i64 t2.c, .slice A2 l2 k2] 24) := ⟨_, rfl⟩
    rw [← hV2] at u0 u1 u2 u3 ⊢
    have hr := H1.out.2.2.1.keep u3
    have hbw := H1.out.2.2.2.trans (u3.mono H1.out.2.2.2.size)
    have HP := Lib.hid (put_zero hr hbw (by omega))
    obtain ⟨r0, r1, r2, r3, r4⟩ := PBox.cells hr
    have f0 : (V2).frozen? ⟨w.heap.size + 1 + 1, 0, none⟩ = false := frozen_of_row (V2) (w.heap.size + 1 + 1) 0 _ _ hr
    have f1 : (V2).frozen? ⟨w.heap.size + 1 + 1, 1, none⟩ = false := frozen_of_row (V2) (w.heap.size + 1 + 1) 1 _ _ hr
    have f2 : (V2).frozen? ⟨w.heap.size + 1 + 1, 2, none⟩ = false := frozen_of_row (V2) (w.heap.size + 1 + 1) 2 _ _ hr
    have f3 : (V2).frozen? ⟨w.heap.size + 1 + 1, 3, none⟩ = false := frozen_of_row (V2) (w.heap.size + 1 + 1) 3 _ _ hr
    clear hV2 u0 u1 u2 u3 hr hbw H1
    go_wp2
    refine bodyPost_ret (v := .tuple #[.agg #[.int .i64 0, .int .i64 0, .int .i64 0, .slice none 0 0], .int .i64 Z]) (ret_pat2 rfl rfl rfl HP.out.1) rfl ?_
    rw [HRY.out.1, HRY.out.2]
    exact OutP.zero HP.out.2
end Go.Proofs.YtgmokojdlbdjeaaGreatDoor
