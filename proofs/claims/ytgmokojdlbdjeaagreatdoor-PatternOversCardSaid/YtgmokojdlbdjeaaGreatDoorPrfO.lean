/-
  THE REFERENCE: Over.
-/
import Derived.Test.YtgmokojdlbdjeaaGreatDoorPatY
import Derived.Test.YtgmokojdlbdjeaaGreatDoorPrfK
namespace Go.Proofs.YtgmokojdlbdjeaaGreatDoor
open Go.RowKit
attribute [local go_sem] grow_cell grow_frozen
attribute [local irreducible] RP.plainUpon RP.stepC
/-- A second pattern's box and cells, apart from the table. -/
def Q2 (wr : World) (B ob qb : Nat) (p q : PatD) (A D : Option Addr) (m : Nat) : Prop := PBox wr qb q.a q.b q.c (.slice D q.xs.length m) ∧ qb < B ∧ qb ≠ ob ∧ PIn wr B ob p A ∧ PIn wr B ob q D
theorem Q2.keep {w w' : World} {B ob qb : Nat} {p q : PatD} {A D : Option Addr} {m : Nat} (h : Q2 w B ob qb p q A D m) (hb : Below w.heap.size w w') (hB : B ≤ w.heap.size) : Q2 w' B ob qb p q A D m :=
  ⟨h.1.keep hb, h.2.1, h.2.2.1, h.2.2.2.1.keep (hb.mono hB), h.2.2.2.2.keep (hb.mono hB)⟩
theorem Q2.step {w w' : World} {B ob qb : Nat} {p q : PatD} {A D : Option Addr} {m : Nat} (h : Q2 w B ob qb p q A D m) (hb : Below B w w') (u : Value) : Q2 (w'.setCell ⟨ob, 3, none⟩ u) B ob qb p q A D m :=
  ⟨(h.1.below hb h.2.1).other (p := ⟨ob, 3, none⟩) h.2.2.1 u, h.2.1, h.2.2.1, h.2.2.2.1.step hb u, h.2.2.2.2.step hb u⟩
/-- What is there before and while the lattices are joined. -/
structure OV (w wr : World) (p q : PatD) (A : Option Addr) (k : Nat) (D : Option Addr) (m : Nat) : Prop where
  p : PBox wr w.heap.size p.a p.b p.c (.slice A p.xs.length k)
  q : PBox wr (w.heap.size + 1) q.a q.b q.c (.slice D q.xs.length m)
  r : PBox wr (w.heap.size + 1 + 1) 0 0 0 (.slice none 0 0)
  b : Below w.heap.size w wr
theorem OV.keep {w wr w' : World} {p q : PatD} {A : Option Addr} {k : Nat} {D : Option Addr} {m : Nat} (h : OV w wr p q A k D m) (hb : Below wr.heap.size wr w') : OV w w' p q A k D m := ⟨h.p.keep hb, h.q.keep hb, h.r.keep hb, h.b.trans (hb.mono h.b.size)⟩
set_option maxRecDepth 100000 in
set_option maxHeartbeats 4000000 in
theorem rover_any (p q : PatD) (hl : p.xs.length ≤ 1000000) (hl2 : q.xs.length ≤ 1000000) (A : Option Addr) (k : Nat) (D : Option Addr) (m : Nat) (w : World) (hi : PatIn w p A) (hq : PatIn w q D) :
    Calls Tryz.prog 30 #[.agg #[.int .i64 p.a, .int .i64 p.b, .int .i64 p.c, .slice A p.xs.length k], .agg #[.int .i64 q.a, .int .i64 q.b, .int .i64 q.c, .slice D q.xs.length m]] w (OutP w (oveT p q) (.int .i64 (oveZ p q))) := by
  have HC := Lib.hid (fun w hi hq => rboth_any p q hl hl2 A k D m w hi hq)
  obtain ⟨R, hR⟩ : ∃ T, T = oveT p q := ⟨_, rfl⟩
  obtain ⟨Y, hY⟩ : ∃ T, T = oveZ p q := ⟨_, rfl⟩
  rw [← hR, ← hY]
  unfold oveT at hR
  unfold oveZ at hY
  have hz0 := fun h => twoZ_zero (p := p) (q := q) h
  obtain ⟨Z, hZ⟩ : ∃ Z, Z = twoZ p q := ⟨_, rfl⟩
  rw [← hZ] at HC hz0 hR hY
  have HI := Lib.hid (And.intro hi hq)
  have H01 := Lib.hid (And.intro hz0 (And.intro hR hY))
  clear hi hq hz0 hZ hR hY
  go_enter Tryz.func30, Tryz.ntmps30
  go_wp2_with fail
  obtain ⟨a0, a1, a2, a3, a4⟩ := al3 w (.cells #[.int .i64 p.a, .int .i64 p.b, .int .i64 p.c, .slice A p.xs.length k] 24) (.cells #[.int .i64 q.a, .int .i64 q.b, .int .i64 q.c, .slice D q.xs.length m] 24) (.cells #[.int .i64 0, .int .i64 0, .int .i64 0, .slice none 0 0] 24)
  obtain ⟨V, hV⟩ : ∃ V, V = ((w.alloc (.cells #[.int .i64 p.a, .int .i64 p.b, .int .i64 p.c, .slice A p.xs.length k] 24)).alloc (.cells #[.int .i64 q.a, .int .i64 q.b, .int .i64 q.c, .slice D q.xs.length m] 24)).alloc (.cells #[.int .i64 0, .int .i64 0, .int .i64 0, .slice none 0 0] 24) := ⟨_, rfl⟩
  rw [← hV] at a0 a1 a2 a3 a4 ⊢
  have HV := Lib.hid (show OV w V p q A k D m from ⟨a1, a2, a3, a4⟩)
  refine (HC.out V (HI.out.1.below a4) (HI.out.2.below a4)).mono ?_
  clear hV a0 a1 a2 a3 a4
  rintro e w1 ⟨rfl, hb1⟩
  have H1 := Lib.hid (HV.out.keep hb1)
  clear hb1 HC HV
  by_cases hz : Z = 0
  · subst hz
    obtain ⟨hv1, hv2⟩ := H01.out.1 rfl
    have hR := H01.out.2.1
    have hY := H01.out.2.2
    rw [if_neg (by simp)] at hR hY
    have gp := valP_zero hv1
    have gq := valP_zero hv2
    have g1 := lst_good hv1
    have g2 := lst_good hv2
    have e1 := (lst_pat hv1).lst_col
    have e2 := (lst_pat hv2).lst_col
    have HL1 := Lib.hid (fun w hi => rleast_q p gp.ok.wide A k w hi)
    have HL2 := Lib.hid (fun w hi => rleast_q q gq.ok.wide D m w hi)
    obtain ⟨t1, ht1⟩ : ∃ t, t = lst (colF p) := ⟨_, rfl⟩
    obtain ⟨t2, ht2⟩ : ∃ t, t = lst (colF q) := ⟨_, rfl⟩
    rw [← ht1] at HL1 g1 e1
    rw [← ht2] at HL2 g2 e2
    have HCO := Lib.hid (fun s1 s2 w => rcommon_any t1.a t1.b t1.c s1 t2.a t2.b t2.c s2 g1.a0 g1.a1 g1.b0 (by have := g1.b1; have := g1.a1; omega) g1.c0 g1.c1 g2.a0 g2.a1 g2.b0 (by have := g2.b1; have := g2.a1; omega) g2.c0 g2.c1 w)
    have hbs : ∀ {x y z : Int}, Com t1.a t1.b t1.c t2.a t2.b t2.c x y z → Base (overF (colF p) (colF q)) x y z ∧ x * z ≤ 144 * 144 ∧ x ≤ 20736 ∧ z ≤ 20736 ∧ y ≤ 20736 := fun hc => by
      have hb := hc.base (col_base g1.ok) (col_base g2.ok)
      rw [e1, e2] at hb
      exact ⟨hb.1.over hb.2, com_bd g1 g2 hc⟩
    have HBS := Lib.hid (And.intro (@hbs) (And.intro hR hY))
    have HF1 := Lib.hid (fun x y h1 h2 h3 h4 w hL => rcolor_any p gp.ok.wide A p.xs.length k x y h1 h2 h3 h4 w hL)
    have HF2 := Lib.hid (fun x y h1 h2 h3 h4 w hL => rcolor_any q gq.ok.wide D q.xs.length m x y h1 h2 h3 h4 w hL)
    clear hv1 hv2 hR hY gp gq g1 g2 e1 e2 ht1 ht2 hbs H01
    obtain ⟨p0, p1, p2, p3, p4⟩ := H1.out.p.cells
    obtain ⟨q0, q1, q2, q3, q4⟩ := H1.out.q.cells
    go_upto_region 4 with fail
    go_cut [7] (fun t wx => ∃ nb x y z, t = .pointer (some ⟨nb, 0, none⟩) ∧ Hid (OV w wx p q A k D m ∧ PBox wx nb x y z (.slice none 0 0) ∧ Com t1.a t1.b t1.c t2.a t2.b t2.c x y z ∧ w.heap.size + 1 + 1 < nb))
    case first =>
      refine RP.region_treeP (C := fun w' => ∃ x, w' = grow w1 x) (fun _ _ _ => False) [0, 2] (.two 1 (.two 3 (.two 4 (.one 5 .nil) 5 (.one 4 .nil)) 5 (.one 3 (.one 4 .nil))) 5 (.one 1 (.one 3 (.one 4 .nil)))) 6 (fun _ _ _ h => h.elim) (by kernel_rfl) (by kernel_rfl) (grow_start w1) ?_
      simp only [pickL, List.getElem?_cons_zero, List.getElem?_cons_succ]
      repeat (go_big_quiet_step (fail))
      refine wpQuiet_nil ?_
      obtain ⟨w2, hw2⟩ : ∃ w2 : World, w2 = { w1 with drawn := w1.drawn + 1 } := ⟨_, rfl⟩
      have hb2 : Below w1.heap.size w1 w2 := by rw [hw2]; exact (Below.refl _ _).drew
      rw [← hw2]
      clear hw2 p0 p1 p2 p3 p4 q0 q1 q2 q3 q4
      simp only [RP.treeS, atOp, List.getElem?_cons_zero, List.getElem?_cons_succ]
      refine ⟨grow_of_below hb2, ?_, ?_⟩
      · refine RP.p_call 57 #[.agg #[.int .i64 p.a, .int .i64 p.b, .int .i64 p.c, .slice A p.xs.length k]] rfl (by go_simp) ?_
        refine (HL1.out w2 (HI.out.1.below (H1.out.b.trans (hb2.mono H1.out.b.size)))).mono ?_
        rintro e w3 ⟨v3, rfl, -, hcw3⟩
        have hb3 := hb2.trans (hcw3.mono hb2.size)
        refine .inl ⟨_, rfl, ?_⟩
        refine ⟨grow_of_below hb3, ?_, ?_⟩
        · refine RP.p_call 57 #[.agg #[.int .i64 q.a, .int .i64 q.b, .int .i64 q.c, .slice D q.xs.length m]] rfl (by go_simp) ?_
          refine (HL2.out w3 (HI.out.2.below (H1.out.b.trans (hb3.mono H1.out.b.size)))).mono ?_
          rintro e w4 ⟨v4, rfl, -, hcw4⟩
          have hb4 := hb3.trans (hcw4.mono hb3.size)
          refine .inl ⟨_, rfl, ?_⟩
          refine ⟨grow_of_below hb4, ?_, ?_⟩
          · refine RP.p_call 76 #[.agg #[.int .i64 t1.a, .int .i64 t1.b, .int .i64 t1.c, v3], .agg #[.int .i64 t2.a, .int .i64 t2.b, .int .i64 t2.c, v4]] rfl (by go_simp) ?_
            refine (HCO.out v3 v4 w4).mono ?_
            rintro e w5 ⟨x, y, z, rfl, hcm, hcw5⟩
            have hb5 := hb4.trans (hcw5.mono hb4.size)
            refine .inl ⟨_, rfl, ?_⟩
            refine ⟨grow_of_below hb5, ?_⟩
            have hnw6 := PBox.new w5 0 0 0 (.slice none 0 0)
            have hcw6 := below_new w5 (.cells #[.int .i64 0, .int .i64 0, .int .i64 0, .slice none 0 0] 24)
            refine RP.p_val (.pointer (some ⟨(w5).heap.size, 0, none⟩)) ((w5).alloc (.cells #[.int .i64 0, .int .i64 0, .int .i64 0, .slice none 0 0] 24)) rfl (by go_simp) ?_
            obtain ⟨w6, hww6⟩ : ∃ W, W = (w5).alloc (.cells #[.int .i64 0, .int .i64 0, .int .i64 0, .slice none 0 0] 24) := ⟨_, rfl⟩
            rw [← hww6] at hnw6 hcw6 ⊢
            have hb6 := hb5.trans (hcw6.mono hb5.size)
            clear hww6
            refine ⟨grow_of_below hb6, ?_⟩
            have hov := H1.out.keep hb6
            have hlt : w.heap.size + 1 + 1 < (w5).heap.size := Nat.lt_of_lt_of_le (Array.getElem?_eq_some_iff.1 H1.out.r).1 (by first | exact hb2.size | exact hb3.size | exact hb4.size | exact hb5.size)
            have hgr := row_grown w6 (w5).heap.size #[.int .i64 x, .int .i64 y, .int .i64 z, .slice none 0 0]
            have hb0 := (hnw6).row x y z (.slice none 0 0)
            have hfin : OV w ((w6).setRow (w5).heap.size #[.int .i64 x, .int .i64 y, .int .i64 z, .slice none 0 0]) p q A k D m :=
              ⟨(hgr.block _ (Array.getElem?_eq_some_iff.1 hov.p).1 (by simp; omega)).trans hov.p, (hgr.block _ (Array.getElem?_eq_some_iff.1 hov.q).1 (by simp; omega)).trans hov.q, (hgr.block _ (Array.getElem?_eq_some_iff.1 hov.r).1 (by simp; omega)).trans hov.r, Below.grown hov.b hgr hov.b.size (fun g e => by cases e; omega)⟩
            have HFI := Lib.hid (And.intro hfin (And.intro hb0 (And.intro hcm hlt)))
            refine RP.p_skip ((w6).setRow (w5).heap.size #[.int .i64 x, .int .i64 y, .int .i64 z, .slice none 0 0]) rfl (st_pat_run _ _ rfl (hnw6) _ _ _ _ _ _ (by go_simp) (by go_simp)) ?_
            obtain ⟨wE, hwE⟩ : ∃ W, W = (w6).setRow (w5).heap.size #[.int .i64 x, .int .i64 y, .int .i64 z, .slice none 0 0] := ⟨_, rfl⟩
            obtain ⟨nb, hnb⟩ : ∃ n, n = (w5).heap.size := ⟨_, rfl⟩
            rw [← hwE, ← hnb] at HFI
            rw [← hwE]
            rw [← hnb]
            clear hov hlt hgr hb0 hfin hcm hwE hnb
            go_simp
            go_wp2_with fail
            go_meet
            exact ⟨nb, x, y, z, rfl, HFI⟩
          · have hnw5 := PBox.new w4 0 0 0 (.slice none 0 0)
            have hcw5 := below_new w4 (.cells #[.int .i64 0, .int .i64 0, .int .i64 0, .slice none 0 0] 24)
            refine RP.p_val (.pointer (some ⟨(w4).heap.size, 0, none⟩)) ((w4).alloc (.cells #[.int .i64 0, .int .i64 0, .int .i64 0, .slice none 0 0] 24)) rfl (by go_simp) ?_
            obtain ⟨w5, hww5⟩ : ∃ W, W = (w4).alloc (.cells #[.int .i64 0, .int .i64 0, .int .i64 0, .slice none 0 0] 24) := ⟨_, rfl⟩
            rw [← hww5] at hnw5 hcw5 ⊢
            have hb5 := hb4.trans (hcw5.mono hb4.size)
            clear hww5
            refine ⟨grow_of_below hb5, ?_⟩
            refine RP.p_call 76 #[.agg #[.int .i64 t1.a, .int .i64 t1.b, .int .i64 t1.c, v3], .agg #[.int .i64 t2.a, .int .i64 t2.b, .int .i64 t2.c, v4]] rfl (by go_simp) ?_
            refine (HCO.out v3 v4 w5).mono ?_
            rintro e w6 ⟨x, y, z, rfl, hcm, hcw6⟩
            have hb6 := hb5.trans (hcw6.mono hb5.size)
            refine .inl ⟨_, rfl, ?_⟩
            have hn6 := hnw5.keep hcw6
            refine ⟨grow_of_below hb6, ?_⟩
            have hov := H1.out.keep hb6
            have hlt : w.heap.size + 1 + 1 < (w4).heap.size := Nat.lt_of_lt_of_le (Array.getElem?_eq_some_iff.1 H1.out.r).1 (by first | exact hb2.size | exact hb3.size | exact hb4.size | exact hb5.size)
            have hgr := row_grown w6 (w4).heap.size #[.int .i64 x, .int .i64 y, .int .i64 z, .slice none 0 0]
            have hb0 := (hn6).row x y z (.slice none 0 0)
            have hfin : OV w ((w6).setRow (w4).heap.size #[.int .i64 x, .int .i64 y, .int .i64 z, .slice none 0 0]) p q A k D m :=
              ⟨(hgr.block _ (Array.getElem?_eq_some_iff.1 hov.p).1 (by simp; omega)).trans hov.p, (hgr.block _ (Array.getElem?_eq_some_iff.1 hov.q).1 (by simp; omega)).trans hov.q, (hgr.block _ (Array.getElem?_eq_some_iff.1 hov.r).1 (by simp; omega)).trans hov.r, Below.grown hov.b hgr hov.b.size (fun g e => by cases e; omega)⟩
            have HFI := Lib.hid (And.intro hfin (And.intro hb0 (And.intro hcm hlt)))
            refine RP.p_skip ((w6).setRow (w4).heap.size #[.int .i64 x, .int .i64 y, .int .i64 z, .slice none 0 0]) rfl (st_pat_run _ _ rfl (hn6) _ _ _ _ _ _ (by go_simp) (by go_simp)) ?_
            obtain ⟨wE, hwE⟩ : ∃ W, W = (w6).setRow (w4).heap.size #[.int .i64 x, .int .i64 y, .int .i64 z, .slice none 0 0] := ⟨_, rfl⟩
            obtain ⟨nb, hnb⟩ : ∃ n, n = (w4).heap.size := ⟨_, rfl⟩
            rw [← hwE, ← hnb] at HFI
            rw [← hwE]
            rw [← hnb]
            clear hov hlt hgr hb0 hfin hcm hwE hnb
            go_simp
            go_wp2_with fail
            go_meet
            exact ⟨nb, x, y, z, rfl, HFI⟩
        · have hnw4 := PBox.new w3 0 0 0 (.slice none 0 0)
          have hcw4 := below_new w3 (.cells #[.int .i64 0, .int .i64 0, .int .i64 0, .slice none 0 0] 24)
          refine RP.p_val (.pointer (some ⟨(w3).heap.size, 0, none⟩)) ((w3).alloc (.cells #[.int .i64 0, .int .i64 0, .int .i64 0, .slice none 0 0] 24)) rfl (by go_simp) ?_
          obtain ⟨w4, hww4⟩ : ∃ W, W = (w3).alloc (.cells #[.int .i64 0, .int .i64 0, .int .i64 0, .slice none 0 0] 24) := ⟨_, rfl⟩
          rw [← hww4] at hnw4 hcw4 ⊢
          have hb4 := hb3.trans (hcw4.mono hb3.size)
          clear hww4
          refine ⟨grow_of_below hb4, ?_⟩
          refine RP.p_call 57 #[.agg #[.int .i64 q.a, .int .i64 q.b, .int .i64 q.c, .slice D q.xs.length m]] rfl (by go_simp) ?_
          refine (HL2.out w4 (HI.out.2.below (H1.out.b.trans (hb4.mono H1.out.b.size)))).mono ?_
          rintro e w5 ⟨v4, rfl, -, hcw5⟩
          have hb5 := hb4.trans (hcw5.mono hb4.size)
          refine .inl ⟨_, rfl, ?_⟩
          refine ⟨grow_of_below hb5, ?_⟩
          refine RP.p_call 76 #[.agg #[.int .i64 t1.a, .int .i64 t1.b, .int .i64 t1.c, v3], .agg #[.int .i64 t2.a, .int .i64 t2.b, .int .i64 t2.c, v4]] rfl (by go_simp) ?_
          refine (HCO.out v3 v4 w5).mono ?_
          rintro e w6 ⟨x, y, z, rfl, hcm, hcw6⟩
          have hb6 := hb5.trans (hcw6.mono hb5.size)
          refine .inl ⟨_, rfl, ?_⟩
          have hn6 := (hnw4.keep hcw5).keep hcw6
          refine ⟨grow_of_below hb6, ?_⟩
          have hov := H1.out.keep hb6
          have hlt : w.heap.size + 1 + 1 < (w3).heap.size := Nat.lt_of_lt_of_le (Array.getElem?_eq_some_iff.1 H1.out.r).1 (by first | exact hb2.size | exact hb3.size | exact hb4.size | exact hb5.size)
          have hgr := row_grown w6 (w3).heap.size #[.int .i64 x, .int .i64 y, .int .i64 z, .slice none 0 0]
          have hb0 := (hn6).row x y z (.slice none 0 0)
          have hfin : OV w ((w6).setRow (w3).heap.size #[.int .i64 x, .int .i64 y, .int .i64 z, .slice none 0 0]) p q A k D m :=
            ⟨(hgr.block _ (Array.getElem?_eq_some_iff.1 hov.p).1 (by simp; omega)).trans hov.p, (hgr.block _ (Array.getElem?_eq_some_iff.1 hov.q).1 (by simp; omega)).trans hov.q, (hgr.block _ (Array.getElem?_eq_some_iff.1 hov.r).1 (by simp; omega)).trans hov.r, Below.grown hov.b hgr hov.b.size (fun g e => by cases e; omega)⟩
          have HFI := Lib.hid (And.intro hfin (And.intro hb0 (And.intro hcm hlt)))
          refine RP.p_skip ((w6).setRow (w3).heap.size #[.int .i64 x, .int .i64 y, .int .i64 z, .slice none 0 0]) rfl (st_pat_run _ _ rfl (hn6) _ _ _ _ _ _ (by go_simp) (by go_simp)) ?_
          obtain ⟨wE, hwE⟩ : ∃ W, W = (w6).setRow (w3).heap.size #[.int .i64 x, .int .i64 y, .int .i64 z, .slice none 0 0] := ⟨_, rfl⟩
          obtain ⟨nb, hnb⟩ : ∃ n, n = (w3).heap.size := ⟨_, rfl⟩
          rw [← hwE, ← hnb] at HFI
          rw [← hwE]
          rw [← hnb]
          clear hov hlt hgr hb0 hfin hcm hwE hnb
          go_simp
          go_wp2_with fail
          go_meet
          exact ⟨nb, x, y, z, rfl, HFI⟩
      · have hnw3 := PBox.new w2 0 0 0 (.slice none 0 0)
        have hcw3 := below_new w2 (.cells #[.int .i64 0, .int .i64 0, .int .i64 0, .slice none 0 0] 24)
        refine RP.p_val (.pointer (some ⟨(w2).heap.size, 0, none⟩)) ((w2).alloc (.cells #[.int .i64 0, .int .i64 0, .int .i64 0, .slice none 0 0] 24)) rfl (by go_simp) ?_
        obtain ⟨w3, hww3⟩ : ∃ W, W = (w2).alloc (.cells #[.int .i64 0, .int .i64 0, .int .i64 0, .slice none 0 0] 24) := ⟨_, rfl⟩
        rw [← hww3] at hnw3 hcw3 ⊢
        have hb3 := hb2.trans (hcw3.mono hb2.size)
        clear hww3
        refine ⟨grow_of_below hb3, ?_⟩
        refine RP.p_call 57 #[.agg #[.int .i64 p.a, .int .i64 p.b, .int .i64 p.c, .slice A p.xs.length k]] rfl (by go_simp) ?_
        refine (HL1.out w3 (HI.out.1.below (H1.out.b.trans (hb3.mono H1.out.b.size)))).mono ?_
        rintro e w4 ⟨v3, rfl, -, hcw4⟩
        have hb4 := hb3.trans (hcw4.mono hb3.size)
        refine .inl ⟨_, rfl, ?_⟩
        refine ⟨grow_of_below hb4, ?_⟩
        refine RP.p_call 57 #[.agg #[.int .i64 q.a, .int .i64 q.b, .int .i64 q.c, .slice D q.xs.length m]] rfl (by go_simp) ?_
        refine (HL2.out w4 (HI.out.2.below (H1.out.b.trans (hb4.mono H1.out.b.size)))).mono ?_
        rintro e w5 ⟨v4, rfl, -, hcw5⟩
        have hb5 := hb4.trans (hcw5.mono hb4.size)
        refine .inl ⟨_, rfl, ?_⟩
        refine ⟨grow_of_below hb5, ?_⟩
        refine RP.p_call 76 #[.agg #[.int .i64 t1.a, .int .i64 t1.b, .int .i64 t1.c, v3], .agg #[.int .i64 t2.a, .int .i64 t2.b, .int .i64 t2.c, v4]] rfl (by go_simp) ?_
        refine (HCO.out v3 v4 w5).mono ?_
        rintro e w6 ⟨x, y, z, rfl, hcm, hcw6⟩
        have hb6 := hb5.trans (hcw6.mono hb5.size)
        refine .inl ⟨_, rfl, ?_⟩
        have hn6 := ((hnw3.keep hcw4).keep hcw5).keep hcw6
        refine ⟨grow_of_below hb6, ?_⟩
        have hov := H1.out.keep hb6
        have hlt : w.heap.size + 1 + 1 < (w2).heap.size := Nat.lt_of_lt_of_le (Array.getElem?_eq_some_iff.1 H1.out.r).1 (by first | exact hb2.size | exact hb3.size | exact hb4.size | exact hb5.size)
        have hgr := row_grown w6 (w2).heap.size #[.int .i64 x, .int .i64 y, .int .i64 z, .slice none 0 0]
        have hb0 := (hn6).row x y z (.slice none 0 0)
        have hfin : OV w ((w6).setRow (w2).heap.size #[.int .i64 x, .int .i64 y, .int .i64 z, .slice none 0 0]) p q A k D m :=
          ⟨(hgr.block _ (Array.getElem?_eq_some_iff.1 hov.p).1 (by simp; omega)).trans hov.p, (hgr.block _ (Array.getElem?_eq_some_iff.1 hov.q).1 (by simp; omega)).trans hov.q, (hgr.block _ (Array.getElem?_eq_some_iff.1 hov.r).1 (by simp; omega)).trans hov.r, Below.grown hov.b hgr hov.b.size (fun g e => by cases e; omega)⟩
        have HFI := Lib.hid (And.intro hfin (And.intro hb0 (And.intro hcm hlt)))
        refine RP.p_skip ((w6).setRow (w2).heap.size #[.int .i64 x, .int .i64 y, .int .i64 z, .slice none 0 0]) rfl (st_pat_run _ _ rfl (hn6) _ _ _ _ _ _ (by go_simp) (by go_simp)) ?_
        obtain ⟨wE, hwE⟩ : ∃ W, W = (w6).setRow (w2).heap.size #[.int .i64 x, .int .i64 y, .int .i64 z, .slice none 0 0] := ⟨_, rfl⟩
        obtain ⟨nb, hnb⟩ : ∃ n, n = (w2).heap.size := ⟨_, rfl⟩
        rw [← hwE, ← hnb] at HFI
        rw [← hwE]
        rw [← hnb]
        clear hov hlt hgr hb0 hfin hcm hwE hnb
        go_simp
        go_wp2_with fail
        go_meet
        exact ⟨nb, x, y, z, rfl, HFI⟩
    case rest =>
      obtain ⟨nb, x, y, z, rfl, HS⟩ := hcut
      obtain ⟨hbase, b1, b2, b3, b4⟩ := HBS.out.1 HS.out.2.2.1
      have hy0 := HS.out.2.2.1.pb
      obtain ⟨n, rfl⟩ : ∃ n : Nat, x = n := ⟨x.toNat, by have := HS.out.2.2.1.pa; omega⟩
      obtain ⟨M, rfl⟩ : ∃ n : Nat, z = n := ⟨z.toNat, by have := HS.out.2.2.1.pc; omega⟩
      rw [← Int.natCast_mul] at b1
      have hTR := HBS.out.2
      obtain ⟨G, hG⟩ : ∃ G, G = overF (colF p) (colF q) := ⟨_, rfl⟩
      rw [← hG] at hbase hTR
      have HTO := Lib.hid (fun Ax cx wx hx => told_any G n M y hbase (by omega) (by omega) (by omega) hy0 (by omega) Ax cx wx hx)
      have HTZ := Lib.hid hTR
      have hGv : ∀ i j : Nat, G i j = if colF p i j ≠ 0 then colF p i j else colF q i j := fun i j => by rw [hG]; rfl
      have HGV := Lib.hid hGv
      have R3 := Lib.hid (show ∃ v, RW w wc wc.heap.size w.heap.size (w.heap.size + 1 + 1) nb p.a p.b p.c (.slice A p.xs.length k) (n : Int) y (M : Int) v (tabN G n (0 * n)) ∧ Q2 wc wc.heap.size nb (w.heap.size + 1) p q A D m from by
        have hb := HS.out.1.b
        have hnb := (Array.getElem?_eq_some_iff.1 HS.out.2.1).1
        have hlt := HS.out.2.2.2
        rw [Nat.zero_mul]
        exact ⟨_, ⟨HS.out.1.p, HS.out.1.r, HS.out.2.1, OwnI.nil _ _, hb, by omega, by omega, by omega, by omega, by omega, by omega, by omega, by omega, hb.size⟩, HS.out.1.q, by omega, by omega, PIn.from HI.out.1 hb hb.size (by omega), PIn.from HI.out.2 hb hb.size (by omega)⟩)
      obtain ⟨B, hB⟩ : ∃ B, B = wc.heap.size := ⟨_, rfl⟩
      rw [← hB] at R3
      obtain ⟨pb, hpb⟩ : ∃ b, b = w.heap.size := ⟨_, rfl⟩
      obtain ⟨qb, hqb⟩ : ∃ b, b = w.heap.size + 1 := ⟨_, rfl⟩
      obtain ⟨rb, hrb⟩ : ∃ b, b = w.heap.size + 1 + 1 := ⟨_, rfl⟩
      rw [← hrb, ← hqb, ← hpb] at R3
      rw [← hrb, ← hqb, ← hpb]
      clear hbase hG hGv hTR HBS HS HCO HL1 HL2 hB hpb hqb hrb p0 p1 p2 p3 p4 q0 q1 q2 q3 q4 HI H1
      go_upto_region 6 with fail
      go_loopw [8] (fun t wr => ∃ K : Nat, t = .int .i64 K ∧ K ≤ M ∧ Hid (∃ v, RW w wr B pb rb nb p.a p.b p.c (.slice A p.xs.length k) (n : Int) y (M : Int) v (tabN G n (K * n)) ∧ Q2 wr B nb qb p q A D m)) (fun t _ => M - (intOf t).toNat)
      case atStart => exact ⟨0, rfl, by omega, R3⟩
      case round =>
        clear R3
        obtain ⟨K, rfl, hK, hr⟩ := hrel
        obtain ⟨v, hT, hQ⟩ := hr.out
        obtain ⟨o0, o1, o2, o3, o4⟩ := hT.o.cells
        by_cases hlt : K < M
        · have dkm : decide ((K : Int) < (M : Int)) = true := decide_eq_true (by omega)
          have R0 := Lib.hid (show ∃ v, RW w wr B pb rb nb p.a p.b p.c (.slice A p.xs.length k) (n : Int) y (M : Int) v (tabN G n (K * n + 0)) ∧ Q2 wr B nb qb p q A D m from ⟨v, hT, hQ⟩)
          clear hr hT hQ
          go_upto_region 9 with fail
          go_loopw [9] (fun t wq => ∃ i : Nat, t = .int .i64 i ∧ i ≤ n ∧ Hid (∃ v, RW w wq B pb rb nb p.a p.b p.c (.slice A p.xs.length k) (n : Int) y (M : Int) v (tabN G n (K * n + i)) ∧ Q2 wq B nb qb p q A D m)) (fun t _ => n - (intOf t).toNat)
          case atStart => exact ⟨0, rfl, by omega, R0⟩
          case round =>
            clear R0 o0 o1 o2 o3 o4 v
            obtain ⟨i, rfl, hi, hq⟩ := hrel
            obtain ⟨v, hT, hQ⟩ := hq.out
            obtain ⟨p0, p1, p2, p3, p4⟩ := hT.p.cells
            obtain ⟨o0, o1, o2, o3, o4⟩ := hT.o.cells
            by_cases hil : i < n
            · have din : decide ((i : Int) < (n : Int)) = true := decide_eq_true (by omega)
              have hlen : K * n + i ≤ 1000000 - 1 := by
                have h1 : (K + 1) * n ≤ M * n := Nat.mul_le_mul_right n (by omega)
                rw [Nat.add_mul, Nat.one_mul, Nat.mul_comm M n] at h1
                omega
              have HTN := Lib.hid (tabN_step (F := G) (k := K) hil)
              have HLM := Lib.hid (show (tabN G n (K * n + i)).length ≤ 1000000 by rw [tabN_length]; omega)
              have HGI := Lib.hid (HGV.out i K)
              have HC1 := Lib.hid (HF1.out (i : Int) (K : Int) (by omega) (by omega) (by omega) (by omega) wr (hQ.2.2.2.1.in hT.sz))
              have HC2 := Lib.hid (fun w hL => HF2.out (i : Int) (K : Int) (by omega) (by omega) (by omega) (by omega) w hL)
              obtain ⟨z1, hz1⟩ : ∃ z1, z1 = colF p i K := ⟨_, rfl⟩
              obtain ⟨z2, hz2⟩ : ∃ z1, z1 = colF q i K := ⟨_, rfl⟩
              rw [← hz1] at HC1 HGI
              rw [← hz2] at HC2 HGI
              clear hq hz1 hz2
              go_wp2_with fail
              refine HC1.out.mono ?_
              rintro e w3 ⟨rfl, hb3⟩
              have HT3 := Lib.hid (And.intro (hT.keep hb3) (hQ.keep hb3 hT.sz))
              clear hT hQ hb3 p0 p1 p2 p3 p4 o0 o1 o2 o3 o4 HC1
              by_cases hzz : z1 = 0
              · subst hzz
                have HGZ := Lib.hid (show G i K = z2 by rw [HGI.out, if_neg (by simp)])
                obtain ⟨q0, q1, q2, q3, q4⟩ := HT3.out.2.1.cells
                clear HGI
                go_wp2_with fail
                refine (HC2.out w3 (HT3.out.2.2.2.2.2.in HT3.out.1.sz)).mono ?_
                rintro e w4 ⟨rfl, hb4⟩
                have HT4 := Lib.hid (And.intro (HT3.out.1.keep hb4) (HT3.out.2.keep hb4 HT3.out.1.sz))
                clear HT3 hb4 q0 q1 q2 q3 q4 HC2
                obtain ⟨o0, o1, o2, o3, o4⟩ := HT4.out.1.o.cells
                go_wp2_with (at_builtin; refine append_i64 (.tmp 46) (.tmp 48) rfl rfl B _ _ z2 w4 rfl rfl HT4.out.1.own rfl HLM.out HT4.out.1.sz ?_)
                intro v' w6 ho6 hg6 hd6
                have hb6 : Below B w4 w6 := (Below.refl B w4).grown hg6 HT4.out.1.sz (fun g e => (HT4.out.1.own.lt' g e).1)
                obtain ⟨A6, n6, hv6, -⟩ := ho6.isL
                obtain ⟨m6, hm6⟩ : ∃ m6, m6 = (tabN G n (K * n + i) ++ [z2]).length := ⟨_, rfl⟩
                rw [← hm6] at hv6
                clear hm6
                subst hv6
                have T6 := HT4.out.1.step hb6 ho6
                rw [← HGZ.out, ← HTN.out] at T6
                have HT6 := Lib.hid (And.intro T6 (HT4.out.2.step hb6 (.slice A6 m6 n6)))
                have z1' := (hb6.cell (p := ⟨nb, 3, none⟩) HT4.out.1.oB).trans o3
                have z2' : w6.frozen? ⟨nb, 3, none⟩ = false := frozen_of_row w6 nb 3 _ _ ((hb6.block _ HT4.out.1.oB).trans HT4.out.1.o)
                clear T6 hb6 ho6 hg6 hd6 o0 o1 o2 o3 o4 HT4
                go_wp2
                go_roundw
                case rel => exact ⟨i + 1, by go_num, by omega, Lib.hid ⟨_, HT6.out⟩⟩
                case measure => simp [intOf]; omega
              · have dz : (z1 == 0) = false := by rw [beq_eq_false_iff_ne]; exact hzz
                have HGZ := Lib.hid (show G i K = z1 by rw [HGI.out, if_pos hzz])
                clear HGI hzz HC2
                obtain ⟨o0, o1, o2, o3, o4⟩ := HT3.out.1.o.cells
                go_wp2_with (at_builtin; refine append_i64 (.tmp 46) (.tmp 48) rfl rfl B _ _ z1 w3 rfl rfl HT3.out.1.own rfl HLM.out HT3.out.1.sz ?_)
                intro v' w6 ho6 hg6 hd6
                have hb6 : Below B w3 w6 := (Below.refl B w3).grown hg6 HT3.out.1.sz (fun g e => (HT3.out.1.own.lt' g e).1)
                obtain ⟨A6, n6, hv6, -⟩ := ho6.isL
                obtain ⟨m6, hm6⟩ : ∃ m6, m6 = (tabN G n (K * n + i) ++ [z1]).length := ⟨_, rfl⟩
                rw [← hm6] at hv6
                clear hm6
                subst hv6
                have T6 := HT3.out.1.step hb6 ho6
                rw [← HGZ.out, ← HTN.out] at T6
                have HT6 := Lib.hid (And.intro T6 (HT3.out.2.step hb6 (.slice A6 m6 n6)))
                have z1' := (hb6.cell (p := ⟨nb, 3, none⟩) HT3.out.1.oB).trans o3
                have z2' : w6.frozen? ⟨nb, 3, none⟩ = false := frozen_of_row w6 nb 3 _ _ ((hb6.block _ HT3.out.1.oB).trans HT3.out.1.o)
                clear T6 hb6 ho6 hg6 hd6 o0 o1 o2 o3 o4 HT3
                go_wp2
                go_roundw
                case rel => exact ⟨i + 1, by go_num, by omega, Lib.hid ⟨_, HT6.out⟩⟩
                case measure => simp [intOf]; omega
            · obtain rfl : n = i := by omega
              have din : decide ((n : Int) < (n : Int)) = false := decide_eq_false (by omega)
              have R2 := Lib.hid (show ∃ v, RW w wr B pb rb nb p.a p.b p.c (.slice A p.xs.length k) (n : Int) y (M : Int) v (tabN G n ((K + 1) * n)) ∧ Q2 wr B nb qb p q A D m from by rw [Nat.add_mul, Nat.one_mul]; exact ⟨v, hT, hQ⟩)
              clear hq hT hQ
              go_wp2
              go_roundw
              case rel => exact ⟨K + 1, by go_num, by omega, R2⟩
              case measure => simp [intOf]; omega
        · obtain rfl : M = K := by omega
          have dkm : decide ((M : Int) < (M : Int)) = false := decide_eq_false (by omega)
          have HTE := Lib.hid hT
          clear hr hT hQ hlt
          obtain ⟨A1, n1, rfl, hL1⟩ := HTE.out.own.isL
          obtain ⟨l1, hl1⟩ : ∃ l1, l1 = (tabN G n (M * n)).length := ⟨_, rfl⟩
          have HTO1 := Lib.hid (HTO.out A1 n1 wr hL1)
          rw [← hl1] at HTE HTO1 o3
          clear hL1 hl1
          go_wp2_with fail
          refine HTO1.out.mono ?_
          rintro e w5 ⟨v5, rfl, ho5, hb5⟩
          rw [← HTZ.out.1] at ho5 ⊢
          rw [← HTZ.out.2]
          obtain ⟨A5, n5, rfl, -⟩ := ho5.isL
          have hr5 := HTE.out.r.keep hb5
          have HP := Lib.hid (put_ret hr5 (HTE.out.below.trans (hb5.mono HTE.out.below.size)) HTE.out.wr' R _ ho5 HTE.out.below.size (Array.getElem?_eq_some_iff.1 HTE.out.r).1)
          obtain ⟨r0, r1, r2, r3, r4⟩ := PBox.cells hr5
          have f0 : (w5).frozen? ⟨rb, 0, none⟩ = false := frozen_of_row (w5) (rb) 0 _ _ hr5
          have f1 : (w5).frozen? ⟨rb, 1, none⟩ = false := frozen_of_row (w5) (rb) 1 _ _ hr5
          have f2 : (w5).frozen? ⟨rb, 2, none⟩ = false := frozen_of_row (w5) (rb) 2 _ _ hr5
          have f3 : (w5).frozen? ⟨rb, 3, none⟩ = false := frozen_of_row (w5) (rb) 3 _ _ hr5
          clear ho5 hb5 hr5 HTO1 HTE HTO o0 o1 o2 o3 o4
          go_wp2
          refine bodyPost_ret (v := .tuple #[.agg #[.int .i64 R.a, .int .i64 R.b, .int .i64 R.c, .slice A5 R.xs.length n5], .int .i64 Y]) (ret_pat2 rfl rfl rfl HP.out.1) rfl ?_
          exact ⟨_, rfl, HP.out.2⟩
  · have d1 : (Z == 0) = false := by rw [beq_eq_false_iff_ne]; exact hz
    have d2 : (Z != 0) = true := by rw [bne_iff_ne]; exact hz
    have HRY := Lib.hid (show R = zeroP ∧ Y = Z from ⟨by rw [H01.out.2.1, if_pos hz], by rw [H01.out.2.2, if_pos hz]⟩)
    have HP := Lib.hid (put_zero H1.out.r H1.out.b (by omega))
    obtain ⟨r0, r1, r2, r3, r4⟩ := PBox.cells H1.out.r
    have f0 : (w1).frozen? ⟨w.heap.size + 1 + 1, 0, none⟩ = false := frozen_of_row (w1) (w.heap.size + 1 + 1) 0 _ _ H1.out.r
    have f1 : (w1).frozen? ⟨w.heap.size + 1 + 1, 1, none⟩ = false := frozen_of_row (w1) (w.heap.size + 1 + 1) 1 _ _ H1.out.r
    have f2 : (w1).frozen? ⟨w.heap.size + 1 + 1, 2, none⟩ = false := frozen_of_row (w1) (w.heap.size + 1 + 1) 2 _ _ H1.out.r
    have f3 : (w1).frozen? ⟨w.heap.size + 1 + 1, 3, none⟩ = false := frozen_of_row (w1) (w.heap.size + 1 + 1) 3 _ _ H1.out.r
    clear hz H01 H1
    go_wp2
    refine bodyPost_ret (v := .tuple #[.agg #[.int .i64 0, .int .i64 0, .int .i64 0, .slice none 0 0], .int .i64 Z]) (ret_pat2 rfl rfl rfl HP.out.1) rfl ?_
    rw [HRY.out.1, HRY.out.2]
    exact OutP.zero HP.out.2
end Go.Proofs.YtgmokojdlbdjeaaGreatDoor
