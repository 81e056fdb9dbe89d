/-
  THE REFERENCE: Align.
-/
import Derived.Test.YtgmokojdlbdjeaaGreatDoorAlgA
import Derived.Test.YtgmokojdlbdjeaaGreatDoorPrfN
import Derived.Test.YtgmokojdlbdjeaaGreatDoorRegO
namespace Go.Proofs.YtgmokojdlbdjeaaGreatDoor
open Go.RowKit
attribute [local go_sem] grow_cell grow_frozen
attribute [local irreducible] RP.plainUpon RP.stepC plainUpon stepC
/-- Two least patterns in two boxes. -/
structure AV (w wx : World) (t1 t2 : PatD) (n4 n5 : Nat) (A1 : Option Addr) (k1 : Nat) (A2 : Option Addr) (k2 l1 l2 : Nat) : Prop where
  p4 : PBox wx n4 t1.a t1.b t1.c (.slice A1 l1 k1)
  p5 : PBox wx n5 t2.a t2.b t2.c (.slice A2 l2 k2)
  i1 : IsL wx A1 l1 t1.xs
  i2 : IsL wx A2 l2 t2.xs
  b : Below w.heap.size w wx
theorem AV.keep {w wx w' : World} {t1 t2 : PatD} {n4 n5 : Nat} {A1 : Option Addr} {k1 : Nat} {A2 : Option Addr} {k2 l1 l2 : Nat} (h : AV w wx t1 t2 n4 n5 A1 k1 A2 k2 l1 l2) (hb : Below wx.heap.size wx w') : AV w w' t1 t2 n4 n5 A1 k1 A2 k2 l1 l2 :=
  ⟨h.p4.keep hb, h.p5.keep hb, IsL.below hb h.i1, IsL.below hb h.i2, h.b.trans (hb.mono h.b.size)⟩
theorem alg_c {w W : World} {n : Nat} {c : Array Value} (h : w.heap.size ≤ n) (hb : Below w.heap.size w W) : ∃ x, W.setRow n c = grow w x :=
  grow_of_below (Below.grown hb (row_grown W n c) hb.size (fun g e => by cases e; exact h))
theorem alg_fin {w W : World} {t1 t2 : PatD} {n4 n5 : Nat} {A1 : Option Addr} {k1 : Nat} {A2 : Option Addr} {k2 l1 l2 B1 B2 : Nat} (h4 : PBox W n4 0 0 0 (.slice none 0 0)) (h5 : PBox W n5 0 0 0 (.slice none 0 0)) (o1 : OwnI W B1 (.slice A1 l1 k1) t1.xs) (o2 : OwnI W B2 (.slice A2 l2 k2) t2.xs) (e1 : l1 = t1.xs.length) (e2 : l2 = t2.xs.length)
    (hne : n4 ≠ n5) (a1 : ∀ g, (Value.slice A1 l1 k1).ownBlock = some g → g ≠ n4) (a2 : ∀ g, (Value.slice A1 l1 k1).ownBlock = some g → g ≠ n5) (a3 : ∀ g, (Value.slice A2 l2 k2).ownBlock = some g → g ≠ n4) (a4 : ∀ g, (Value.slice A2 l2 k2).ownBlock = some g → g ≠ n5) (hb : Below w.heap.size w W) (z4 : w.heap.size ≤ n4) (z5 : w.heap.size ≤ n5) :
    AV w ((W.setRow n4 #[.int .i64 t1.a, .int .i64 t1.b, .int .i64 t1.c, .slice A1 l1 k1]).setRow n5 #[.int .i64 t2.a, .int .i64 t2.b, .int .i64 t2.c, .slice A2 l2 k2]) t1 t2 n4 n5 A1 k1 A2 k2 l1 l2 := by
  subst e1
  subst e2
  have g1 := row_grown W n4 #[.int .i64 t1.a, .int .i64 t1.b, .int .i64 t1.c, .slice A1 t1.xs.length k1]
  have b1 := h4.row t1.a t1.b t1.c (.slice A1 t1.xs.length k1)
  have s1 : (W.setRow n4 #[.int .i64 t1.a, .int .i64 t1.b, .int .i64 t1.c, .slice A1 t1.xs.length k1]).heap.size = W.heap.size := by simp [World.setRow]
  have q5 : PBox (W.setRow n4 #[.int .i64 t1.a, .int .i64 t1.b, .int .i64 t1.c, .slice A1 t1.xs.length k1]) n5 0 0 0 (.slice none 0 0) := (g1.block _ (Array.getElem?_eq_some_iff.1 h5).1 (by simp; omega)).trans h5
  obtain ⟨wm, hwm⟩ : ∃ wm, wm = W.setRow n4 #[.int .i64 t1.a, .int .i64 t1.b, .int .i64 t1.c, .slice A1 t1.xs.length k1] := ⟨_, rfl⟩
  rw [← hwm] at g1 b1 s1 q5 ⊢
  have g2 := row_grown wm n5 #[.int .i64 t2.a, .int .i64 t2.b, .int .i64 t2.c, .slice A2 t2.xs.length k2]
  have b2 := q5.row t2.a t2.b t2.c (.slice A2 t2.xs.length k2)
  have away : ∀ {v : Value} {n : Nat}, (∀ g, v.ownBlock = some g → g ≠ n) → v.ownBlock = none ∨ v.ownBlock ≠ some n := fun {v n} h => by
    rcases hv : v.ownBlock with _ | x
    · exact .inl rfl
    · exact .inr (fun e => h x hv (by cases e; rfl))
  have p1 := OwnI.grown (OwnI.grown o1 g1 (away a1)) g2 (away a2)
  have p2 := OwnI.grown (OwnI.grown o2 g1 (away a3)) g2 (away a4)
  refine ⟨(g2.block _ (Array.getElem?_eq_some_iff.1 b1).1 (by simp; omega)).trans b1, b2, ?_, ?_, ?_⟩
  · obtain ⟨A', c', e, hh⟩ := p1.isL
    cases e
    exact hh
  · obtain ⟨A', c', e, hh⟩ := p2.isL
    cases e
    exact hh
  · exact Below.grown (Below.grown hb g1 hb.size (fun g e => by cases e; omega)) g2 (by rw [s1]; exact hb.size) (fun g e => by cases e; omega)
structure AU (w wr : World) (p q : PatD) (A : Option Addr) (k : Nat) (D : Option Addr) (m : Nat) : Prop where
  p : PBox wr w.heap.size p.a p.b p.c (.slice A p.xs.length k)
  q : PBox wr (w.heap.size + 1) q.a q.b q.c (.slice D q.xs.length m)
  b : Below w.heap.size w wr
set_option maxRecDepth 100000 in
set_option maxHeartbeats 8000000 in
theorem ralign_any (p q : PatD) (hl : p.xs.length ≤ 1000000) (hl2 : q.xs.length ≤ 1000000) (x y : Int) (f : Bool) (hs : AlS p q x y f) (A : Option Addr) (k : Nat) (D : Option Addr) (m : Nat) (w : World) (hi : PatIn w p A) (hq : PatIn w q D) :
    Calls Tryz.prog 46 #[.agg #[.int .i64 p.a, .int .i64 p.b, .int .i64 p.c, .slice A p.xs.length k], .agg #[.int .i64 q.a, .int .i64 q.b, .int .i64 q.c, .slice D q.xs.length m]] w fun e w' => e = .returned (.tuple #[.int .i64 x, .int .i64 y, .bool f, .int .i64 (twoZ p q)]) ∧ Below w.heap.size w w' := by
  have HC := Lib.hid (fun w hi hq => rboth_any p q hl hl2 A k D m w hi hq)
  have hz0 := fun h => twoZ_zero (p := p) (q := q) h
  have hEz : twoZ p q ≠ 0 → ¬ AlE p q := fun h he => h he.1
  have hEq : twoZ p q = 0 → (AlE p q ↔ (lst (colF p)).a = (lst (colF q)).a ∧ (lst (colF p)).b = (lst (colF q)).b ∧ (lst (colF p)).c = (lst (colF q)).c) := fun h => ⟨fun he => he.2, fun he => ⟨h, he⟩⟩
  obtain ⟨Z, hZ⟩ : ∃ Z, Z = twoZ p q := ⟨_, rfl⟩
  rw [← hZ] at HC hz0 hEz hEq
  rw [← hZ]
  have HI := Lib.hid (And.intro hi hq)
  have HS := Lib.hid hs
  have H01 := Lib.hid (And.intro hz0 (And.intro hEz hEq))
  clear hi hq hz0 hEz hEq hZ hs
  go_enter Tryz.func46, Tryz.ntmps46
  go_wp2_with fail
  obtain ⟨u0, u1, u2, u3⟩ := al2 w (.cells #[.int .i64 p.a, .int .i64 p.b, .int .i64 p.c, .slice A p.xs.length k] 24) (.cells #[.int .i64 q.a, .int .i64 q.b, .int .i64 q.c, .slice D q.xs.length m] 24)
  obtain ⟨V, hV⟩ : ∃ V, V = (w.alloc (.cells #[.int .i64 p.a, .int .i64 p.b, .int .i64 p.c, .slice A p.xs.length k] 24)).alloc (.cells #[.int .i64 q.a, .int .i64 q.b, .int .i64 q.c, .slice D q.xs.length m] 24) := ⟨_, rfl⟩
  rw [← hV] at u0 u1 u2 u3 ⊢
  refine (HC.out V (HI.out.1.below u3) (HI.out.2.below u3)).mono ?_
  rintro e w1 ⟨rfl, hb1⟩
  have H1 := Lib.hid (show AU w w1 p q A k D m from ⟨PBox.keep (w := V) u1 hb1, PBox.keep (w := V) u2 hb1, u3.trans (hb1.mono u3.size)⟩)
  clear hV u0 u1 u2 u3 HC hb1 V
  by_cases hz : Z = 0
  · subst hz
    obtain ⟨hv1, hv2⟩ := H01.out.1 rfl
    have hEq := H01.out.2.2 rfl
    have gp := valP_zero hv1
    have gq := valP_zero hv2
    have HL1 := Lib.hid (fun w hi => rleast_q p gp.ok.wide A k w hi)
    have HL2 := Lib.hid (fun w hi => rleast_q q gq.ok.wide D m w hi)
    have g1 := lst_good hv1
    have g2 := lst_good hv2
    have hF1 := (lst_pat hv1).lst_col
    have hF2 := (lst_pat hv2).lst_col
    have hmo := fun i k he hi hk hp => HS.out.more (i := i) (k := k) he hi hk hp
    have hin : f = true → 0 ≤ x ∧ x < (lst (colF p)).a ∧ 0 ≤ y ∧ y < (lst (colF p)).c := fun e => by
      subst e
      obtain ⟨-, e1, e2, e3, e4, -⟩ := HS.out.in
      exact ⟨e1, e2, e3, e4⟩
    have hnon : f = false → x = 0 ∧ y = 0 := fun e => by subst e; exact HS.out.non
    have hno := fun he => HS.out.no he
    obtain ⟨t1, ht1⟩ : ∃ t, t = lst (colF p) := ⟨_, rfl⟩
    obtain ⟨t2, ht2⟩ : ∃ t, t = lst (colF q) := ⟨_, rfl⟩
    rw [← ht1] at HL1 g1 hF1 hEq hmo hin
    rw [← ht2] at HL2 g2 hF2 hEq
    have HG := Lib.hid (And.intro g1 (And.intro g2 (And.intro hF1 (And.intro hF2 (And.intro hEq (And.intro hmo (And.intro hin (And.intro hnon hno))))))))
    clear hv1 hv2 hEq gp gq g1 g2 hF1 hF2 hmo hin hnon hno ht1 ht2 H01 HS
    obtain ⟨p0, p1, p2, p3, p4⟩ := H1.out.p.cells
    obtain ⟨q0, q1, q2, q3, q4⟩ := H1.out.q.cells
    go_upto_region 4 with fail
    go_cut [9, 10] (fun s t wx => ∃ n4 n5 A1 k1 A2 k2 l1 l2, s = .pointer (some ⟨n4, 0, none⟩) ∧ t = .pointer (some ⟨n5, 0, none⟩) ∧ Hid (AV w wx t1 t2 n4 n5 A1 k1 A2 k2 l1 l2))
    case first =>
      refine RP.region_tri (C := fun w' => ∃ x, w' = grow w1 x) (fun _ _ _ => False) [0, 2] (.three 1 (.three 3 (.two 4 (.one 5 (.one 6 .nil)) 5 (.one 4 (.one 6 .nil))) 4 (.two 3 (.one 5 (.one 6 .nil)) 5 (.one 3 (.one 6 .nil))) 5 (.two 3 (.one 4 (.one 6 .nil)) 4 (.one 3 (.one 6 .nil)))) 4 (.two 1 (.two 3 (.one 5 (.one 6 .nil)) 5 (.one 3 (.one 6 .nil))) 5 (.one 1 (.one 3 (.one 6 .nil)))) 5 (.two 1 (.two 3 (.one 4 (.one 6 .nil)) 4 (.one 3 (.one 6 .nil))) 4 (.one 1 (.one 3 (.one 6 .nil))))) 7 (fun _ _ _ h => h.elim) (by kernel_rfl) (by kernel_rfl) (grow_start w1) ?_
      simp only [pickL, List.getElem?_cons_zero, List.getElem?_cons_succ]
      repeat (go_big_quiet_step (fail))
      refine wpQuiet_nil ?_
      obtain ⟨wd2, hw2⟩ : ∃ w2 : World, w2 = { w1 with drawn := w1.drawn + 1 } := ⟨_, rfl⟩
      have hd2 : Below w1.heap.size w1 wd2 := by rw [hw2]; exact (Below.refl _ _).drew
      have hz2 := hd2.size
      rw [← hw2]
      clear hw2 p0 p1 p2 p3 p4 q0 q1 q2 q3 q4
      simp only [RP.tri, atOp, List.getElem?_cons_zero, List.getElem?_cons_succ]
      refine ⟨grow_of_below hd2, ?_, ?_, ?_⟩
      · refine RP.p_call 57 #[.agg #[.int .i64 p.a, .int .i64 p.b, .int .i64 p.c, .slice A p.xs.length k]] rfl (by go_simp) ?_
        refine (HL1.out wd2 (HI.out.1.below (H1.out.b.trans (hd2.mono H1.out.b.size)))).mono ?_
        rintro e wd3 ⟨v1, rfl, ho1, hc3⟩
        have hd3 := hd2.trans (hc3.mono hd2.size)
        have hz3 := hc3.size
        obtain ⟨A1, n1, hv1, -⟩ := ho1.isL
        obtain ⟨l1, hl1⟩ : ∃ l, l = t1.xs.length := ⟨_, rfl⟩
        rw [← hl1] at hv1
        subst hv1
        have g1 := ho1.lt'
        refine .inl ⟨_, rfl, ?_⟩
        refine ⟨grow_of_below hd3, ?_, ?_, ?_⟩
        · refine RP.p_call 57 #[.agg #[.int .i64 q.a, .int .i64 q.b, .int .i64 q.c, .slice D q.xs.length m]] rfl (by go_simp) ?_
          refine (HL2.out wd3 (HI.out.2.below (H1.out.b.trans (hd3.mono H1.out.b.size)))).mono ?_
          rintro e wd4 ⟨v2, rfl, ho2, hc4⟩
          have hd4 := hd3.trans (hc4.mono hd3.size)
          have hz4 := hc4.size
          obtain ⟨A2, n2, hv2, -⟩ := ho2.isL
          obtain ⟨l2, hl2'⟩ : ∃ l, l = t2.xs.length := ⟨_, rfl⟩
          rw [← hl2'] at hv2
          subst hv2
          have g2 := ho2.lt'
          have ho1 := OwnI.keep hc4 ho1
          refine .inl ⟨_, rfl, ?_⟩
          refine ⟨grow_of_below hd4, ?_, ?_⟩
          · have hp4n := PBox.new wd4 0 0 0 (.slice none 0 0)
            have hc5 := below_new wd4 (.cells #[.int .i64 0, .int .i64 0, .int .i64 0, .slice none 0 0] 24)
            have hz5 : (wd4.alloc (.cells #[.int .i64 0, .int .i64 0, .int .i64 0, .slice none 0 0] 24)).heap.size = wd4.heap.size + 1 := by simp
            refine RP.p_val (.pointer (some ⟨wd4.heap.size, 0, none⟩)) (wd4.alloc (.cells #[.int .i64 0, .int .i64 0, .int .i64 0, .slice none 0 0] 24)) rfl (by go_simp) ?_
            obtain ⟨wd5, hw5⟩ : ∃ W, W = wd4.alloc (.cells #[.int .i64 0, .int .i64 0, .int .i64 0, .slice none 0 0] 24) := ⟨_, rfl⟩
            rw [← hw5] at hp4n hc5 hz5 ⊢
            have hd5 := hd4.trans (hc5.mono hd4.size)
            clear hw5
            have hp4 := hp4n
            have ho1 := OwnI.keep hc5 ho1
            have ho2 := OwnI.keep hc5 ho2
            refine ⟨grow_of_below hd5, ?_⟩
            have hp5n := PBox.new wd5 0 0 0 (.slice none 0 0)
            have hc6 := below_new wd5 (.cells #[.int .i64 0, .int .i64 0, .int .i64 0, .slice none 0 0] 24)
            have hz6 : (wd5.alloc (.cells #[.int .i64 0, .int .i64 0, .int .i64 0, .slice none 0 0] 24)).heap.size = wd5.heap.size + 1 := by simp
            refine RP.p_val (.pointer (some ⟨wd5.heap.size, 0, none⟩)) (wd5.alloc (.cells #[.int .i64 0, .int .i64 0, .int .i64 0, .slice none 0 0] 24)) rfl (by go_simp) ?_
            obtain ⟨wd6, hw6⟩ : ∃ W, W = wd5.alloc (.cells #[.int .i64 0, .int .i64 0, .int .i64 0, .slice none 0 0] 24) := ⟨_, rfl⟩
            rw [← hw6] at hp5n hc6 hz6 ⊢
            have hd6 := hd5.trans (hc6.mono hd5.size)
            clear hw6
            have hp5 := hp5n
            have hp4 := hp4.keep hc6
            have ho1 := OwnI.keep hc6 ho1
            have ho2 := OwnI.keep hc6 ho2
            refine ⟨grow_of_below hd6, ?_⟩
            have hlt : w.heap.size ≤ w1.heap.size := H1.out.b.size
            have HFI := Lib.hid (alg_fin (w := w) hp4 hp5 ho1 ho2 hl1 hl2' (show wd4.heap.size ≠ wd5.heap.size by omega) (fun g e => by have := g1 g e; omega) (fun g e => by have := g1 g e; omega) (fun g e => by have := g2 g e; omega) (fun g e => by have := g2 g e; omega) (H1.out.b.trans (hd6.mono H1.out.b.size)) (by omega) (by omega))
            have hq5 : PBox (wd6.setRow wd4.heap.size #[.int .i64 t1.a, .int .i64 t1.b, .int .i64 t1.c, .slice A1 l1 n1]) wd5.heap.size 0 0 0 (.slice none 0 0) := (row_grown wd6 wd4.heap.size #[.int .i64 t1.a, .int .i64 t1.b, .int .i64 t1.c, .slice A1 l1 n1]).block _ (Array.getElem?_eq_some_iff.1 hp5).1 (by simp; omega) |>.trans hp5
            refine RP.p_skip (wd6.setRow wd4.heap.size #[.int .i64 t1.a, .int .i64 t1.b, .int .i64 t1.c, .slice A1 l1 n1]) rfl (st_pat_run _ _ rfl hp4 _ _ _ _ _ _ (by go_simp) (by go_simp)) ?_
            refine ⟨alg_c (w := w1) (n := wd4.heap.size) (by omega) hd6, ?_⟩
            refine RP.p_skip ((wd6.setRow wd4.heap.size #[.int .i64 t1.a, .int .i64 t1.b, .int .i64 t1.c, .slice A1 l1 n1]).setRow wd5.heap.size #[.int .i64 t2.a, .int .i64 t2.b, .int .i64 t2.c, .slice A2 l2 n2]) rfl (st_pat_run _ _ rfl hq5 _ _ _ _ _ _ (by go_simp) (by go_simp)) ?_
            obtain ⟨wE, hwE⟩ : ∃ W, W = ((wd6.setRow wd4.heap.size #[.int .i64 t1.a, .int .i64 t1.b, .int .i64 t1.c, .slice A1 l1 n1]).setRow wd5.heap.size #[.int .i64 t2.a, .int .i64 t2.b, .int .i64 t2.c, .slice A2 l2 n2]) := ⟨_, rfl⟩
            obtain ⟨n4, hn4⟩ : ∃ n, n = wd4.heap.size := ⟨_, rfl⟩
            obtain ⟨n5, hn5⟩ : ∃ n, n = wd5.heap.size := ⟨_, rfl⟩
            rw [← hwE, ← hn4, ← hn5] at HFI
            rw [← hwE, ← hn4, ← hn5]
            clear hwE hn4 hn5 hq5 hp4 hp5 ho1 ho2 g1 g2
            go_simp
            go_wp2_with fail
            go_meet
            exact ⟨n4, n5, A1, n1, A2, n2, l1, l2, rfl, rfl, HFI⟩
          · have hp5n := PBox.new wd4 0 0 0 (.slice none 0 0)
            have hc5 := below_new wd4 (.cells #[.int .i64 0, .int .i64 0, .int .i64 0, .slice none 0 0] 24)
            have hz5 : (wd4.alloc (.cells #[.int .i64 0, .int .i64 0, .int .i64 0, .slice none 0 0] 24)).heap.size = wd4.heap.size + 1 := by simp
            refine RP.p_val (.pointer (some ⟨wd4.heap.size, 0, none⟩)) (wd4.alloc (.cells #[.int .i64 0, .int .i64 0, .int .i64 0, .slice none 0 0] 24)) rfl (by go_simp) ?_
            obtain ⟨wd5, hw5⟩ : ∃ W, W = wd4.alloc (.cells #[.int .i64 0, .int .i64 0, .int .i64 0, .slice none 0 0] 24) := ⟨_, rfl⟩
            rw [← hw5] at hp5n hc5 hz5 ⊢
            have hd5 := hd4.trans (hc5.mono hd4.size)
            clear hw5
            have hp5 := hp5n
            have ho1 := OwnI.keep hc5 ho1
            have ho2 := OwnI.keep hc5 ho2
            refine ⟨grow_of_below hd5, ?_⟩
            have hp4n := PBox.new wd5 0 0 0 (.slice none 0 0)
            have hc6 := below_new wd5 (.cells #[.int .i64 0, .int .i64 0, .int .i64 0, .slice none 0 0] 24)
            have hz6 : (wd5.alloc (.cells #[.int .i64 0, .int .i64 0, .int .i64 0, .slice none 0 0] 24)).heap.size = wd5.heap.size + 1 := by simp
            refine RP.p_val (.pointer (some ⟨wd5.heap.size, 0, none⟩)) (wd5.alloc (.cells #[.int .i64 0, .int .i64 0, .int .i64 0, .slice none 0 0] 24)) rfl (by go_simp) ?_
            obtain ⟨wd6, hw6⟩ : ∃ W, W = wd5.alloc (.cells #[.int .i64 0, .int .i64 0, .int .i64 0, .slice none 0 0] 24) := ⟨_, rfl⟩
            rw [← hw6] at hp4n hc6 hz6 ⊢
            have hd6 := hd5.trans (hc6.mono hd5.size)
            clear hw6
            have hp4 := hp4n
            have hp5 := hp5.keep hc6
            have ho1 := OwnI.keep hc6 ho1
            have ho2 := OwnI.keep hc6 ho2
            refine ⟨grow_of_below hd6, ?_⟩
            have hlt : w.heap.size ≤ w1.heap.size := H1.out.b.size
            have HFI := Lib.hid (alg_fin (w := w) hp4 hp5 ho1 ho2 hl1 hl2' (show wd5.heap.size ≠ wd4.heap.size by omega) (fun g e => by have := g1 g e; omega) (fun g e => by have := g1 g e; omega) (fun g e => by have := g2 g e; omega) (fun g e => by have := g2 g e; omega) (H1.out.b.trans (hd6.mono H1.out.b.size)) (by omega) (by omega))
            have hq5 : PBox (wd6.setRow wd5.heap.size #[.int .i64 t1.a, .int .i64 t1.b, .int .i64 t1.c, .slice A1 l1 n1]) wd4.heap.size 0 0 0 (.slice none 0 0) := (row_grown wd6 wd5.heap.size #[.int .i64 t1.a, .int .i64 t1.b, .int .i64 t1.c, .slice A1 l1 n1]).block _ (Array.getElem?_eq_some_iff.1 hp5).1 (by simp; omega) |>.trans hp5
            refine RP.p_skip (wd6.setRow wd5.heap.size #[.int .i64 t1.a, .int .i64 t1.b, .int .i64 t1.c, .slice A1 l1 n1]) rfl (st_pat_run _ _ rfl hp4 _ _ _ _ _ _ (by go_simp) (by go_simp)) ?_
            refine ⟨alg_c (w := w1) (n := wd5.heap.size) (by omega) hd6, ?_⟩
            refine RP.p_skip ((wd6.setRow wd5.heap.size #[.int .i64 t1.a, .int .i64 t1.b, .int .i64 t1.c, .slice A1 l1 n1]).setRow wd4.heap.size #[.int .i64 t2.a, .int .i64 t2.b, .int .i64 t2.c, .slice A2 l2 n2]) rfl (st_pat_run _ _ rfl hq5 _ _ _ _ _ _ (by go_simp) (by go_simp)) ?_
            obtain ⟨wE, hwE⟩ : ∃ W, W = ((wd6.setRow wd5.heap.size #[.int .i64 t1.a, .int .i64 t1.b, .int .i64 t1.c, .slice A1 l1 n1]).setRow wd4.heap.size #[.int .i64 t2.a, .int .i64 t2.b, .int .i64 t2.c, .slice A2 l2 n2]) := ⟨_, rfl⟩
            obtain ⟨n4, hn4⟩ : ∃ n, n = wd5.heap.size := ⟨_, rfl⟩
            obtain ⟨n5, hn5⟩ : ∃ n, n = wd4.heap.size := ⟨_, rfl⟩
            rw [← hwE, ← hn4, ← hn5] at HFI
            rw [← hwE, ← hn4, ← hn5]
            clear hwE hn4 hn5 hq5 hp4 hp5 ho1 ho2 g1 g2
            go_simp
            go_wp2_with fail
            go_meet
            exact ⟨n4, n5, A1, n1, A2, n2, l1, l2, rfl, rfl, HFI⟩
        · have hp4n := PBox.new wd3 0 0 0 (.slice none 0 0)
          have hc4 := below_new wd3 (.cells #[.int .i64 0, .int .i64 0, .int .i64 0, .slice none 0 0] 24)
          have hz4 : (wd3.alloc (.cells #[.int .i64 0, .int .i64 0, .int .i64 0, .slice none 0 0] 24)).heap.size = wd3.heap.size + 1 := by simp
          refine RP.p_val (.pointer (some ⟨wd3.heap.size, 0, none⟩)) (wd3.alloc (.cells #[.int .i64 0, .int .i64 0, .int .i64 0, .slice none 0 0] 24)) rfl (by go_simp) ?_
          obtain ⟨wd4, hw4⟩ : ∃ W, W = wd3.alloc (.cells #[.int .i64 0, .int .i64 0, .int .i64 0, .slice none 0 0] 24) := ⟨_, rfl⟩
          rw [← hw4] at hp4n hc4 hz4 ⊢
          have hd4 := hd3.trans (hc4.mono hd3.size)
          clear hw4
          have hp4 := hp4n
          have ho1 := OwnI.keep hc4 ho1
          refine ⟨grow_of_below hd4, ?_, ?_⟩
          · refine RP.p_call 57 #[.agg #[.int .i64 q.a, .int .i64 q.b, .int .i64 q.c, .slice D q.xs.length m]] rfl (by go_simp) ?_
            refine (HL2.out wd4 (HI.out.2.below (H1.out.b.trans (hd4.mono H1.out.b.size)))).mono ?_
            rintro e wd5 ⟨v2, rfl, ho2, hc5⟩
            have hd5 := hd4.trans (hc5.mono hd4.size)
            have hz5 := hc5.size
            obtain ⟨A2, n2, hv2, -⟩ := ho2.isL
            obtain ⟨l2, hl2'⟩ : ∃ l, l = t2.xs.length := ⟨_, rfl⟩
            rw [← hl2'] at hv2
            subst hv2
            have g2 := ho2.lt'
            have ho1 := OwnI.keep hc5 ho1
            have hp4 := hp4.keep hc5
            refine .inl ⟨_, rfl, ?_⟩
            refine ⟨grow_of_below hd5, ?_⟩
            have hp5n := PBox.new wd5 0 0 0 (.slice none 0 0)
            have hc6 := below_new wd5 (.cells #[.int .i64 0, .int .i64 0, .int .i64 0, .slice none 0 0] 24)
            have hz6 : (wd5.alloc (.cells #[.int .i64 0, .int .i64 0, .int .i64 0, .slice none 0 0] 24)).heap.size = wd5.heap.size + 1 := by simp
            refine RP.p_val (.pointer (some ⟨wd5.heap.size, 0, none⟩)) (wd5.alloc (.cells #[.int .i64 0, .int .i64 0, .int .i64 0, .slice none 0 0] 24)) rfl (by go_simp) ?_
            obtain ⟨wd6, hw6⟩ : ∃ W, W = wd5.alloc (.cells #[.int .i64 0, .int .i64 0, .int .i64 0, .slice none 0 0] 24) := ⟨_, rfl⟩
            rw [← hw6] at hp5n hc6 hz6 ⊢
            have hd6 := hd5.trans (hc6.mono hd5.size)
            clear hw6
            have hp5 := hp5n
            have hp4 := hp4.keep hc6
            have ho1 := OwnI.keep hc6 ho1
            have ho2 := OwnI.keep hc6 ho2
            refine ⟨grow_of_below hd6, ?_⟩
            have hlt : w.heap.size ≤ w1.heap.size := H1.out.b.size
            have HFI := Lib.hid (alg_fin (w := w) hp4 hp5 ho1 ho2 hl1 hl2' (show wd3.heap.size ≠ wd5.heap.size by omega) (fun g e => by have := g1 g e; omega) (fun g e => by have := g1 g e; omega) (fun g e => by have := g2 g e; omega) (fun g e => by have := g2 g e; omega) (H1.out.b.trans (hd6.mono H1.out.b.size)) (by omega) (by omega))
            have hq5 : PBox (wd6.setRow wd3.heap.size #[.int .i64 t1.a, .int .i64 t1.b, .int .i64 t1.c, .slice A1 l1 n1]) wd5.heap.size 0 0 0 (.slice none 0 0) := (row_grown wd6 wd3.heap.size #[.int .i64 t1.a, .int .i64 t1.b, .int .i64 t1.c, .slice A1 l1 n1]).block _ (Array.getElem?_eq_some_iff.1 hp5).1 (by simp; omega) |>.trans hp5
            refine RP.p_skip (wd6.setRow wd3.heap.size #[.int .i64 t1.a, .int .i64 t1.b, .int .i64 t1.c, .slice A1 l1 n1]) rfl (st_pat_run _ _ rfl hp4 _ _ _ _ _ _ (by go_simp) (by go_simp)) ?_
            refine ⟨alg_c (w := w1) (n := wd3.heap.size) (by omega) hd6, ?_⟩
            refine RP.p_skip ((wd6.setRow wd3.heap.size #[.int .i64 t1.a, .int .i64 t1.b, .int .i64 t1.c, .slice A1 l1 n1]).setRow wd5.heap.size #[.int .i64 t2.a, .int .i64 t2.b, .int .i64 t2.c, .slice A2 l2 n2]) rfl (st_pat_run _ _ rfl hq5 _ _ _ _ _ _ (by go_simp) (by go_simp)) ?_
            obtain ⟨wE, hwE⟩ : ∃ W, W = ((wd6.setRow wd3.heap.size #[.int .i64 t1.a, .int .i64 t1.b, .int .i64 t1.c, .slice A1 l1 n1]).setRow wd5.heap.size #[.int .i64 t2.a, .int .i64 t2.b, .int .i64 t2.c, .slice A2 l2 n2]) := ⟨_, rfl⟩
            obtain ⟨n4, hn4⟩ : ∃ n, n = wd3.heap.size := ⟨_, rfl⟩
            obtain ⟨n5, hn5⟩ : ∃ n, n = wd5.heap.size := ⟨_, rfl⟩
            rw [← hwE, ← hn4, ← hn5] at HFI
            rw [← hwE, ← hn4, ← hn5]
            clear hwE hn4 hn5 hq5 hp4 hp5 ho1 ho2 g1 g2
            go_simp
            go_wp2_with fail
            go_meet
            exact ⟨n4, n5, A1, n1, A2, n2, l1, l2, rfl, rfl, HFI⟩
          · have hp5n := PBox.new wd4 0 0 0 (.slice none 0 0)
            have hc5 := below_new wd4 (.cells #[.int .i64 0, .int .i64 0, .int .i64 0, .slice none 0 0] 24)
            have hz5 : (wd4.alloc (.cells #[.int .i64 0, .int .i64 0, .int .i64 0, .slice none 0 0] 24)).heap.size = wd4.heap.size + 1 := by simp
            refine RP.p_val (.pointer (some ⟨wd4.heap.size, 0, none⟩)) (wd4.alloc (.cells #[.int .i64 0, .int .i64 0, .int .i64 0, .slice none 0 0] 24)) rfl (by go_simp) ?_
            obtain ⟨wd5, hw5⟩ : ∃ W, W = wd4.alloc (.cells #[.int .i64 0, .int .i64 0, .int .i64 0, .slice none 0 0] 24) := ⟨_, rfl⟩
            rw [← hw5] at hp5n hc5 hz5 ⊢
            have hd5 := hd4.trans (hc5.mono hd4.size)
            clear hw5
            have hp5 := hp5n
            have hp4 := hp4.keep hc5
            have ho1 := OwnI.keep hc5 ho1
            refine ⟨grow_of_below hd5, ?_⟩
            refine RP.p_call 57 #[.agg #[.int .i64 q.a, .int .i64 q.b, .int .i64 q.c, .slice D q.xs.length m]] rfl (by go_simp) ?_
            refine (HL2.out wd5 (HI.out.2.below (H1.out.b.trans (hd5.mono H1.out.b.size)))).mono ?_
            rintro e wd6 ⟨v2, rfl, ho2, hc6⟩
            have hd6 := hd5.trans (hc6.mono hd5.size)
            have hz6 := hc6.size
            obtain ⟨A2, n2, hv2, -⟩ := ho2.isL
            obtain ⟨l2, hl2'⟩ : ∃ l, l = t2.xs.length := ⟨_, rfl⟩
            rw [← hl2'] at hv2
            subst hv2
            have g2 := ho2.lt'
            have ho1 := OwnI.keep hc6 ho1
            have hp4 := hp4.keep hc6
            have hp5 := hp5.keep hc6
            refine .inl ⟨_, rfl, ?_⟩
            refine ⟨grow_of_below hd6, ?_⟩
            have hlt : w.heap.size ≤ w1.heap.size := H1.out.b.size
            have HFI := Lib.hid (alg_fin (w := w) hp4 hp5 ho1 ho2 hl1 hl2' (show wd3.heap.size ≠ wd4.heap.size by omega) (fun g e => by have := g1 g e; omega) (fun g e => by have := g1 g e; omega) (fun g e => by have := g2 g e; omega) (fun g e => by have := g2 g e; omega) (H1.out.b.trans (hd6.mono H1.out.b.size)) (by omega) (by omega))
            have hq5 : PBox (wd6.setRow wd3.heap.size #[.int .i64 t1.a, .int .i64 t1.b, .int .i64 t1.c, .slice A1 l1 n1]) wd4.heap.size 0 0 0 (.slice none 0 0) := (row_grown wd6 wd3.heap.size #[.int .i64 t1.a, .int .i64 t1.b, .int .i64 t1.c, .slice A1 l1 n1]).block _ (Array.getElem?_eq_some_iff.1 hp5).1 (by simp; omega) |>.trans hp5
            refine RP.p_skip (wd6.setRow wd3.heap.size #[.int .i64 t1.a, .int .i64 t1.b, .int .i64 t1.c, .slice A1 l1 n1]) rfl (st_pat_run _ _ rfl hp4 _ _ _ _ _ _ (by go_simp) (by go_simp)) ?_
            refine ⟨alg_c (w := w1) (n := wd3.heap.size) (by omega) hd6, ?_⟩
            refine RP.p_skip ((wd6.setRow wd3.heap.size #[.int .i64 t1.a, .int .i64 t1.b, .int .i64 t1.c, .slice A1 l1 n1]).setRow wd4.heap.size #[.int .i64 t2.a, .int .i64 t2.b, .int .i64 t2.c, .slice A2 l2 n2]) rfl (st_pat_run _ _ rfl hq5 _ _ _ _ _ _ (by go_simp) (by go_simp)) ?_
            obtain ⟨wE, hwE⟩ : ∃ W, W = ((wd6.setRow wd3.heap.size #[.int .i64 t1.a, .int .i64 t1.b, .int .i64 t1.c, .slice A1 l1 n1]).setRow wd4.heap.size #[.int .i64 t2.a, .int .i64 t2.b, .int .i64 t2.c, .slice A2 l2 n2]) := ⟨_, rfl⟩
            obtain ⟨n4, hn4⟩ : ∃ n, n = wd3.heap.size := ⟨_, rfl⟩
            obtain ⟨n5, hn5⟩ : ∃ n, n = wd4.heap.size := ⟨_, rfl⟩
            rw [← hwE, ← hn4, ← hn5] at HFI
            rw [← hwE, ← hn4, ← hn5]
            clear hwE hn4 hn5 hq5 hp4 hp5 ho1 ho2 g1 g2
            go_simp
            go_wp2_with fail
            go_meet
            exact ⟨n4, n5, A1, n1, A2, n2, l1, l2, rfl, rfl, HFI⟩
        · have hp5n := PBox.new wd3 0 0 0 (.slice none 0 0)
          have hc4 := below_new wd3 (.cells #[.int .i64 0, .int .i64 0, .int .i64 0, .slice none 0 0] 24)
          have hz4 : (wd3.alloc (.cells #[.int .i64 0, .int .i64 0, .int .i64 0, .slice none 0 0] 24)).heap.size = wd3.heap.size + 1 := by simp
          refine RP.p_val (.pointer (some ⟨wd3.heap.size, 0, none⟩)) (wd3.alloc (.cells #[.int .i64 0, .int .i64 0, .int .i64 0, .slice none 0 0] 24)) rfl (by go_simp) ?_
          obtain ⟨wd4, hw4⟩ : ∃ W, W = wd3.alloc (.cells #[.int .i64 0, .int .i64 0, .int .i64 0, .slice none 0 0] 24) := ⟨_, rfl⟩
          rw [← hw4] at hp5n hc4 hz4 ⊢
          have hd4 := hd3.trans (hc4.mono hd3.size)
          clear hw4
          have hp5 := hp5n
          have ho1 := OwnI.keep hc4 ho1
          refine ⟨grow_of_below hd4, ?_, ?_⟩
          · refine RP.p_call 57 #[.agg #[.int .i64 q.a, .int .i64 q.b, .int .i64 q.c, .slice D q.xs.length m]] rfl (by go_simp) ?_
            refine (HL2.out wd4 (HI.out.2.below (H1.out.b.trans (hd4.mono H1.out.b.size)))).mono ?_
            rintro e wd5 ⟨v2, rfl, ho2, hc5⟩
            have hd5 := hd4.trans (hc5.mono hd4.size)
            have hz5 := hc5.size
            obtain ⟨A2, n2, hv2, -⟩ := ho2.isL
            obtain ⟨l2, hl2'⟩ : ∃ l, l = t2.xs.length := ⟨_, rfl⟩
            rw [← hl2'] at hv2
            subst hv2
            have g2 := ho2.lt'
            have ho1 := OwnI.keep hc5 ho1
            have hp5 := hp5.keep hc5
            refine .inl ⟨_, rfl, ?_⟩
            refine ⟨grow_of_below hd5, ?_⟩
            have hp4n := PBox.new wd5 0 0 0 (.slice none 0 0)
            have hc6 := below_new wd5 (.cells #[.int .i64 0, .int .i64 0, .int .i64 0, .slice none 0 0] 24)
            have hz6 : (wd5.alloc (.cells #[.int .i64 0, .int .i64 0, .int .i64 0, .slice none 0 0] 24)).heap.size = wd5.heap.size + 1 := by simp
            refine RP.p_val (.pointer (some ⟨wd5.heap.size, 0, none⟩)) (wd5.alloc (.cells #[.int .i64 0, .int .i64 0, .int .i64 0, .slice none 0 0] 24)) rfl (by go_simp) ?_
            obtain ⟨wd6, hw6⟩ : ∃ W, W = wd5.alloc (.cells #[.int .i64 0, .int .i64 0, .int .i64 0, .slice none 0 0] 24) := ⟨_, rfl⟩
            rw [← hw6] at hp4n hc6 hz6 ⊢
            have hd6 := hd5.trans (hc6.mono hd5.size)
            clear hw6
            have hp4 := hp4n
            have hp5 := hp5.keep hc6
            have ho1 := OwnI.keep hc6 ho1
            have ho2 := OwnI.keep hc6 ho2
            refine ⟨grow_of_below hd6, ?_⟩
            have hlt : w.heap.size ≤ w1.heap.size := H1.out.b.size
            have HFI := Lib.hid (alg_fin (w := w) hp4 hp5 ho1 ho2 hl1 hl2' (show wd5.heap.size ≠ wd3.heap.size by omega) (fun g e => by have := g1 g e; omega) (fun g e => by have := g1 g e; omega) (fun g e => by have := g2 g e; omega) (fun g e => by have := g2 g e; omega) (H1.out.b.trans (hd6.mono H1.out.b.size)) (by omega) (by omega))
            have hq5 : PBox (wd6.setRow wd5.heap.size #[.int .i64 t1.a, .int .i64 t1.b, .int .i64 t1.c, .slice A1 l1 n1]) wd3.heap.size 0 0 0 (.slice none 0 0) := (row_grown wd6 wd5.heap.size #[.int .i64 t1.a, .int .i64 t1.b, .int .i64 t1.c, .slice A1 l1 n1]).block _ (Array.getElem?_eq_some_iff.1 hp5).1 (by simp; omega) |>.trans hp5
            refine RP.p_skip (wd6.setRow wd5.heap.size #[.int .i64 t1.a, .int .i64 t1.b, .int .i64 t1.c, .slice A1 l1 n1]) rfl (st_pat_run _ _ rfl hp4 _ _ _ _ _ _ (by go_simp) (by go_simp)) ?_
            refine ⟨alg_c (w := w1) (n := wd5.heap.size) (by omega) hd6, ?_⟩
            refine RP.p_skip ((wd6.setRow wd5.heap.size #[.int .i64 t1.a, .int .i64 t1.b, .int .i64 t1.c, .slice A1 l1 n1]).setRow wd3.heap.size #[.int .i64 t2.a, .int .i64 t2.b, .int .i64 t2.c, .slice A2 l2 n2]) rfl (st_pat_run _ _ rfl hq5 _ _ _ _ _ _ (by go_simp) (by go_simp)) ?_
            obtain ⟨wE, hwE⟩ : ∃ W, W = ((wd6.setRow wd5.heap.size #[.int .i64 t1.a, .int .i64 t1.b, .int .i64 t1.c, .slice A1 l1 n1]).setRow wd3.heap.size #[.int .i64 t2.a, .int .i64 t2.b, .int .i64 t2.c, .slice A2 l2 n2]) := ⟨_, rfl⟩
            obtain ⟨n4, hn4⟩ : ∃ n, n = wd5.heap.size := ⟨_, rfl⟩
            obtain ⟨n5, hn5⟩ : ∃ n, n = wd3.heap.size := ⟨_, rfl⟩
            rw [← hwE, ← hn4, ← hn5] at HFI
            rw [← hwE, ← hn4, ← hn5]
            clear hwE hn4 hn5 hq5 hp4 hp5 ho1 ho2 g1 g2
            go_simp
            go_wp2_with fail
            go_meet
            exact ⟨n4, n5, A1, n1, A2, n2, l1, l2, rfl, rfl, HFI⟩
          · have hp4n := PBox.new wd4 0 0 0 (.slice none 0 0)
            have hc5 := below_new wd4 (.cells #[.int .i64 0, .int .i64 0, .int .i64 0, .slice none 0 0] 24)
            have hz5 : (wd4.alloc (.cells #[.int .i64 0, .int .i64 0, .int .i64 0, .slice none 0 0] 24)).heap.size = wd4.heap.size + 1 := by simp
            refine RP.p_val (.pointer (some ⟨wd4.heap.size, 0, none⟩)) (wd4.alloc (.cells #[.int .i64 0, .int .i64 0, .int .i64 0, .slice none 0 0] 24)) rfl (by go_simp) ?_
            obtain ⟨wd5, hw5⟩ : ∃ W, W = wd4.alloc (.cells #[.int .i64 0, .int .i64 0, .int .i64 0, .slice none 0 0] 24) := ⟨_, rfl⟩
            rw [← hw5] at hp4n hc5 hz5 ⊢
            have hd5 := hd4.trans (hc5.mono hd4.size)
            clear hw5
            have hp4 := hp4n
            have hp5 := hp5.keep hc5
            have ho1 := OwnI.keep hc5 ho1
            refine ⟨grow_of_below hd5, ?_⟩
            refine RP.p_call 57 #[.agg #[.int .i64 q.a, .int .i64 q.b, .int .i64 q.c, .slice D q.xs.length m]] rfl (by go_simp) ?_
            refine (HL2.out wd5 (HI.out.2.below (H1.out.b.trans (hd5.mono H1.out.b.size)))).mono ?_
            rintro e wd6 ⟨v2, rfl, ho2, hc6⟩
            have hd6 := hd5.trans (hc6.mono hd5.size)
            have hz6 := hc6.size
            obtain ⟨A2, n2, hv2, -⟩ := ho2.isL
            obtain ⟨l2, hl2'⟩ : ∃ l, l = t2.xs.length := ⟨_, rfl⟩
            rw [← hl2'] at hv2
            subst hv2
            have g2 := ho2.lt'
            have ho1 := OwnI.keep hc6 ho1
            have hp4 := hp4.keep hc6
            have hp5 := hp5.keep hc6
            refine .inl ⟨_, rfl, ?_⟩
            refine ⟨grow_of_below hd6, ?_⟩
            have hlt : w.heap.size ≤ w1.heap.size := H1.out.b.size
            have HFI := Lib.hid (alg_fin (w := w) hp4 hp5 ho1 ho2 hl1 hl2' (show wd4.heap.size ≠ wd3.heap.size by omega) (fun g e => by have := g1 g e; omega) (fun g e => by have := g1 g e; omega) (fun g e => by have := g2 g e; omega) (fun g e => by have := g2 g e; omega) (H1.out.b.trans (hd6.mono H1.out.b.size)) (by omega) (by omega))
            have hq5 : PBox (wd6.setRow wd4.heap.size #[.int .i64 t1.a, .int .i64 t1.b, .int .i64 t1.c, .slice A1 l1 n1]) wd3.heap.size 0 0 0 (.slice none 0 0) := (row_grown wd6 wd4.heap.size #[.int .i64 t1.a, .int .i64 t1.b, .int .i64 t1.c, .slice A1 l1 n1]).block _ (Array.getElem?_eq_some_iff.1 hp5).1 (by simp; omega) |>.trans hp5
            refine RP.p_skip (wd6.setRow wd4.heap.size #[.int .i64 t1.a, .int .i64 t1.b, .int .i64 t1.c, .slice A1 l1 n1]) rfl (st_pat_run _ _ rfl hp4 _ _ _ _ _ _ (by go_simp) (by go_simp)) ?_
            refine ⟨alg_c (w := w1) (n := wd4.heap.size) (by omega) hd6, ?_⟩
            refine RP.p_skip ((wd6.setRow wd4.heap.size #[.int .i64 t1.a, .int .i64 t1.b, .int .i64 t1.c, .slice A1 l1 n1]).setRow wd3.heap.size #[.int .i64 t2.a, .int .i64 t2.b, .int .i64 t2.c, .slice A2 l2 n2]) rfl (st_pat_run _ _ rfl hq5 _ _ _ _ _ _ (by go_simp) (by go_simp)) ?_
            obtain ⟨wE, hwE⟩ : ∃ W, W = ((wd6.setRow wd4.heap.size #[.int .i64 t1.a, .int .i64 t1.b, .int .i64 t1.c, .slice A1 l1 n1]).setRow wd3.heap.size #[.int .i64 t2.a, .int .i64 t2.b, .int .i64 t2.c, .slice A2 l2 n2]) := ⟨_, rfl⟩
            obtain ⟨n4, hn4⟩ : ∃ n, n = wd4.heap.size := ⟨_, rfl⟩
            obtain ⟨n5, hn5⟩ : ∃ n, n = wd3.heap.size := ⟨_, rfl⟩
            rw [← hwE, ← hn4, ← hn5] at HFI
            rw [← hwE, ← hn4, ← hn5]
            clear hwE hn4 hn5 hq5 hp4 hp5 ho1 ho2 g1 g2
            go_simp
            go_wp2_with fail
            go_meet
            exact ⟨n4, n5, A1, n1, A2, n2, l1, l2, rfl, rfl, HFI⟩
      · have hp4n := PBox.new wd2 0 0 0 (.slice none 0 0)
        have hc3 := below_new wd2 (.cells #[.int .i64 0, .int .i64 0, .int .i64 0, .slice none 0 0] 24)
        have hz3 : (wd2.alloc (.cells #[.int .i64 0, .int .i64 0, .int .i64 0, .slice none 0 0] 24)).heap.size = wd2.heap.size + 1 := by simp
        refine RP.p_val (.pointer (some ⟨wd2.heap.size, 0, none⟩)) (wd2.alloc (.cells #[.int .i64 0, .int .i64 0, .int .i64 0, .slice none 0 0] 24)) rfl (by go_simp) ?_
        obtain ⟨wd3, hw3⟩ : ∃ W, W = wd2.alloc (.cells #[.int .i64 0, .int .i64 0, .int .i64 0, .slice none 0 0] 24) := ⟨_, rfl⟩
        rw [← hw3] at hp4n hc3 hz3 ⊢
        have hd3 := hd2.trans (hc3.mono hd2.size)
        clear hw3
        have hp4 := hp4n
        refine ⟨grow_of_below hd3, ?_, ?_⟩
        · refine RP.p_call 57 #[.agg #[.int .i64 p.a, .int .i64 p.b, .int .i64 p.c, .slice A p.xs.length k]] rfl (by go_simp) ?_
          refine (HL1.out wd3 (HI.out.1.below (H1.out.b.trans (hd3.mono H1.out.b.size)))).mono ?_
          rintro e wd4 ⟨v1, rfl, ho1, hc4⟩
          have hd4 := hd3.trans (hc4.mono hd3.size)
          have hz4 := hc4.size
          obtain ⟨A1, n1, hv1, -⟩ := ho1.isL
          obtain ⟨l1, hl1⟩ : ∃ l, l = t1.xs.length := ⟨_, rfl⟩
          rw [← hl1] at hv1
          subst hv1
          have g1 := ho1.lt'
          have hp4 := hp4.keep hc4
          refine .inl ⟨_, rfl, ?_⟩
          refine ⟨grow_of_below hd4, ?_, ?_⟩
          · refine RP.p_call 57 #[.agg #[.int .i64 q.a, .int .i64 q.b, .int .i64 q.c, .slice D q.xs.length m]] rfl (by go_simp) ?_
            refine (HL2.out wd4 (HI.out.2.below (H1.out.b.trans (hd4.mono H1.out.b.size)))).mono ?_
            rintro e wd5 ⟨v2, rfl, ho2, hc5⟩
            have hd5 := hd4.trans (hc5.mono hd4.size)
            have hz5 := hc5.size
            obtain ⟨A2, n2, hv2, -⟩ := ho2.isL
            obtain ⟨l2, hl2'⟩ : ∃ l, l = t2.xs.length := ⟨_, rfl⟩
            rw [← hl2'] at hv2
            subst hv2
            have g2 := ho2.lt'
            have ho1 := OwnI.keep hc5 ho1
            have hp4 := hp4.keep hc5
            refine .inl ⟨_, rfl, ?_⟩
            refine ⟨grow_of_below hd5, ?_⟩
            have hp5n := PBox.new wd5 0 0 0 (.slice none 0 0)
            have hc6 := below_new wd5 (.cells #[.int .i64 0, .int .i64 0, .int .i64 0, .slice none 0 0] 24)
            have hz6 : (wd5.alloc (.cells #[.int .i64 0, .int .i64 0, .int .i64 0, .slice none 0 0] 24)).heap.size = wd5.heap.size + 1 := by simp
            refine RP.p_val (.pointer (some ⟨wd5.heap.size, 0, none⟩)) (wd5.alloc (.cells #[.int .i64 0, .int .i64 0, .int .i64 0, .slice none 0 0] 24)) rfl (by go_simp) ?_
            obtain ⟨wd6, hw6⟩ : ∃ W, W = wd5.alloc (.cells #[.int .i64 0, .int .i64 0, .int .i64 0, .slice none 0 0] 24) := ⟨_, rfl⟩
            rw [← hw6] at hp5n hc6 hz6 ⊢
            have hd6 := hd5.trans (hc6.mono hd5.size)
            clear hw6
            have hp5 := hp5n
            have hp4 := hp4.keep hc6
            have ho1 := OwnI.keep hc6 ho1
            have ho2 := OwnI.keep hc6 ho2
            refine ⟨grow_of_below hd6, ?_⟩
            have hlt : w.heap.size ≤ w1.heap.size := H1.out.b.size
            have HFI := Lib.hid (alg_fin (w := w) hp4 hp5 ho1 ho2 hl1 hl2' (show wd2.heap.size ≠ wd5.heap.size by omega) (fun g e => by have := g1 g e; omega) (fun g e => by have := g1 g e; omega) (fun g e => by have := g2 g e; omega) (fun g e => by have := g2 g e; omega) (H1.out.b.trans (hd6.mono H1.out.b.size)) (by omega) (by omega))
            have hq5 : PBox (wd6.setRow wd2.heap.size #[.int .i64 t1.a, .int .i64 t1.b, .int .i64 t1.c, .slice A1 l1 n1]) wd5.heap.size 0 0 0 (.slice none 0 0) := (row_grown wd6 wd2.heap.size #[.int .i64 t1.a, .int .i64 t1.b, .int .i64 t1.c, .slice A1 l1 n1]).block _ (Array.getElem?_eq_some_iff.1 hp5).1 (by simp; omega) |>.trans hp5
            refine RP.p_skip (wd6.setRow wd2.heap.size #[.int .i64 t1.a, .int .i64 t1.b, .int .i64 t1.c, .slice A1 l1 n1]) rfl (st_pat_run _ _ rfl hp4 _ _ _ _ _ _ (by go_simp) (by go_simp)) ?_
            refine ⟨alg_c (w := w1) (n := wd2.heap.size) (by omega) hd6, ?_⟩
            refine RP.p_skip ((wd6.setRow wd2.heap.size #[.int .i64 t1.a, .int .i64 t1.b, .int .i64 t1.c, .slice A1 l1 n1]).setRow wd5.heap.size #[.int .i64 t2.a, .int .i64 t2.b, .int .i64 t2.c, .slice A2 l2 n2]) rfl (st_pat_run _ _ rfl hq5 _ _ _ _ _ _ (by go_simp) (by go_simp)) ?_
            obtain ⟨wE, hwE⟩ : ∃ W, W = ((wd6.setRow wd2.heap.size #[.int .i64 t1.a, .int .i64 t1.b, .int .i64 t1.c, .slice A1 l1 n1]).setRow wd5.heap.size #[.int .i64 t2.a, .int .i64 t2.b, .int .i64 t2.c, .slice A2 l2 n2]) := ⟨_, rfl⟩
            obtain ⟨n4, hn4⟩ : ∃ n, n = wd2.heap.size := ⟨_, rfl⟩
            obtain ⟨n5, hn5⟩ : ∃ n, n = wd5.heap.size := ⟨_, rfl⟩
            rw [← hwE, ← hn4, ← hn5] at HFI
            rw [← hwE, ← hn4, ← hn5]
            clear hwE hn4 hn5 hq5 hp4 hp5 ho1 ho2 g1 g2
            go_simp
            go_wp2_with fail
            go_meet
            exact ⟨n4, n5, A1, n1, A2, n2, l1, l2, rfl, rfl, HFI⟩
          · have hp5n := PBox.new wd4 0 0 0 (.slice none 0 0)
            have hc5 := below_new wd4 (.cells #[.int .i64 0, .int .i64 0, .int .i64 0, .slice none 0 0] 24)
            have hz5 : (wd4.alloc (.cells #[.int .i64 0, .int .i64 0, .int .i64 0, .slice none 0 0] 24)).heap.size = wd4.heap.size + 1 := by simp
            refine RP.p_val (.pointer (some ⟨wd4.heap.size, 0, none⟩)) (wd4.alloc (.cells #[.int .i64 0, .int .i64 0, .int .i64 0, .slice none 0 0] 24)) rfl (by go_simp) ?_
            obtain ⟨wd5, hw5⟩ : ∃ W, W = wd4.alloc (.cells #[.int .i64 0, .int .i64 0, .int .i64 0, .slice none 0 0] 24) := ⟨_, rfl⟩
            rw [← hw5] at hp5n hc5 hz5 ⊢
            have hd5 := hd4.trans (hc5.mono hd4.size)
            clear hw5
            have hp5 := hp5n
            have hp4 := hp4.keep hc5
            have ho1 := OwnI.keep hc5 ho1
            refine ⟨grow_of_below hd5, ?_⟩
            refine RP.p_call 57 #[.agg #[.int .i64 q.a, .int .i64 q.b, .int .i64 q.c, .slice D q.xs.length m]] rfl (by go_simp) ?_
            refine (HL2.out wd5 (HI.out.2.below (H1.out.b.trans (hd5.mono H1.out.b.size)))).mono ?_
            rintro e wd6 ⟨v2, rfl, ho2, hc6⟩
            have hd6 := hd5.trans (hc6.mono hd5.size)
            have hz6 := hc6.size
            obtain ⟨A2, n2, hv2, -⟩ := ho2.isL
            obtain ⟨l2, hl2'⟩ : ∃ l, l = t2.xs.length := ⟨_, rfl⟩
            rw [← hl2'] at hv2
            subst hv2
            have g2 := ho2.lt'
            have ho1 := OwnI.keep hc6 ho1
            have hp4 := hp4.keep hc6
            have hp5 := hp5.keep hc6
            refine .inl ⟨_, rfl, ?_⟩
            refine ⟨grow_of_below hd6, ?_⟩
            have hlt : w.heap.size ≤ w1.heap.size := H1.out.b.size
            have HFI := Lib.hid (alg_fin (w := w) hp4 hp5 ho1 ho2 hl1 hl2' (show wd2.heap.size ≠ wd4.heap.size by omega) (fun g e => by have := g1 g e; omega) (fun g e => by have := g1 g e; omega) (fun g e => by have := g2 g e; omega) (fun g e => by have := g2 g e; omega) (H1.out.b.trans (hd6.mono H1.out.b.size)) (by omega) (by omega))
            have hq5 : PBox (wd6.setRow wd2.heap.size #[.int .i64 t1.a, .int .i64 t1.b, .int .i64 t1.c, .slice A1 l1 n1]) wd4.heap.size 0 0 0 (.slice none 0 0) := (row_grown wd6 wd2.heap.size #[.int .i64 t1.a, .int .i64 t1.b, .int .i64 t1.c, .slice A1 l1 n1]).block _ (Array.getElem?_eq_some_iff.1 hp5).1 (by simp; omega) |>.trans hp5
            refine RP.p_skip (wd6.setRow wd2.heap.size #[.int .i64 t1.a, .int .i64 t1.b, .int .i64 t1.c, .slice A1 l1 n1]) rfl (st_pat_run _ _ rfl hp4 _ _ _ _ _ _ (by go_simp) (by go_simp)) ?_
            refine ⟨alg_c (w := w1) (n := wd2.heap.size) (by omega) hd6, ?_⟩
            refine RP.p_skip ((wd6.setRow wd2.heap.size #[.int .i64 t1.a, .int .i64 t1.b, .int .i64 t1.c, .slice A1 l1 n1]).setRow wd4.heap.size #[.int .i64 t2.a, .int .i64 t2.b, .int .i64 t2.c, .slice A2 l2 n2]) rfl (st_pat_run _ _ rfl hq5 _ _ _ _ _ _ (by go_simp) (by go_simp)) ?_
            obtain ⟨wE, hwE⟩ : ∃ W, W = ((wd6.setRow wd2.heap.size #[.int .i64 t1.a, .int .i64 t1.b, .int .i64 t1.c, .slice A1 l1 n1]).setRow wd4.heap.size #[.int .i64 t2.a, .int .i64 t2.b, .int .i64 t2.c, .slice A2 l2 n2]) := ⟨_, rfl⟩
            obtain ⟨n4, hn4⟩ : ∃ n, n = wd2.heap.size := ⟨_, rfl⟩
            obtain ⟨n5, hn5⟩ : ∃ n, n = wd4.heap.size := ⟨_, rfl⟩
            rw [← hwE, ← hn4, ← hn5] at HFI
            rw [← hwE, ← hn4, ← hn5]
            clear hwE hn4 hn5 hq5 hp4 hp5 ho1 ho2 g1 g2
            go_simp
            go_wp2_with fail
            go_meet
            exact ⟨n4, n5, A1, n1, A2, n2, l1, l2, rfl, rfl, HFI⟩
        · have hp5n := PBox.new wd3 0 0 0 (.slice none 0 0)
          have hc4 := below_new wd3 (.cells #[.int .i64 0, .int .i64 0, .int .i64 0, .slice none 0 0] 24)
          have hz4 : (wd3.alloc (.cells #[.int .i64 0, .int .i64 0, .int .i64 0, .slice none 0 0] 24)).heap.size = wd3.heap.size + 1 := by simp
          refine RP.p_val (.pointer (some ⟨wd3.heap.size, 0, none⟩)) (wd3.alloc (.cells #[.int .i64 0, .int .i64 0, .int .i64 0, .slice none 0 0] 24)) rfl (by go_simp) ?_
          obtain ⟨wd4, hw4⟩ : ∃ W, W = wd3.alloc (.cells #[.int .i64 0, .int .i64 0, .int .i64 0, .slice none 0 0] 24) := ⟨_, rfl⟩
          rw [← hw4] at hp5n hc4 hz4 ⊢
          have hd4 := hd3.trans (hc4.mono hd3.size)
          clear hw4
          have hp5 := hp5n
          have hp4 := hp4.keep hc4
          refine ⟨grow_of_below hd4, ?_⟩
          refine RP.p_call 57 #[.agg #[.int .i64 p.a, .int .i64 p.b, .int .i64 p.c, .slice A p.xs.length k]] rfl (by go_simp) ?_
          refine (HL1.out wd4 (HI.out.1.below (H1.out.b.trans (hd4.mono H1.out.b.size)))).mono ?_
          rintro e wd5 ⟨v1, rfl, ho1, hc5⟩
          have hd5 := hd4.trans (hc5.mono hd4.size)
          have hz5 := hc5.size
          obtain ⟨A1, n1, hv1, -⟩ := ho1.isL
          obtain ⟨l1, hl1⟩ : ∃ l, l = t1.xs.length := ⟨_, rfl⟩
          rw [← hl1] at hv1
          subst hv1
          have g1 := ho1.lt'
          have hp4 := hp4.keep hc5
          have hp5 := hp5.keep hc5
          refine .inl ⟨_, rfl, ?_⟩
          refine ⟨grow_of_below hd5, ?_⟩
          refine RP.p_call 57 #[.agg #[.int .i64 q.a, .int .i64 q.b, .int .i64 q.c, .slice D q.xs.length m]] rfl (by go_simp) ?_
          refine (HL2.out wd5 (HI.out.2.below (H1.out.b.trans (hd5.mono H1.out.b.size)))).mono ?_
          rintro e wd6 ⟨v2, rfl, ho2, hc6⟩
          have hd6 := hd5.trans (hc6.mono hd5.size)
          have hz6 := hc6.size
          obtain ⟨A2, n2, hv2, -⟩ := ho2.isL
          obtain ⟨l2, hl2'⟩ : ∃ l, l = t2.xs.length := ⟨_, rfl⟩
          rw [← hl2'] at hv2
          subst hv2
          have g2 := ho2.lt'
          have ho1 := OwnI.keep hc6 ho1
          have hp4 := hp4.keep hc6
          have hp5 := hp5.keep hc6
          refine .inl ⟨_, rfl, ?_⟩
          refine ⟨grow_of_below hd6, ?_⟩
          have hlt : w.heap.size ≤ w1.heap.size := H1.out.b.size
          have HFI := Lib.hid (alg_fin (w := w) hp4 hp5 ho1 ho2 hl1 hl2' (show wd2.heap.size ≠ wd3.heap.size by omega) (fun g e => by have := g1 g e; omega) (fun g e => by have := g1 g e; omega) (fun g e => by have := g2 g e; omega) (fun g e => by have := g2 g e; omega) (H1.out.b.trans (hd6.mono H1.out.b.size)) (by omega) (by omega))
          have hq5 : PBox (wd6.setRow wd2.heap.size #[.int .i64 t1.a, .int .i64 t1.b, .int .i64 t1.c, .slice A1 l1 n1]) wd3.heap.size 0 0 0 (.slice none 0 0) := (row_grown wd6 wd2.heap.size #[.int .i64 t1.a, .int .i64 t1.b, .int .i64 t1.c, .slice A1 l1 n1]).block _ (Array.getElem?_eq_some_iff.1 hp5).1 (by simp; omega) |>.trans hp5
          refine RP.p_skip (wd6.setRow wd2.heap.size #[.int .i64 t1.a, .int .i64 t1.b, .int .i64 t1.c, .slice A1 l1 n1]) rfl (st_pat_run _ _ rfl hp4 _ _ _ _ _ _ (by go_simp) (by go_simp)) ?_
          refine ⟨alg_c (w := w1) (n := wd2.heap.size) (by omega) hd6, ?_⟩
          refine RP.p_skip ((wd6.setRow wd2.heap.size #[.int .i64 t1.a, .int .i64 t1.b, .int .i64 t1.c, .slice A1 l1 n1]).setRow wd3.heap.size #[.int .i64 t2.a, .int .i64 t2.b, .int .i64 t2.c, .slice A2 l2 n2]) rfl (st_pat_run _ _ rfl hq5 _ _ _ _ _ _ (by go_simp) (by go_simp)) ?_
          obtain ⟨wE, hwE⟩ : ∃ W, W = ((wd6.setRow wd2.heap.size #[.int .i64 t1.a, .int .i64 t1.b, .int .i64 t1.c, .slice A1 l1 n1]).setRow wd3.heap.size #[.int .i64 t2.a, .int .i64 t2.b, .int .i64 t2.c, .slice A2 l2 n2]) := ⟨_, rfl⟩
          obtain ⟨n4, hn4⟩ : ∃ n, n = wd2.heap.size := ⟨_, rfl⟩
          obtain ⟨n5, hn5⟩ : ∃ n, n = wd3.heap.size := ⟨_, rfl⟩
          rw [← hwE, ← hn4, ← hn5] at HFI
          rw [← hwE, ← hn4, ← hn5]
          clear hwE hn4 hn5 hq5 hp4 hp5 ho1 ho2 g1 g2
          go_simp
          go_wp2_with fail
          go_meet
          exact ⟨n4, n5, A1, n1, A2, n2, l1, l2, rfl, rfl, HFI⟩
      · have hp5n := PBox.new wd2 0 0 0 (.slice none 0 0)
        have hc3 := below_new wd2 (.cells #[.int .i64 0, .int .i64 0, .int .i64 0, .slice none 0 0] 24)
        have hz3 : (wd2.alloc (.cells #[.int .i64 0, .int .i64 0, .int .i64 0, .slice none 0 0] 24)).heap.size = wd2.heap.size + 1 := by simp
        refine RP.p_val (.pointer (some ⟨wd2.heap.size, 0, none⟩)) (wd2.alloc (.cells #[.int .i64 0, .int .i64 0, .int .i64 0, .slice none 0 0] 24)) rfl (by go_simp) ?_
        obtain ⟨wd3, hw3⟩ : ∃ W, W = wd2.alloc (.cells #[.int .i64 0, .int .i64 0, .int .i64 0, .slice none 0 0] 24) := ⟨_, rfl⟩
        rw [← hw3] at hp5n hc3 hz3 ⊢
        have hd3 := hd2.trans (hc3.mono hd2.size)
        clear hw3
        have hp5 := hp5n
        refine ⟨grow_of_below hd3, ?_, ?_⟩
        · refine RP.p_call 57 #[.agg #[.int .i64 p.a, .int .i64 p.b, .int .i64 p.c, .slice A p.xs.length k]] rfl (by go_simp) ?_
          refine (HL1.out wd3 (HI.out.1.below (H1.out.b.trans (hd3.mono H1.out.b.size)))).mono ?_
          rintro e wd4 ⟨v1, rfl, ho1, hc4⟩
          have hd4 := hd3.trans (hc4.mono hd3.size)
          have hz4 := hc4.size
          obtain ⟨A1, n1, hv1, -⟩ := ho1.isL
          obtain ⟨l1, hl1⟩ : ∃ l, l = t1.xs.length := ⟨_, rfl⟩
          rw [← hl1] at hv1
          subst hv1
          have g1 := ho1.lt'
          have hp5 := hp5.keep hc4
          refine .inl ⟨_, rfl, ?_⟩
          refine ⟨grow_of_below hd4, ?_, ?_⟩
          · refine RP.p_call 57 #[.agg #[.int .i64 q.a, .int .i64 q.b, .int .i64 q.c, .slice D q.xs.length m]] rfl (by go_simp) ?_
            refine (HL2.out wd4 (HI.out.2.below (H1.out.b.trans (hd4.mono H1.out.b.size)))).mono ?_
            rintro e wd5 ⟨v2, rfl, ho2, hc5⟩
            have hd5 := hd4.trans (hc5.mono hd4.size)
            have hz5 := hc5.size
            obtain ⟨A2, n2, hv2, -⟩ := ho2.isL
            obtain ⟨l2, hl2'⟩ : ∃ l, l = t2.xs.length := ⟨_, rfl⟩
            rw [← hl2'] at hv2
            subst hv2
            have g2 := ho2.lt'
            have ho1 := OwnI.keep hc5 ho1
            have hp5 := hp5.keep hc5
            refine .inl ⟨_, rfl, ?_⟩
            refine ⟨grow_of_below hd5, ?_⟩
            have hp4n := PBox.new wd5 0 0 0 (.slice none 0 0)
            have hc6 := below_new wd5 (.cells #[.int .i64 0, .int .i64 0, .int .i64 0, .slice none 0 0] 24)
            have hz6 : (wd5.alloc (.cells #[.int .i64 0, .int .i64 0, .int .i64 0, .slice none 0 0] 24)).heap.size = wd5.heap.size + 1 := by simp
            refine RP.p_val (.pointer (some ⟨wd5.heap.size, 0, none⟩)) (wd5.alloc (.cells #[.int .i64 0, .int .i64 0, .int .i64 0, .slice none 0 0] 24)) rfl (by go_simp) ?_
            obtain ⟨wd6, hw6⟩ : ∃ W, W = wd5.alloc (.cells #[.int .i64 0, .int .i64 0, .int .i64 0, .slice none 0 0] 24) := ⟨_, rfl⟩
            rw [← hw6] at hp4n hc6 hz6 ⊢
            have hd6 := hd5.trans (hc6.mono hd5.size)
            clear hw6
            have hp4 := hp4n
            have hp5 := hp5.keep hc6
            have ho1 := OwnI.keep hc6 ho1
            have ho2 := OwnI.keep hc6 ho2
            refine ⟨grow_of_below hd6, ?_⟩
            have hlt : w.heap.size ≤ w1.heap.size := H1.out.b.size
            have HFI := Lib.hid (alg_fin (w := w) hp4 hp5 ho1 ho2 hl1 hl2' (show wd5.heap.size ≠ wd2.heap.size by omega) (fun g e => by have := g1 g e; omega) (fun g e => by have := g1 g e; omega) (fun g e => by have := g2 g e; omega) (fun g e => by have := g2 g e; omega) (H1.out.b.trans (hd6.mono H1.out.b.size)) (by omega) (by omega))
            have hq5 : PBox (wd6.setRow wd5.heap.size #[.int .i64 t1.a, .int .i64 t1.b, .int .i64 t1.c, .slice A1 l1 n1]) wd2.heap.size 0 0 0 (.slice none 0 0) := (row_grown wd6 wd5.heap.size #[.int .i64 t1.a, .int .i64 t1.b, .int .i64 t1.c, .slice A1 l1 n1]).block _ (Array.getElem?_eq_some_iff.1 hp5).1 (by simp; omega) |>.trans hp5
            refine RP.p_skip (wd6.setRow wd5.heap.size #[.int .i64 t1.a, .int .i64 t1.b, .int .i64 t1.c, .slice A1 l1 n1]) rfl (st_pat_run _ _ rfl hp4 _ _ _ _ _ _ (by go_simp) (by go_simp)) ?_
            refine ⟨alg_c (w := w1) (n := wd5.heap.size) (by omega) hd6, ?_⟩
            refine RP.p_skip ((wd6.setRow wd5.heap.size #[.int .i64 t1.a, .int .i64 t1.b, .int .i64 t1.c, .slice A1 l1 n1]).setRow wd2.heap.size #[.int .i64 t2.a, .int .i64 t2.b, .int .i64 t2.c, .slice A2 l2 n2]) rfl (st_pat_run _ _ rfl hq5 _ _ _ _ _ _ (by go_simp) (by go_simp)) ?_
            obtain ⟨wE, hwE⟩ : ∃ W, W = ((wd6.setRow wd5.heap.size #[.int .i64 t1.a, .int .i64 t1.b, .int .i64 t1.c, .slice A1 l1 n1]).setRow wd2.heap.size #[.int .i64 t2.a, .int .i64 t2.b, .int .i64 t2.c, .slice A2 l2 n2]) := ⟨_, rfl⟩
            obtain ⟨n4, hn4⟩ : ∃ n, n = wd5.heap.size := ⟨_, rfl⟩
            obtain ⟨n5, hn5⟩ : ∃ n, n = wd2.heap.size := ⟨_, rfl⟩
            rw [← hwE, ← hn4, ← hn5] at HFI
            rw [← hwE, ← hn4, ← hn5]
            clear hwE hn4 hn5 hq5 hp4 hp5 ho1 ho2 g1 g2
            go_simp
            go_wp2_with fail
            go_meet
            exact ⟨n4, n5, A1, n1, A2, n2, l1, l2, rfl, rfl, HFI⟩
          · have hp4n := PBox.new wd4 0 0 0 (.slice none 0 0)
            have hc5 := below_new wd4 (.cells #[.int .i64 0, .int .i64 0, .int .i64 0, .slice none 0 0] 24)
            have hz5 : (wd4.alloc (.cells #[.int .i64 0, .int .i64 0, .int .i64 0, .slice none 0 0] 24)).heap.size = wd4.heap.size + 1 := by simp
            refine RP.p_val (.pointer (some ⟨wd4.heap.size, 0, none⟩)) (wd4.alloc (.cells #[.int .i64 0, .int .i64 0, .int .i64 0, .slice none 0 0] 24)) rfl (by go_simp) ?_
            obtain ⟨wd5, hw5⟩ : ∃ W, W = wd4.alloc (.cells #[.int .i64 0, .int .i64 0, .int .i64 0, .slice none 0 0] 24) := ⟨_, rfl⟩
            rw [← hw5] at hp4n hc5 hz5 ⊢
            have hd5 := hd4.trans (hc5.mono hd4.size)
            clear hw5
            have hp4 := hp4n
            have hp5 := hp5.keep hc5
            have ho1 := OwnI.keep hc5 ho1
            refine ⟨grow_of_below hd5, ?_⟩
            refine RP.p_call 57 #[.agg #[.int .i64 q.a, .int .i64 q.b, .int .i64 q.c, .slice D q.xs.length m]] rfl (by go_simp) ?_
            refine (HL2.out wd5 (HI.out.2.below (H1.out.b.trans (hd5.mono H1.out.b.size)))).mono ?_
            rintro e wd6 ⟨v2, rfl, ho2, hc6⟩
            have hd6 := hd5.trans (hc6.mono hd5.size)
            have hz6 := hc6.size
            obtain ⟨A2, n2, hv2, -⟩ := ho2.isL
            obtain ⟨l2, hl2'⟩ : ∃ l, l = t2.xs.length := ⟨_, rfl⟩
            rw [← hl2'] at hv2
            subst hv2
            have g2 := ho2.lt'
            have ho1 := OwnI.keep hc6 ho1
            have hp4 := hp4.keep hc6
            have hp5 := hp5.keep hc6
            refine .inl ⟨_, rfl, ?_⟩
            refine ⟨grow_of_below hd6, ?_⟩
            have hlt : w.heap.size ≤ w1.heap.size := H1.out.b.size
            have HFI := Lib.hid (alg_fin (w := w) hp4 hp5 ho1 ho2 hl1 hl2' (show wd4.heap.size ≠ wd2.heap.size by omega) (fun g e => by have := g1 g e; omega) (fun g e => by have := g1 g e; omega) (fun g e => by have := g2 g e; omega) (fun g e => by have := g2 g e; omega) (H1.out.b.trans (hd6.mono H1.out.b.size)) (by omega) (by omega))
            have hq5 : PBox (wd6.setRow wd4.heap.size #[.int .i64 t1.a, .int .i64 t1.b, .int .i64 t1.c, .slice A1 l1 n1]) wd2.heap.size 0 0 0 (.slice none 0 0) := (row_grown wd6 wd4.heap.size #[.int .i64 t1.a, .int .i64 t1.b, .int .i64 t1.c, .slice A1 l1 n1]).block _ (Array.getElem?_eq_some_iff.1 hp5).1 (by simp; omega) |>.trans hp5
            refine RP.p_skip (wd6.setRow wd4.heap.size #[.int .i64 t1.a, .int .i64 t1.b, .int .i64 t1.c, .slice A1 l1 n1]) rfl (st_pat_run _ _ rfl hp4 _ _ _ _ _ _ (by go_simp) (by go_simp)) ?_
            refine ⟨alg_c (w := w1) (n := wd4.heap.size) (by omega) hd6, ?_⟩
            refine RP.p_skip ((wd6.setRow wd4.heap.size #[.int .i64 t1.a, .int .i64 t1.b, .int .i64 t1.c, .slice A1 l1 n1]).setRow wd2.heap.size #[.int .i64 t2.a, .int .i64 t2.b, .int .i64 t2.c, .slice A2 l2 n2]) rfl (st_pat_run _ _ rfl hq5 _ _ _ _ _ _ (by go_simp) (by go_simp)) ?_
            obtain ⟨wE, hwE⟩ : ∃ W, W = ((wd6.setRow wd4.heap.size #[.int .i64 t1.a, .int .i64 t1.b, .int .i64 t1.c, .slice A1 l1 n1]).setRow wd2.heap.size #[.int .i64 t2.a, .int .i64 t2.b, .int .i64 t2.c, .slice A2 l2 n2]) := ⟨_, rfl⟩
            obtain ⟨n4, hn4⟩ : ∃ n, n = wd4.heap.size := ⟨_, rfl⟩
            obtain ⟨n5, hn5⟩ : ∃ n, n = wd2.heap.size := ⟨_, rfl⟩
            rw [← hwE, ← hn4, ← hn5] at HFI
            rw [← hwE, ← hn4, ← hn5]
            clear hwE hn4 hn5 hq5 hp4 hp5 ho1 ho2 g1 g2
            go_simp
            go_wp2_with fail
            go_meet
            exact ⟨n4, n5, A1, n1, A2, n2, l1, l2, rfl, rfl, HFI⟩
        · have hp4n := PBox.new wd3 0 0 0 (.slice none 0 0)
          have hc4 := below_new wd3 (.cells #[.int .i64 0, .int .i64 0, .int .i64 0, .slice none 0 0] 24)
          have hz4 : (wd3.alloc (.cells #[.int .i64 0, .int .i64 0, .int .i64 0, .slice none 0 0] 24)).heap.size = wd3.heap.size + 1 := by simp
          refine RP.p_val (.pointer (some ⟨wd3.heap.size, 0, none⟩)) (wd3.alloc (.cells #[.int .i64 0, .int .i64 0, .int .i64 0, .slice none 0 0] 24)) rfl (by go_simp) ?_
          obtain ⟨wd4, hw4⟩ : ∃ W, W = wd3.alloc (.cells #[.int .i64 0, .int .i64 0, .int .i64 0, .slice none 0 0] 24) := ⟨_, rfl⟩
          rw [← hw4] at hp4n hc4 hz4 ⊢
          have hd4 := hd3.trans (hc4.mono hd3.size)
          clear hw4
          have hp4 := hp4n
          have hp5 := hp5.keep hc4
          refine ⟨grow_of_below hd4, ?_⟩
          refine RP.p_call 57 #[.agg #[.int .i64 p.a, .int .i64 p.b, .int .i64 p.c, .slice A p.xs.length k]] rfl (by go_simp) ?_
          refine (HL1.out wd4 (HI.out.1.below (H1.out.b.trans (hd4.mono H1.out.b.size)))).mono ?_
          rintro e wd5 ⟨v1, rfl, ho1, hc5⟩
          have hd5 := hd4.trans (hc5.mono hd4.size)
          have hz5 := hc5.size
          obtain ⟨A1, n1, hv1, -⟩ := ho1.isL
          obtain ⟨l1, hl1⟩ : ∃ l, l = t1.xs.length := ⟨_, rfl⟩
          rw [← hl1] at hv1
          subst hv1
          have g1 := ho1.lt'
          have hp4 := hp4.keep hc5
          have hp5 := hp5.keep hc5
          refine .inl ⟨_, rfl, ?_⟩
          refine ⟨grow_of_below hd5, ?_⟩
          refine RP.p_call 57 #[.agg #[.int .i64 q.a, .int .i64 q.b, .int .i64 q.c, .slice D q.xs.length m]] rfl (by go_simp) ?_
          refine (HL2.out wd5 (HI.out.2.below (H1.out.b.trans (hd5.mono H1.out.b.size)))).mono ?_
          rintro e wd6 ⟨v2, rfl, ho2, hc6⟩
          have hd6 := hd5.trans (hc6.mono hd5.size)
          have hz6 := hc6.size
          obtain ⟨A2, n2, hv2, -⟩ := ho2.isL
          obtain ⟨l2, hl2'⟩ : ∃ l, l = t2.xs.length := ⟨_, rfl⟩
          rw [← hl2'] at hv2
          subst hv2
          have g2 := ho2.lt'
          have ho1 := OwnI.keep hc6 ho1
          have hp4 := hp4.keep hc6
          have hp5 := hp5.keep hc6
          refine .inl ⟨_, rfl, ?_⟩
          refine ⟨grow_of_below hd6, ?_⟩
          have hlt : w.heap.size ≤ w1.heap.size := H1.out.b.size
          have HFI := Lib.hid (alg_fin (w := w) hp4 hp5 ho1 ho2 hl1 hl2' (show wd3.heap.size ≠ wd2.heap.size by omega) (fun g e => by have := g1 g e; omega) (fun g e => by have := g1 g e; omega) (fun g e => by have := g2 g e; omega) (fun g e => by have := g2 g e; omega) (H1.out.b.trans (hd6.mono H1.out.b.size)) (by omega) (by omega))
          have hq5 : PBox (wd6.setRow wd3.heap.size #[.int .i64 t1.a, .int .i64 t1.b, .int .i64 t1.c, .slice A1 l1 n1]) wd2.heap.size 0 0 0 (.slice none 0 0) := (row_grown wd6 wd3.heap.size #[.int .i64 t1.a, .int .i64 t1.b, .int .i64 t1.c, .slice A1 l1 n1]).block _ (Array.getElem?_eq_some_iff.1 hp5).1 (by simp; omega) |>.trans hp5
          refine RP.p_skip (wd6.setRow wd3.heap.size #[.int .i64 t1.a, .int .i64 t1.b, .int .i64 t1.c, .slice A1 l1 n1]) rfl (st_pat_run _ _ rfl hp4 _ _ _ _ _ _ (by go_simp) (by go_simp)) ?_
          refine ⟨alg_c (w := w1) (n := wd3.heap.size) (by omega) hd6, ?_⟩
          refine RP.p_skip ((wd6.setRow wd3.heap.size #[.int .i64 t1.a, .int .i64 t1.b, .int .i64 t1.c, .slice A1 l1 n1]).setRow wd2.heap.size #[.int .i64 t2.a, .int .i64 t2.b, .int .i64 t2.c, .slice A2 l2 n2]) rfl (st_pat_run _ _ rfl hq5 _ _ _ _ _ _ (by go_simp) (by go_simp)) ?_
          obtain ⟨wE, hwE⟩ : ∃ W, W = ((wd6.setRow wd3.heap.size #[.int .i64 t1.a, .int .i64 t1.b, .int .i64 t1.c, .slice A1 l1 n1]).setRow wd2.heap.size #[.int .i64 t2.a, .int .i64 t2.b, .int .i64 t2.c, .slice A2 l2 n2]) := ⟨_, rfl⟩
          obtain ⟨n4, hn4⟩ : ∃ n, n = wd3.heap.size := ⟨_, rfl⟩
          obtain ⟨n5, hn5⟩ : ∃ n, n = wd2.heap.size := ⟨_, rfl⟩
          rw [← hwE, ← hn4, ← hn5] at HFI
          rw [← hwE, ← hn4, ← hn5]
          clear hwE hn4 hn5 hq5 hp4 hp5 ho1 ho2 g1 g2
          go_simp
          go_wp2_with fail
          go_meet
          exact ⟨n4, n5, A1, n1, A2, n2, l1, l2, rfl, rfl, HFI⟩
    case rest =>
      obtain ⟨n4, n5, A1, k1, A2, k2, l1, l2, rfl, rfl, HV⟩ := hcut
      clear p0 p1 p2 p3 p4 q0 q1 q2 q3 q4 H1 HL1 HL2 HI
      obtain ⟨q0, q1, q2, q3, q4⟩ := HV.out.p4.cells
      obtain ⟨r0, r1, r2, r3, r4⟩ := HV.out.p5.cells
      have hne : ∀ h : ¬ (t1.a = t2.a ∧ t1.b = t2.b ∧ t1.c = t2.c), x = 0 ∧ y = 0 ∧ f = false := fun h => HG.out.2.2.2.2.2.2.2.2 (fun he => h (HG.out.2.2.2.2.1.1 he))
      by_cases ha : t1.a = t2.a
      · by_cases hb : t1.b = t2.b
        · by_cases hc : t1.c = t2.c
          · have d1 : (t1.a != t2.a) = false := by simp [ha]
            have d2 : (t1.b != t2.b) = false := by simp [hb]
            have d3 : (t1.c != t2.c) = false := by simp [hc]
            obtain ⟨g1, g2, hF1, hF2, hEq, hmo, hin, hnon, -⟩ := HG.out
            have he : AlE p q := hEq.2 ⟨ha, hb, hc⟩
            have hmo' := fun i k hi hk hp => hmo i k he hi hk hp
            obtain ⟨a1, b1, c1, xs1⟩ := t1
            obtain ⟨a2, b2, c2, xs2⟩ := t2
            simp only at ha hb hc d1 d2 d3 q0 q1 q2 q3 q4 r0 r1 r2 r3 r4 hin hmo' ⊢
            subst ha
            subst hb
            subst hc
            obtain ⟨N, rfl⟩ : ∃ N : Nat, a1 = N := ⟨a1.toNat, by have := g1.a0; simp only at this; omega⟩
            obtain ⟨M, rfl⟩ : ∃ M : Nat, c1 = M := ⟨c1.toNat, by have := g1.c0; simp only at this; omega⟩
            have gN0 : 0 < N := by have := g1.a0; simp only at this; omega
            have gN : N ≤ 144 := by have := g1.a1; simp only at this; omega
            have gM : M ≤ 144 := by have := g1.c1; simp only at this; omega
            have hB1 := col_base g1.ok
            have hB2 := col_base g2.ok
            simp only at hB1 hB2
            rw [hF1] at hB1
            rw [hF2] at hB2
            have hc1 := fun u v e1 e2 e3 e4 w hL => rcolor_any ⟨N, b1, M, xs1⟩ g1.ok.wide A1 l1 k1 u v e1 e2 e3 e4 w hL
            have hc2 := fun u v e1 e2 e3 e4 w hL => rcolor_any ⟨N, b1, M, xs2⟩ g2.ok.wide A2 l2 k2 u v e1 e2 e3 e4 w hL
            rw [hF1] at hc1
            rw [hF2] at hc2
            obtain ⟨F, hFF⟩ : ∃ F, F = colF p := ⟨_, rfl⟩
            obtain ⟨G, hGG⟩ : ∃ F, F = colF q := ⟨_, rfl⟩
            rw [← hFF] at hmo' hB1 hc1
            rw [← hGG] at hmo' hB2 hc2
            have HMO := Lib.hid hmo'
            have HIN := Lib.hid hin
            have HNO := Lib.hid hnon
            have HC1 := Lib.hid hc1
            have HC2 := Lib.hid hc2
            have HEX := Lib.hid (fun (i K : Nat) (h : EqOn (shiftF F i K) G N M) => (hB1.shift (dx := (i : Int)) (dy := (K : Int))).ext hB2 h)
            have R1 := HV
            have hfy : f = true → (0 : Int) ≤ y := fun e => (hin e).2.2.1
            have HFY := Lib.hid hfy
            clear hne hmo hmo' hin hnon hc1 hc2 hFF hGG hB1 hB2 hF1 hF2 g1 g2 he hEq hfy HV HG
            go_upto_region 8 with fail
            clear d1 d2 d3 q0 q1 q2 q3 q4 r0 r1 r2 r3 r4
            go_loopw [11] (fun t wr => ∃ K : Nat, t = .int .i64 K ∧ K ≤ M ∧ Hid (f = true → (K : Int) ≤ y) ∧ Hid (AV w wr ⟨N, b1, M, xs1⟩ ⟨N, b1, M, xs2⟩ n4 n5 A1 k1 A2 k2 l1 l2)) (fun t _ => M - (intOf t).toNat)
            case atStart => exact ⟨0, rfl, by omega, HFY, R1⟩
            case round =>
              clear R1 HFY
              obtain ⟨K, rfl, hK, hfK, hr⟩ := hrel
              obtain ⟨q0, q1, q2, q3, q4⟩ := hr.out.p4.cells
              simp only at q0 q1 q2 q3
              by_cases hlt : K < M
              · have dl : decide ((K : Int) < (M : Int)) = true := decide_eq_true (by omega)
                have HFI := Lib.hid (show f = true → (K : Int) < y ∨ ((K : Int) = y ∧ ((0 : Nat) : Int) ≤ x) from fun e => by
                  have h1 := hfK.out e
                  have h2 := (HIN.out e).1
                  rcases Int.lt_or_eq_of_le h1 with h | h
                  · exact .inl h
                  · exact .inr ⟨h, h2⟩)
                have R2 := hr
                clear hr hfK
                go_upto_region 11 with fail
                clear q0 q1 q2 q3 q4
                go_loopw [12] (fun t wq => ∃ i : Nat, t = .int .i64 i ∧ i ≤ N ∧ Hid (f = true → (K : Int) < y ∨ ((K : Int) = y ∧ (i : Int) ≤ x)) ∧ Hid (AV w wq ⟨N, b1, M, xs1⟩ ⟨N, b1, M, xs2⟩ n4 n5 A1 k1 A2 k2 l1 l2)) (fun t _ => N - (intOf t).toNat)
                case atStart => exact ⟨0, rfl, by omega, HFI, R2⟩
                case round =>
                  clear R2 HFI
                  obtain ⟨i, rfl, hi, hfi, hr⟩ := hrel
                  obtain ⟨q0, q1, q2, q3, q4⟩ := hr.out.p4.cells
                  simp only at q0 q1 q2 q3
                  by_cases hil : i < N
                  · have dl2 : decide ((i : Int) < (N : Int)) = true := decide_eq_true (by omega)
                    have HM := Lib.hid (HMO.out i K (by omega) (by omega) hfi.out)
                    have R3 := hr
                    have HS0 := Lib.hid (show ((true : Bool) = true → EqOn (shiftF F i K) G N ((0 : Nat) : Int)) ∧ ((true : Bool) = false → shiftF F i K ≠ G) from ⟨fun _ x y _ _ h1 h2 => by omega, fun h => (by cases h)⟩)
                    clear hr
                    go_upto_region 15 with fail
                    clear q0 q1 q2 q3 q4
                    go_loopw [13, 14] (fun a t wq => ∃ (s : Bool) (yy : Nat), a = .bool s ∧ t = .int .i64 yy ∧ yy ≤ M ∧ Hid ((s = true → EqOn (shiftF F i K) G N (yy : Int)) ∧ (s = false → shiftF F i K ≠ G)) ∧ Hid (AV w wq ⟨N, b1, M, xs1⟩ ⟨N, b1, M, xs2⟩ n4 n5 A1 k1 A2 k2 l1 l2)) (fun _ t _ => M - (intOf t).toNat)
                    case atStart => exact ⟨true, 0, rfl, rfl, by omega, Lib.hid ⟨fun _ => HS0.out.1 (by simp), fun h => (by cases h)⟩, R3⟩
                    case round =>
                      clear R3 HS0
                      obtain ⟨s, yy, rfl, rfl, hyy, hss, hr⟩ := hrel
                      obtain ⟨q0, q1, q2, q3, q4⟩ := hr.out.p4.cells
                      simp only at q0 q1 q2 q3
                      by_cases hyl : yy < M
                      · have dy1 : decide ((yy : Int) < (M : Int)) = true := decide_eq_true (by omega)
                        cases s with
                        | false =>
                          have hnot : ¬ (f = true ∧ x = i ∧ y = K) := fun h => hss.out.2 (by simp) (HM.out.2 h)
                          have HFI := Lib.hid (show f = true → (K : Int) < y ∨ ((K : Int) = y ∧ ((i + 1 : Nat) : Int) ≤ x) from fun e => by
                            rcases hfi.out e with h | ⟨h1, h2⟩
                            · exact .inl h
                            · have : x ≠ i := fun e2 => hnot ⟨e, e2, h1.symm⟩
                              exact .inr ⟨h1, by omega⟩)
                          have R7 := hr
                          clear hss hr hnot hfi HM
                          go_wp2
                          go_roundw
                          case rel => exact ⟨i + 1, by go_num, by omega, HFI, R7⟩
                          case measure => simp [intOf]; omega
                        | true =>
                          have HS1 := Lib.hid (show ((true : Bool) = true → EqOn (shiftF F i K) G N (yy : Int) ∧ ∀ u, 0 ≤ u → u < ((0 : Nat) : Int) → shiftF F i K u yy = G u yy) ∧ ((true : Bool) = false → shiftF F i K ≠ G) from ⟨fun _ => ⟨hss.out.1 (by simp), fun u h0 h1 => by omega⟩, fun h => (by cases h)⟩)
                          have R3 := hr
                          clear hss hr
                          go_upto_region 18 with fail
                          clear q0 q1 q2 q3 q4
                          go_loopw [13, 15] (fun a t wq => ∃ (s : Bool) (xx : Nat), a = .bool s ∧ t = .int .i64 xx ∧ xx ≤ N ∧ Hid ((s = true → EqOn (shiftF F i K) G N (yy : Int) ∧ ∀ u, 0 ≤ u → u < (xx : Int) → shiftF F i K u yy = G u yy) ∧ (s = false → shiftF F i K ≠ G)) ∧ Hid (AV w wq ⟨N, b1, M, xs1⟩ ⟨N, b1, M, xs2⟩ n4 n5 A1 k1 A2 k2 l1 l2)) (fun _ t _ => N - (intOf t).toNat)
                          case atStart => exact ⟨true, 0, rfl, rfl, by omega, Lib.hid ⟨fun _ => HS1.out.1 (by simp), fun h => (by cases h)⟩, R3⟩
                          case round =>
                            clear R3 HS1
                            obtain ⟨s, xx, rfl, rfl, hxx, hss, hr⟩ := hrel
                            obtain ⟨q0, q1, q2, q3, q4⟩ := hr.out.p4.cells
                            obtain ⟨r0, r1, r2, r3, r4⟩ := hr.out.p5.cells
                            simp only at q0 q1 q2 q3 r0 r1 r2 r3
                            by_cases hxl : xx < N
                            · have dx1 : decide ((xx : Int) < (N : Int)) = true := decide_eq_true (by omega)
                              cases s with
                              | false =>
                                have HS2 := Lib.hid (show ((false : Bool) = true → EqOn (shiftF F i K) G N ((yy + 1 : Nat) : Int)) ∧ ((false : Bool) = false → shiftF F i K ≠ G) from ⟨fun h => (by cases h), fun _ => hss.out.2 (by simp)⟩)
                                have R4 := hr
                                clear hss hr
                                go_wp2
                                go_roundw
                                case rel => exact ⟨false, yy + 1, rfl, by go_num, by omega, HS2, R4⟩
                                case measure => simp [intOf]; omega
                              | true =>
                                go_upto_region 20 with fail
                                refine RP.region_treeP (C := fun w' => ∃ x, w' = grow wr x) (fun _ _ _ => False) [0, 1, 2, 3, 4, 5, 6, 8, 9, 10] (.one 7 (.one 11 (.one 12 .nil))) 13 (fun _ _ _ h => h.elim) (by kernel_rfl) (by kernel_rfl) (grow_start wr) ?_
                                simp only [pickL, List.getElem?_cons_zero, List.getElem?_cons_succ]
                                repeat (go_big_quiet_step (fail))
                                refine wpQuiet_nil ?_
                                obtain ⟨wx, hwx⟩ : ∃ wx : World, wx = { wr with drawn := wr.drawn + 1 } := ⟨_, rfl⟩
                                have hbx : Below wr.heap.size wr wx := by rw [hwx]; exact (Below.refl _ _).drew
                                rw [← hwx]
                                clear hwx
                                simp only [RP.treeS, atOp, List.getElem?_cons_zero, List.getElem?_cons_succ]
                                refine ⟨grow_of_below hbx, ?_⟩
                                refine RP.p_call 62 #[.agg #[.int .i64 N, .int .i64 b1, .int .i64 M, .slice A1 l1 k1], .int .i64 ((xx : Int) - i), .int .i64 ((yy : Int) - K)] rfl (by go_simp) ?_
                                refine (HC1.out _ _ (by omega) (by omega) (by omega) (by omega) wx (IsL.below hbx hr.out.i1)).mono ?_
                                rintro e wx1 ⟨rfl, hc1⟩
                                have hbx1 := hbx.trans (hc1.mono hbx.size)
                                refine .inl ⟨_, rfl, ?_⟩
                                refine ⟨grow_of_below hbx1, ?_⟩
                                refine RP.p_call 62 #[.agg #[.int .i64 N, .int .i64 b1, .int .i64 M, .slice A2 l2 k2], .int .i64 (xx : Int), .int .i64 (yy : Int)] rfl (by go_simp) ?_
                                refine (HC2.out _ _ (by omega) (by omega) (by omega) (by omega) wx1 (IsL.below hbx1 hr.out.i2)).mono ?_
                                rintro e wx2 ⟨rfl, hc2⟩
                                have hbx2 := hbx1.trans (hc2.mono hbx1.size)
                                refine .inl ⟨_, rfl, ?_⟩
                                obtain ⟨z1, hz1⟩ : ∃ z, z = F ((xx : Int) - i) ((yy : Int) - K) := ⟨_, rfl⟩
                                obtain ⟨z2, hz2⟩ : ∃ z, z = G xx yy := ⟨_, rfl⟩
                                rw [← hz1, ← hz2]
                                have HZ := Lib.hid (show shiftF F i K xx yy = z1 ∧ G xx yy = z2 from ⟨hz1.symm, hz2.symm⟩)
                                have R4 := Lib.hid (hr.out.keep hbx2)
                                have hgb := grow_of_below hbx2
                                clear hz1 hz2 hr hbx hbx1 hc1 hc2 q0 q1 q2 q3 q4 r0 r1 r2 r3 r4
                                by_cases hzz : z1 = z2
                                · have dz : (z1 == z2) = true := by simp [hzz]
                                  have HS2 := Lib.hid (show ((true : Bool) = true → EqOn (shiftF F i K) G N (yy : Int) ∧ ∀ u, 0 ≤ u → u < ((xx + 1 : Nat) : Int) → shiftF F i K u yy = G u yy) ∧ ((true : Bool) = false → shiftF F i K ≠ G) from ⟨fun _ => ⟨(hss.out.1 (by simp)).1, fun u h0 h1 => by
                                    by_cases hu : u < xx
                                    · exact (hss.out.1 (by simp)).2 u h0 hu
                                    · obtain rfl : u = xx := by omega
                                      rw [HZ.out.1, HZ.out.2]; exact hzz⟩, fun h => (by cases h)⟩)
                                  refine ⟨hgb, ?_⟩
                                  refine RP.p_val (.bool true) wx2 rfl (by go_simp) ?_
                                  refine ⟨hgb, ?_⟩
                                  refine RP.p_val (.bool true) wx2 rfl (by go_simp) ?_
                                  clear hgb hbx2 hzz dz HZ hss
                                  go_simp
                                  go_wp2
                                  go_roundw
                                  case rel => exact ⟨true, xx + 1, rfl, by go_num, by omega, HS2, R4⟩
                                  case measure => simp [intOf]; omega
                                · have dz : (z1 == z2) = false := by rw [beq_eq_false_iff_ne]; exact hzz
                                  have HS2 := Lib.hid (show ((false : Bool) = true → EqOn (shiftF F i K) G N (yy : Int) ∧ ∀ u, 0 ≤ u → u < ((xx + 1 : Nat) : Int) → shiftF F i K u yy = G u yy) ∧ ((false : Bool) = false → shiftF F i K ≠ G) from ⟨fun h => (by cases h), fun _ h => hzz (by rw [← HZ.out.1, ← HZ.out.2, h])⟩)
                                  refine ⟨hgb, ?_⟩
                                  refine RP.p_val (.bool false) wx2 rfl (by go_simp) ?_
                                  refine ⟨hgb, ?_⟩
                                  refine RP.p_val (.bool false) wx2 rfl (by go_simp) ?_
                                  clear hgb hbx2 hzz dz HZ hss
                                  go_simp
                                  go_wp2
                                  go_roundw
                                  case rel => exact ⟨false, xx + 1, rfl, by go_num, by omega, HS2, R4⟩
                                  case measure => simp [intOf]; omega
                            · obtain rfl : N = xx := by omega
                              have dx1 : decide ((N : Int) < (N : Int)) = false := decide_eq_false (by omega)
                              have HS2 := Lib.hid (show (s = true → EqOn (shiftF F i K) G N ((yy + 1 : Nat) : Int)) ∧ (s = false → shiftF F i K ≠ G) from ⟨fun h => by
                                have h2 := hss.out.1 h
                                exact h2.1.step fun u h0 h1 => h2.2 u h0 h1, hss.out.2⟩)
                              have R4 := hr
                              clear hss hr
                              go_wp2
                              go_roundw
                              case rel => exact ⟨s, yy + 1, rfl, by go_num, by omega, HS2, R4⟩
                              case measure => simp [intOf]; omega
                      · obtain rfl : M = yy := by omega
                        have dy1 : decide ((M : Int) < (M : Int)) = false := decide_eq_false (by omega)
                        cases s with
                        | false =>
                          have hnot : ¬ (f = true ∧ x = i ∧ y = K) := fun h => hss.out.2 (by simp) (HM.out.2 h)
                          have HFI := Lib.hid (show f = true → (K : Int) < y ∨ ((K : Int) = y ∧ ((i + 1 : Nat) : Int) ≤ x) from fun e => by
                            rcases hfi.out e with h | ⟨h1, h2⟩
                            · exact .inl h
                            · have : x ≠ i := fun e2 => hnot ⟨e, e2, h1.symm⟩
                              exact .inr ⟨h1, by omega⟩)
                          have R7 := hr
                          clear hss hr hnot hfi HM
                          go_wp2
                          go_roundw
                          case rel => exact ⟨i + 1, by go_num, by omega, HFI, R7⟩
                          case measure => simp [intOf]; omega
                        | true =>
                          have hfound := HM.out.1 (HEX.out i K (hss.out.1 (by simp)))
                          have HXY := Lib.hid hfound
                          have R4 := hr
                          clear hss hr hfound HM HMO HIN HNO HEX HC1 HC2 hfi
                          go_wp2
                          refine bodyPost_ret (v := .tuple #[.int .i64 i, .int .i64 K, .bool true, .int .i64 0]) (by simp only [results, Tryz.results46]; go_simp) rfl ⟨?_, R4.out.b⟩
                          rw [HXY.out.1, HXY.out.2.1, HXY.out.2.2]
                  · obtain rfl : N = i := by omega
                    have dl2 : decide ((N : Int) < (N : Int)) = false := decide_eq_false (by omega)
                    have HF2 := Lib.hid (show f = true → ((K + 1 : Nat) : Int) ≤ y from fun e => by
                      have h1 := hfi.out e
                      have h2 := (HIN.out e).2.1
                      omega)
                    have R3 := hr
                    clear hr hfi
                    go_wp2
                    go_roundw
                    case rel => exact ⟨K + 1, by go_num, by omega, HF2, R3⟩
                    case measure => simp [intOf]; omega
              · obtain rfl : M = K := by omega
                have dl : decide ((M : Int) < (M : Int)) = false := decide_eq_false (by omega)
                have hff : f = false := by
                  cases f with
                  | false => rfl
                  | true =>
                    have h1 := hfK.out rfl
                    have h2 := (HIN.out rfl).2.2.2
                    omega
                obtain ⟨rfl, rfl⟩ := HNO.out hff
                subst hff
                have R9 := hr
                clear hr hfK hlt
                go_wp2
                refine bodyPost_ret (v := .tuple #[.int .i64 0, .int .i64 0, .bool false, .int .i64 0]) (by simp only [results, Tryz.results46]; go_simp) rfl ⟨rfl, ?_⟩
                exact R9.out.b
          · have d1 : (t1.a != t2.a) = false := by simp [ha]
            have d2 : (t1.b != t2.b) = false := by simp [hb]
            have d3 : (t1.c != t2.c) = true := by rw [bne_iff_ne]; exact hc
            have HXY := Lib.hid (hne (fun h => hc h.2.2))
            clear hne ha hb hc HG
            go_wp2
            refine bodyPost_ret (v := .tuple #[.int .i64 0, .int .i64 0, .bool false, .int .i64 0]) (by simp only [results, Tryz.results46]; go_simp) rfl ⟨?_, HV.out.b⟩
            rw [HXY.out.1, HXY.out.2.1, HXY.out.2.2]
        · have d1 : (t1.a != t2.a) = false := by simp [ha]
          have d2 : (t1.b != t2.b) = true := by rw [bne_iff_ne]; exact hb
          have HXY := Lib.hid (hne (fun h => hb h.2.1))
          clear hne ha hb HG
          go_wp2
          refine bodyPost_ret (v := .tuple #[.int .i64 0, .int .i64 0, .bool false, .int .i64 0]) (by simp only [results, Tryz.results46]; go_simp) rfl ⟨?_, HV.out.b⟩
          rw [HXY.out.1, HXY.out.2.1, HXY.out.2.2]
      · have d1 : (t1.a != t2.a) = true := by rw [bne_iff_ne]; exact ha
        have HXY := Lib.hid (hne (fun h => ha h.1))
        clear hne ha HG
        go_wp2
        refine bodyPost_ret (v := .tuple #[.int .i64 0, .int .i64 0, .bool false, .int .i64 0]) (by simp only [results, Tryz.results46]; go_simp) rfl ⟨?_, HV.out.b⟩
        rw [HXY.out.1, HXY.out.2.1, HXY.out.2.2]
  · have d1 : (Z == 0) = false := by rw [beq_eq_false_iff_ne]; exact hz
    have d2 : (Z != 0) = true := by rw [bne_iff_ne]; exact hz
    have HXY := Lib.hid (HS.out.no (H01.out.2.1 hz))
    clear hz H01 HS
    go_wp2
    refine bodyPost_ret (v := .tuple #[.int .i64 0, .int .i64 0, .bool false, .int .i64 Z]) (by simp only [results, Tryz.results46]; go_simp) rfl ⟨?_, H1.out.b⟩
    rw [HXY.out.1, HXY.out.2.1, HXY.out.2.2]
end Go.Proofs.YtgmokojdlbdjeaaGreatDoor
