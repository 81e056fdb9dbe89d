/-
  THE PROGRAM's PARSER: the value of an expression.
-/
import Derived.Test.YtlinldbbhdpgcaaGreatDoorParV
import Derived.Test.YtlinldbbhdpgcaaGreatDoorPatY
import Derived.Test.YtlinldbbhdpgcaaGreatDoorRdrC
import Derived.Deep.DeepMust
import Derived.Test.YtlinldbbhdpgcaaGreatDoorParJ
import Derived.Deep.DeepCutAuto
namespace Go.Proofs.YtlinldbbhdpgcaaGreatDoor
open Go.RowKit
attribute [local go_sem] subp_cell
attribute [local irreducible] RP.plainUpon RP.stepC
theorem two_of {α : Type} {l : List α} (h : l.length = 2) : ∃ a b, l = [a, b] := by
  match l, h with
  | [a, b], _ => exact ⟨a, b, rfl⟩
theorem noErr_zero (es : List ExprD) : NoErr es 0 := by intro e he; simp at he
theorem noErr_succ {es : List ExprD} {k : Nat} (h : NoErr es k) (hk : k < es.length) (he : (valX es[k]).2 = 0) : NoErr es (k + 1) := by
  intro e hm
  rw [List.take_succ_eq_append_getElem hk] at hm
  rcases List.mem_append.1 hm with hm | hm
  · exact h e hm
  · rw [List.mem_singleton.1 hm]; exact he
/-- The world in the loop over the parts. -/
structure VW (w wr : World) (W0 : Nat) (s : ByteArray) (nv dv pv : Value) (es : List ExprD) (k : Nat) (v : Value) (L : List (PatD × Value)) : Prop where
  x : EBox wr w.heap.size s nv dv pv
  r : PBox wr (w.heap.size + 1) 0 0 0 (.slice none 0 0)
  b : Below w.heap.size w wr
  o : PsO wr W0 v L
  l : L.map Prod.fst = (es.take k).map fun e => (valX e).1
  e : NoErr es k
  W : w.heap.size + 2 ≤ W0 ∧ W0 ≤ wr.heap.size
theorem VW.keep {w wr w1 : World} {W0 : Nat} {s : ByteArray} {nv dv pv : Value} {es : List ExprD} {k : Nat} {v : Value} {L : List (PatD × Value)} (h : VW w wr W0 s nv dv pv es k v L) (hb : Below wr.heap.size wr w1) : VW w w1 W0 s nv dv pv es k v L :=
  ⟨h.x.keepG (pb := wr.heap.size) (grown_of hb _) (by have := (Array.getElem?_eq_some_iff.1 h.x).1; omega), h.r.keep hb, h.b.trans (hb.mono h.b.size), h.o.keep hb, h.l, h.e, h.W.1, Nat.le_trans h.W.2 hb.size⟩
theorem VW.next {w wr w1 : World} {W0 : Nat} {s : ByteArray} {nv dv pv : Value} {es : List ExprD} {k : Nat} {v v' : Value} {L : List (PatD × Value)} (h : VW w wr W0 s nv dv pv es k v L) (hk : k < es.length) (he : (valX es[k]).2 = 0) (hb : Below W0 wr w1) {p : PatD × Value} (hp : p.1 = (valX es[k]).1) (ho : PsO w1 W0 v' (L ++ [p])) : VW w w1 W0 s nv dv pv es (k + 1) v' (L ++ [p]) := by
  have hW := h.W
  refine ⟨(hb.block _ (by omega)).trans h.x, (hb.block _ (by omega)).trans h.r, h.b.trans (hb.mono (by omega)), ho, ?_, noErr_succ h.e hk he, h.W.1, Nat.le_trans h.W.2 hb.size⟩
  rw [List.map_append, h.l, List.take_succ_eq_append_getElem hk, List.map_append]
  simp [hp]
set_option maxRecDepth 100000 in
set_option maxHeartbeats 4000000 in
theorem value_step (s : ByteArray) (n d : List Int) (es : List ExprD) (hc : es.length ≤ 2) (hG : HeadG s n d es.length) (hI : ∀ e ∈ es, ∀ v w, RdE w (fun _ => True) e v → Calls Tryz.prog 25 #[v] w (OutP w (valX e).1 (.int .i64 (valX e).2)))
    (nv dv : Value) (Ap : Option Addr) (cp : Nat) (w : World) (h1 : RdL w (fun _ => True) nv n) (h2 : RdL w (fun _ => True) dv d) (h3 : RdP w es Ap) :
    Calls Tryz.prog 25 #[.agg #[.string s, nv, dv, .slice Ap es.length cp]] w (OutP w (valX (mkE s n d es)).1 (.int .i64 (valX (mkE s n d es)).2)) := by
  obtain ⟨P, hP⟩ : ∃ P, P = (valX (mkE s n d es)).1 := ⟨_, rfl⟩
  obtain ⟨Z, hZ⟩ : ∃ Z, Z = (valX (mkE s n d es)).2 := ⟨_, rfl⟩
  rw [← hP, ← hZ]
  obtain ⟨l, hl⟩ : ∃ l, l = es.length := ⟨_, rfl⟩
  rw [← hl] at hG hc ⊢
  obtain ⟨A1, k1, rfl, -⟩ := id h1
  obtain ⟨A2, k2, rfl, -⟩ := id h2
  obtain ⟨l1, hl1⟩ : ∃ l1, l1 = n.length := ⟨_, rfl⟩
  obtain ⟨l2, hl2⟩ : ∃ l2, l2 = d.length := ⟨_, rfl⟩
  rw [← hl1] at h1 ⊢
  rw [← hl2] at h2 ⊢
  have HPZ := Lib.hid (And.intro hP hZ)
  have HG := Lib.hid hG
  have HI := Lib.hid hI
  have HL := Lib.hid (And.intro hl (And.intro hl1 hl2))
  have H123 := Lib.hid (And.intro h1 (And.intro h2 h3))
  clear hP hZ hG hI hl hl1 hl2 h1 h2 h3
  go_enter Tryz.func25, Tryz.ntmps25
  go_wp2
  obtain ⟨W, hW⟩ : ∃ W, W = (w.alloc (.cells #[.string s, .slice A1 l1 k1, .slice A2 l2 k2, .slice Ap l cp] 52)).alloc (.cells #[.int .i64 0, .int .i64 0, .int .i64 0, .slice none 0 0] 24) := ⟨_, rfl⟩
  have hb0 : Below w.heap.size w W := by rw [hW]; exact (by repeat' (first | (with_reducible exact Below.refl _ _) | (with_reducible assumption) | (with_reducible refine below_drewN ?_ _) | (with_reducible refine below_step (by assumption) ?_ ?_) | (with_reducible refine Below.alloc ?_ ?_ _) | (with_reducible refine Below.setCell ?_ ?_ _) | (with_reducible refine Below.drew ?_) | go_size | (exact Below.size (by assumption)) | (refine Nat.le_trans (Below.size (by assumption)) ?_)))
  have R0 := Lib.hid (show ∃ L, VW w W W.heap.size s (.slice A1 l1 k1) (.slice A2 l2 k2) (.slice Ap l cp) es 0 (.slice none 0 0) L by
    refine ⟨[], ?_, ?_, hb0, PsO.nil _ _, rfl, noErr_zero es, by rw [hW]; simp, Nat.le_refl _⟩
    · rw [hW]; exact (heap_alloc_old _ _ (by simp)).trans (heap_alloc_new w _)
    · have := heap_alloc_new (w.alloc (.cells #[.string s, .slice A1 l1 k1, .slice A2 l2 k2, .slice Ap l cp] 52)) (.cells #[.int .i64 0, .int .i64 0, .int .i64 0, .slice none 0 0] 24)
      rw [hW]
      unfold PBox
      simpa using this)
  obtain ⟨q0, q1, q2, q3, q4⟩ := R0.out.choose_spec.x.cells
  rw [← hW]
  obtain ⟨g, hg⟩ : ∃ g, g = W.heap.size := ⟨_, rfl⟩
  rw [← hg] at R0
  clear hb0 hW hg
  go_loopw [4, 12] (fun v t wr => ∃ k : Nat, t = .int .i64 k ∧ k ≤ l ∧ Hid (∃ L, VW w wr g s (.slice A1 l1 k1) (.slice A2 l2 k2) (.slice Ap l cp) es k v L)) (fun _ t _ => l - (intOf t).toNat)
  case atStart => exact ⟨0, rfl, by omega, R0⟩
  case round =>
    obtain ⟨k, rfl, hk, hr⟩ := hrel
    clear q0 q1 q2 q3 q4 R0
    by_cases hlt : k < l
    · obtain ⟨L, hv⟩ := hr.out
      have hke : k < es.length := by have := HL.out.1; omega
      obtain ⟨b, o, hA, hbl, hcs⟩ := H123.out.2.2.below hv.b (by omega)
      obtain ⟨s5, nv5, dv5, pv5, hx5, y0, y1, y2, y3⟩ := hcs k hke
      obtain ⟨s6, A5, l5, c5, A6, l6, c6, A7, l7, c7, e5⟩ := RdE.agg2 hx5
      simp only [Value.agg.injEq, Array.mk.injEq, List.cons.injEq, and_true] at e5
      obtain ⟨-, rfl, rfl, rfl⟩ := e5
      obtain ⟨q0, q1, q2, q3, q4⟩ := hv.x.cells
      have HV := Lib.hid hv
      obtain ⟨x, hx⟩ : ∃ x, x = es[k] := ⟨_, rfl⟩
      rw [← hx] at hx5
      have HX := Lib.hid hx5
      have HXE := Lib.hid (show (∃ hk : k < es.length, x = es[k]) ∧ x ∈ es from ⟨⟨hke, hx⟩, by rw [hx]; exact List.getElem_mem hke⟩)
      subst hA
      clear hv hcs hx5 hr hx hke s6
      go_wp2_with fail
      obtain ⟨w5, hw5⟩ : ∃ w5, w5 = wr.alloc (.cells #[.string s5, .slice A5 l5 c5, .slice A6 l6 c6, .slice A7 l7 c7] 52) := ⟨_, rfl⟩
      have hb5 : Below wr.heap.size wr w5 := by rw [hw5]; exact (Below.refl _ _).alloc (Nat.le_refl _) _
      refine Calls.mono (show Calls _ _ _ _ _ by rw [← hw5]; exact HI.out x HXE.out.2 _ w5 (RdE.kept hb5.size (fun b _ hlt => hb5.block b hlt) (fun _ _ _ => trivial) _ _ HX.out)) ?_
      rintro e w6 ⟨v6, rfl, hown, hb6⟩
      obtain ⟨X1, hX1⟩ : ∃ X1, X1 = (valX x).1 := ⟨_, rfl⟩
      obtain ⟨Z1, hZ1⟩ : ∃ Z1, Z1 = (valX x).2 := ⟨_, rfl⟩
      rw [← hX1] at hown ⊢
      rw [← hZ1]
      have hb6' := hb5.trans (hb6.mono hb5.size)
      have HV6 := HV.out.keep hb6'
      obtain ⟨A8, c8, rfl, hL8⟩ := hown.isL
      have hlt4 : ∀ g', u4.ownBlock = some g' → g' < w5.heap.size := fun g' e => by have := (HV.out.o.lt g' e).2; have := hb5.size; omega
      obtain ⟨l8, hl8⟩ : ∃ l8, l8 = X1.xs.length := ⟨_, rfl⟩
      have hrd := hown.rd
      rw [← hl8] at hrd hown ⊢
      have hs56 := hb6.size
      have hgs : g ≤ w5.heap.size := Nat.le_trans HV.out.W.2 hb5.size
      have J6 := Lib.hid (And.intro HV6 (And.intro hrd (And.intro hlt4 (And.intro hX1 (And.intro hZ1 hl8)))))
      clear hw5 hb5 hb6 hb6' HV6 hL8 hrd hlt4 hX1 hZ1 hl8 hown HV HX y0 y1 y2 y3 q0 q1 q2 q3 q4 hbl
      go_upto_if 22 with fail
      have hb7 := below_new w6 (.cells #[.int .i64 X1.a, .int .i64 X1.b, .int .i64 X1.c, .slice A8 l8 c8] 24)
      have hn7 := PBox.new w6 X1.a X1.b X1.c (.slice A8 l8 c8)
      obtain ⟨w7, hw7⟩ : ∃ w7, w7 = w6.alloc (.cells #[.int .i64 X1.a, .int .i64 X1.b, .int .i64 X1.c, .slice A8 l8 c8] 24) := ⟨_, rfl⟩
      rw [← hw7] at hb7 hn7 ⊢
      have HV7 := J6.out.1.keep hb7
      have hrd7 := J6.out.2.1.kept hb7.size (fun b _ hlt => hb7.block b hlt) (fun b (hb : w5.heap.size ≤ b) _ => hb)
      have hs67 := hb7.size
      have J7 := Lib.hid (And.intro HV7 (And.intro hrd7 J6.out.2.2))
      have f0 : w7.frozen? ⟨w.heap.size + 1, 0, none⟩ = false := frozen_of_row w7 _ 0 _ _ HV7.r
      have f1 : w7.frozen? ⟨w.heap.size + 1, 1, none⟩ = false := frozen_of_row w7 _ 1 _ _ HV7.r
      have f2 : w7.frozen? ⟨w.heap.size + 1, 2, none⟩ = false := frozen_of_row w7 _ 2 _ _ HV7.r
      have f3 : w7.frozen? ⟨w.heap.size + 1, 3, none⟩ = false := frozen_of_row w7 _ 3 _ _ HV7.r
      have hr7 := HV7.r
      obtain ⟨x0, x1, x2, x3, x4⟩ := hn7.cells
      obtain ⟨gp, hgp⟩ : ∃ gp, gp = w6.heap.size := ⟨_, rfl⟩
      rw [← hgp] at x0 x1 x2 x3 x4 ⊢
      clear hw7 hb7 hn7 HV7 hrd7 J6 hgp
      by_cases hz : Z1 = 0
      · subst hz
        obtain ⟨q0, q1, q2, q3, q4⟩ := J7.out.1.x.cells
        clear f0 f1 f2 f3 hr7
        go_wp2_with (at_builtin; go_must (refine append_pat (.tmp 25) (.tmp 27) rfl rfl g w5.heap.size u4 L X1 (.slice A8 l8 c8) w7 rfl rfl J7.out.1.o rfl J7.out.2.1 hgs J7.out.2.2.1 ?_ ?_ ?_))
        · have := congrArg List.length J7.out.1.l
          rw [List.length_map, List.length_map, List.length_take] at this
          have := HL.out.1
          omega
        · omega
        intro v' w8 ho8 hg8 hd8
        have R2 := Lib.hid (show ∃ L, VW w w8 g s (.slice A1 l1 k1) (.slice A2 l2 k2) (.slice (some ⟨b, o, none⟩) l cp) es (k + 1) v' L by
          obtain ⟨⟨hke, hxe⟩, -⟩ := HXE.out
          have hv7 := J7.out.1
          exact ⟨_, hv7.next hke (by rw [← hxe, ← J7.out.2.2.2.2.1]) ((Below.refl _ _).grown hg8 hv7.W.2 (fun q e => (J7.out.1.o.lt q e).1)) (by rw [J7.out.2.2.2.1, hxe]) ho8⟩)
        clear J7 ho8 hg8 hd8 HXE q0 q1 q2 q3 q4
        go_wp2
        go_roundw
        case rel => exact ⟨k + 1, by go_num, by omega, R2⟩
        case measure => simp [intOf]; omega
      · have d1 : (Z1 != 0) = true := by rw [bne_iff_ne]; exact hz
        have HP := Lib.hid (put_zero hr7 J7.out.1.b (by omega))
        have HF := Lib.hid (show P = zeroP ∧ Z = Z1 by
          obtain ⟨⟨hke, hxe⟩, -⟩ := HXE.out
          have := valX_err (s := s) (n := n) (d := d) (by rw [← HL.out.1]; exact hc) hke J7.out.1.e (by rw [← hxe, ← J7.out.2.2.2.2.1]; exact hz)
          rw [this, ← hxe, ← J7.out.2.2.2.2.1] at HPZ
          exact HPZ.out)
        obtain ⟨q0, q1, q2, q3, q4⟩ := J7.out.1.r.cells
        clear J7 HXE hz hr7 HPZ HI HG H123
        go_wp2
        refine bodyPost_ret (v := .tuple #[.agg #[.int .i64 0, .int .i64 0, .int .i64 0, .slice none 0 0], .int .i64 Z1]) (ret_pat2 rfl rfl rfl HP.out.1) rfl ?_
        rw [HF.out.1, HF.out.2]
        exact OutP.zero HP.out.2
    · obtain rfl : k = l := by omega
      obtain ⟨L, hv⟩ := hr.out
      obtain ⟨hl0, hl1, hl2⟩ := HL.out
      have hPZ := HPZ.out
      have hG := HG.out
      have hno : ∀ e ∈ es, (valX e).2 = 0 := fun e he => hv.e e (by rw [hl0, List.take_length]; exact he)
      have hLL : L.map Prod.fst = es.map fun e => (valX e).1 := by rw [hv.l, hl0, List.take_length]
      obtain ⟨q0, q1, q2, q3, q4⟩ := hv.x.cells
      have HE := Lib.hid hv
      have q5 : w.heap.size ≠ w.heap.size + 1 := by omega
      have hwr : w.heap.size ≤ wr.heap.size := hv.b.size
      have hn := H123.out.1.kept (N' := fun _ => True) hv.b.size (fun b _ hlt => hv.b.block b hlt) (fun _ _ _ => trivial)
      have hd := H123.out.2.1
      have hbd := H123.out.1.bd
      rcases hG with ⟨hnb, ⟨h0, hs, hn3, hp0, hdl⟩ | ⟨h0, hs, hdl⟩ | ⟨h0, hs⟩⟩
      · subst h0
        obtain rfl : es = [] := List.eq_nil_of_length_eq_zero hl0.symm
        obtain ⟨n0, n1, n2, rfl⟩ := three_of hn3
        obtain rfl : l1 = 3 := hl1
        simp only [List.getD_cons_zero] at hp0
        have hm0 := hnb n0 (by simp)
        have hm1 := hnb n1 (by simp)
        have hm2 := hnb n2 (by simp)
        obtain ⟨A', c', e, hA⟩ := hbd
        cases e
        obtain ⟨bn, on, rfl, hbn, ⟨-, hbn2⟩, hcn⟩ := hA (by simp)
        have y0 := (hv.b.cell (p := ⟨bn, on + 0, none⟩) hbn).trans (hcn 0 (by simp))
        have y1 := (hv.b.cell (p := ⟨bn, on + 1, none⟩) hbn).trans (hcn 1 (by simp))
        have y2 := (hv.b.cell (p := ⟨bn, on + 2, none⟩) hbn).trans (hcn 2 (by simp))
        simp only [List.getD_cons_zero, List.getD_cons_succ, Nat.add_zero] at y0 y1 y2
        have hbn3 : bn < wr.heap.size := by omega
        have hbn4 : bn ≠ w.heap.size + 1 := by omega
        have hdw : ∀ w5, Below wr.heap.size wr w5 → IsL w5 A2 l2 d := fun w5 hb5 => by
          obtain ⟨A'', c'', e, h⟩ := hd.isL
          cases e
          exact IsL.below (hv.b.trans (hb5.mono hwr)) h
        rcases hs with hs | hs
        · have t1 := word_yes hs
          have HLE := Lib.hid (show ∀ w5, Below wr.heap.size wr w5 → Calls Tryz.prog 23 #[.agg #[.int .i64 n0, .int .i64 n1, .int .i64 n2, .slice A2 l2 k2]] w5 (OutP w5 P (.int .i64 Z)) from fun w5 hb5 => by
            have h := least_lst ⟨n0, n1, n2, d⟩ (by show d.length ≤ 1000000; omega) A2 k2 w5 (by
              have := hdw w5 hb5
              rw [hl2] at this
              exact this)
            rw [hPZ.1, hPZ.2]
            simp only [mkE, valX, leafP]
            rw [if_pos hs]
            rw [hl2]
            exact h)
          clear hr hv hl0 hl2 hPZ hno hLL hn hd hdw hs hnb hn3 hA hcn hbn2 HPZ HG HI H123 HL
          go_upto_region 12 with fail
          refine RP.region_treeP (C := fun w' => ∃ x : SubP (w.heap.size + 1) wr.heap.size wr, w' = x.val) (fun _ _ _ => False) [0, 1, 2, 3, 4, 5, 6, 7, 8, 9, 10, 11, 12, 13] (.one 14 (.one 15 (.read 16 (.one 17 (.one 18 .nil))))) 19 (fun _ _ _ h => h.elim) (by kernel_rfl) (by kernel_rfl) (subp_start _ _ wr) ?_
          simp only [pickL, List.getElem?_cons_zero, List.getElem?_cons_succ]
          repeat (go_big_quiet_step (fail))
          refine wpQuiet_nil ?_
          obtain ⟨w5, hw5⟩ : ∃ w5 : World, w5 = { wr with drawn := wr.drawn + 1 } := ⟨_, rfl⟩
          have hb5 : Below wr.heap.size wr w5 := by rw [hw5]; exact (Below.refl _ _).drew
          rw [← hw5]
          have hle := HLE.out w5 hb5
          simp only [RP.treeS, atOp, List.getElem?_cons_zero, List.getElem?_cons_succ]
          refine ⟨subp_low (grown_of hb5 _) (Nat.le_refl _), ?_⟩
          refine RP.p_val (.agg #[.int .i64 n0, .int .i64 n1, .int .i64 n2, .slice A2 l2 k2]) w5 rfl (by go_simp) ?_
          refine ⟨subp_low (grown_of hb5 _) (Nat.le_refl _), ?_⟩
          refine RP.p_call 23 #[.agg #[.int .i64 n0, .int .i64 n1, .int .i64 n2, .slice A2 l2 k2]] rfl (by go_simp) ?_
          refine hle.mono ?_
          rintro e w7 ⟨v, rfl, hown, hb7⟩
          refine .inl ⟨_, rfl, ?_⟩
          have hb7' := hb5.trans (hb7.mono hb5.size)
          refine ⟨subp_low (grown_of hb7' _) (Nat.le_refl _), ?_⟩
          obtain ⟨A9, k9, rfl, -⟩ := hown.isL
          have hr7 := HE.out.r.keep hb7'
          have HF := Lib.hid (put_row (w := w) hr7 (HE.out.b.trans (hb7'.mono HE.out.b.size)) (by omega) P A9 k9 (.int .i64 Z) hown (Nat.le_trans HE.out.b.size hb5.size) (by have := hb5.size; have := HE.out.W; omega))
          obtain ⟨l9, hl9⟩ : ∃ l9, l9 = P.xs.length := ⟨_, rfl⟩
          rw [← hl9] at HF ⊢
          have hgr := row_grown w7 (w.heap.size + 1) #[.int .i64 P.a, .int .i64 P.b, .int .i64 P.c, .slice A9 l9 k9]
          refine ⟨_, s_read (.agg #[.int .i64 P.a, .int .i64 P.b, .int .i64 P.c, .slice A9 l9 k9]) rfl (fun w _ => by go_simp), subp_low (grown_of hb7' _) (Nat.le_refl _), ?_⟩
          refine RP.p_val (.int .i64 Z) w7 rfl (by go_simp) ?_
          refine ⟨subp_low (grown_of hb7' _) (Nat.le_refl _), ?_⟩
          have hC8 := subp_low (grown_then (grown_of hb7' (some (w.heap.size + 1))) hgr) (Nat.le_refl _)
          refine RP.p_skip (w7.setRow (w.heap.size + 1) #[.int .i64 P.a, .int .i64 P.b, .int .i64 P.c, .slice A9 l9 k9]) rfl (st_pat_run (.tmp 2) (.tmp 50) rfl hr7 P.a P.b P.c A9 l9 k9 (by go_simp) (by go_simp)) ?_
          obtain ⟨w8, hw8⟩ : ∃ w8, w8 = w7.setRow (w.heap.size + 1) #[.int .i64 P.a, .int .i64 P.b, .int .i64 P.c, .slice A9 l9 k9] := ⟨_, rfl⟩
          rw [← hw8] at HF hC8 ⊢
          clear hw8 hgr hr7 hown hb7 hb7' hb5 hle hl9
          refine ⟨hC8, ?_⟩
          refine RP.p_assign _ rfl rfl (.int .i64 Z) (by go_simp) ?_
          go_simp
          go_wp2
          refine bodyPost_ret (v := .tuple #[.agg #[.int .i64 P.a, .int .i64 P.b, .int .i64 P.c, .slice A9 l9 k9], .int .i64 Z]) (ret_pat2 rfl rfl rfl HF.out.1) rfl ?_
          exact HF.out.2
        · have t1 : (s.toList == [103, 114, 105, 100]) = false := word_no (by rw [hs]; decide)
          have t2 := word_yes hs
          have HLE := Lib.hid (show ∀ w5, Below wr.heap.size wr w5 → Calls Tryz.prog 23 #[.agg #[.int .i64 n0, .int .i64 (n2 % n0), .int .i64 n1, .slice A2 l2 k2]] w5 (OutP w5 P (.int .i64 Z)) from fun w5 hb5 => by
            have h := least_lst ⟨n0, n2 % n0, n1, d⟩ (by show d.length ≤ 1000000; omega) A2 k2 w5 (by
              have := hdw w5 hb5
              rw [hl2] at this
              exact this)
            rw [hPZ.1, hPZ.2]
            simp only [mkE, valX, leafP]
            rw [if_neg (by rw [hs]; decide)]
            rw [hl2]
            exact h)
          have HMO := Lib.hid (pmod_any n2 n0 hp0 (by omega) (by omega) (by omega))
          clear hr hv hl0 hl2 hPZ hno hLL hn hd hdw hs hnb hn3 hA hcn hbn2 HPZ HG HI H123 HL
          go_upto_region 14 with fail
          refine RP.region_treeP (C := fun w' => ∃ x : SubP (w.heap.size + 1) wr.heap.size wr, w' = x.val) (fun _ _ _ => False) [0, 1, 2, 3, 4, 5, 6, 7, 8, 9, 10, 11, 13, 14, 15, 16, 17, 18] (.one 12 (.one 19 (.one 20 (.read 21 (.one 22 (.one 23 .nil)))))) 24 (fun _ _ _ h => h.elim) (by kernel_rfl) (by kernel_rfl) (subp_start _ _ wr) ?_
          simp only [pickL, List.getElem?_cons_zero, List.getElem?_cons_succ]
          repeat (go_big_quiet_step (fail))
          refine wpQuiet_nil ?_
          obtain ⟨w5, hw5⟩ : ∃ w5 : World, w5 = { wr with drawn := wr.drawn + 1 } := ⟨_, rfl⟩
          have hb5 : Below wr.heap.size wr w5 := by rw [hw5]; exact (Below.refl _ _).drew
          rw [← hw5]
          have hle := HLE.out w5 hb5
          simp only [RP.treeS, atOp, List.getElem?_cons_zero, List.getElem?_cons_succ]
          refine ⟨subp_low (grown_of hb5 _) (Nat.le_refl _), ?_⟩
          refine RP.p_call 36 #[.int .i64 n2, .int .i64 n0] rfl (by go_simp) ?_
          refine (HMO.out w5).mono ?_
          rintro e w6 ⟨rfl, rfl⟩
          refine .inl ⟨_, rfl, ?_⟩
          refine ⟨subp_low (grown_of hb5 _) (Nat.le_refl _), ?_⟩
          refine RP.p_val (.agg #[.int .i64 n0, .int .i64 (n2 % n0), .int .i64 n1, .slice A2 l2 k2]) w5 rfl (by go_simp) ?_
          refine ⟨subp_low (grown_of hb5 _) (Nat.le_refl _), ?_⟩
          refine RP.p_call 23 #[.agg #[.int .i64 n0, .int .i64 (n2 % n0), .int .i64 n1, .slice A2 l2 k2]] rfl (by go_simp) ?_
          refine hle.mono ?_
          rintro e w7 ⟨v, rfl, hown, hb7⟩
          refine .inl ⟨_, rfl, ?_⟩
          have hb7' := hb5.trans (hb7.mono hb5.size)
          refine ⟨subp_low (grown_of hb7' _) (Nat.le_refl _), ?_⟩
          obtain ⟨A9, k9, rfl, -⟩ := hown.isL
          have hr7 := HE.out.r.keep hb7'
          have HF := Lib.hid (put_row (w := w) hr7 (HE.out.b.trans (hb7'.mono HE.out.b.size)) (by omega) P A9 k9 (.int .i64 Z) hown (Nat.le_trans HE.out.b.size hb5.size) (by have := hb5.size; have := HE.out.W; omega))
          obtain ⟨l9, hl9⟩ : ∃ l9, l9 = P.xs.length := ⟨_, rfl⟩
          rw [← hl9] at HF ⊢
          have hgr := row_grown w7 (w.heap.size + 1) #[.int .i64 P.a, .int .i64 P.b, .int .i64 P.c, .slice A9 l9 k9]
          refine ⟨_, s_read (.agg #[.int .i64 P.a, .int .i64 P.b, .int .i64 P.c, .slice A9 l9 k9]) rfl (fun w _ => by go_simp), subp_low (grown_of hb7' _) (Nat.le_refl _), ?_⟩
          refine RP.p_val (.int .i64 Z) w7 rfl (by go_simp) ?_
          refine ⟨subp_low (grown_of hb7' _) (Nat.le_refl _), ?_⟩
          have hC8 := subp_low (grown_then (grown_of hb7' (some (w.heap.size + 1))) hgr) (Nat.le_refl _)
          refine RP.p_skip (w7.setRow (w.heap.size + 1) #[.int .i64 P.a, .int .i64 P.b, .int .i64 P.c, .slice A9 l9 k9]) rfl (st_pat_run (.tmp 2) (.tmp 75) rfl hr7 P.a P.b P.c A9 l9 k9 (by go_simp) (by go_simp)) ?_
          obtain ⟨w8, hw8⟩ : ∃ w8, w8 = w7.setRow (w.heap.size + 1) #[.int .i64 P.a, .int .i64 P.b, .int .i64 P.c, .slice A9 l9 k9] := ⟨_, rfl⟩
          rw [← hw8] at HF hC8 ⊢
          clear hw8 hgr hr7 hown hb7 hb7' hb5 hle hl9
          refine ⟨hC8, ?_⟩
          refine RP.p_assign _ rfl rfl (.int .i64 Z) (by go_simp) ?_
          go_simp
          go_wp2
          refine bodyPost_ret (v := .tuple #[.agg #[.int .i64 P.a, .int .i64 P.b, .int .i64 P.c, .slice A9 l9 k9], .int .i64 Z]) (ret_pat2 rfl rfl rfl HF.out.1) rfl ?_
          exact HF.out.2
      · subst h0
        obtain ⟨e, rfl⟩ : ∃ e, es = [e] := List.length_eq_one_iff.1 hl0.symm
        obtain ⟨p0, rfl⟩ : ∃ p0, L = [p0] := by
          have := congrArg List.length hLL
          rw [List.length_map] at this
          exact List.length_eq_one_iff.1 this
        have hp0X : p0.1 = (valX e).1 := by simpa using hLL
        obtain ⟨gp, cg, A0, k0, hu4, hg1, hg2, -, hXI, x0, x1, x2, x3⟩ := hv.o.get 0 (by simp)
        simp only [List.getElem_cons_zero, Nat.zero_mul, Nat.zero_add, List.length_singleton] at hu4 hXI x0 x1 x2 x3
        obtain ⟨X, hX⟩ : ∃ X, X = p0.1 := ⟨_, rfl⟩
        rw [← hX] at hXI x0 x1 x2 x3
        have hXl : X.xs.length ≤ 1000000 := by rw [hX, hp0X]; have := valX_len e; omega
        have hXI5 : ∀ w5, Below wr.heap.size wr w5 → PatIn w5 X A0 := fun w5 hb5 => IsL.below hb5 hXI
        have hval : valX (mkE s n d [e]) = oneV s n d X := by
          simp only [mkE, valX]
          rw [if_pos (hno e (by simp)), hX, hp0X]
        rw [hval] at hPZ
        unfold oneV at hPZ
        obtain ⟨lX, hlX⟩ : ∃ lX, lX = X.xs.length := ⟨_, rfl⟩
        rw [← hlX] at x3
        have hgw := hv.W.1
        have hgp : gp < wr.heap.size ∧ gp ≠ w.heap.size + 1 := ⟨hg1, by omega⟩
        obtain ⟨hgp1, hgp2⟩ := hgp
        have hdw : ∀ w5, Below wr.heap.size wr w5 → IsL w5 A2 l2 d := fun w5 hb5 => by
          obtain ⟨A'', c'', e, h⟩ := hd.isL
          cases e
          exact IsL.below (hv.b.trans (hb5.mono hwr)) h
        subst hu4
        rcases hs with ⟨hs, hn2⟩ | ⟨hs, hn1⟩ | hs | hs | hs
        · obtain ⟨n0, n1, rfl⟩ := two_of hn2
          obtain rfl : l1 = 2 := hl1
          obtain ⟨A', c', e', hA⟩ := hbd
          cases e'
          obtain ⟨bn, on, rfl, hbn, ⟨-, hbn2⟩, hcn⟩ := hA (by simp)
          have y0 := (hv.b.cell (p := ⟨bn, on + 0, none⟩) hbn).trans (hcn 0 (by simp))
          have y1 := (hv.b.cell (p := ⟨bn, on + 1, none⟩) hbn).trans (hcn 1 (by simp))
          simp only [List.getD_cons_zero, List.getD_cons_succ, Nat.add_zero] at y0 y1
          have hbn3 : bn < wr.heap.size := by omega
          have hbn4 : bn ≠ w.heap.size + 1 := by omega
          have t1 : (s.toList == [103, 114, 105, 100]) = false := word_no (by rw [hs]; decide)
          have t2 : (s.toList == [98, 114, 105, 99, 107, 115]) = false := word_no (by rw [hs]; decide)
          have t3 := word_yes hs
          have HLE := Lib.hid (show ∀ w5, Below wr.heap.size wr w5 → Calls Tryz.prog 9 #[.agg #[.int .i64 X.a, .int .i64 X.b, .int .i64 X.c, .slice A0 lX k0], .int .i64 n0, .int .i64 n1] w5 (OutP w5 P (.int .i64 Z)) from fun w5 hb5 => by
            rw [hPZ.1, hPZ.2, if_pos hs, hlX]
            exact pshift_any X hXl n0 n1 A0 k0 w5 (hXI5 w5 hb5))
          clear hr hv hl0 hl2 hPZ hno hLL hn hd hdw hs hnb hXI hXI5 HPZ HG HI H123 HL hX hp0X hval hXl hlX hg1 hg2 hA hcn hbn2 hn2
          go_upto_region 16 with fail
          refine RP.region_treeP (C := fun w' => ∃ x : SubP (w.heap.size + 1) wr.heap.size wr, w' = x.val) (fun _ _ _ => False) [0, 1, 2, 3, 4, 5, 6, 7, 8, 9, 10] (.one 11 (.read 12 (.one 13 (.one 14 .nil)))) 15 (fun _ _ _ h => h.elim) (by kernel_rfl) (by kernel_rfl) (subp_start _ _ wr) ?_
          simp only [pickL, List.getElem?_cons_zero, List.getElem?_cons_succ]
          repeat (go_big_quiet_step (fail))
          refine wpQuiet_nil ?_
          obtain ⟨w5, hw5⟩ : ∃ w5 : World, w5 = { wr with drawn := wr.drawn + 1 } := ⟨_, rfl⟩
          have hb5 : Below wr.heap.size wr w5 := by rw [hw5]; exact (Below.refl _ _).drew
          rw [← hw5]
          have hle := HLE.out w5 hb5
          simp only [RP.treeS, atOp, List.getElem?_cons_zero, List.getElem?_cons_succ]
          refine ⟨subp_low (grown_of hb5 _) (Nat.le_refl _), ?_⟩
          refine RP.p_call 9 #[.agg #[.int .i64 X.a, .int .i64 X.b, .int .i64 X.c, .slice A0 lX k0], .int .i64 n0, .int .i64 n1] rfl (by go_simp) ?_
          refine hle.mono ?_
          rintro e w7 ⟨v, rfl, hown, hb7⟩
          refine .inl ⟨_, rfl, ?_⟩
          have hb7' := hb5.trans (hb7.mono hb5.size)
          refine ⟨subp_low (grown_of hb7' _) (Nat.le_refl _), ?_⟩
          obtain ⟨A9, k9, rfl, -⟩ := hown.isL
          have hr7 := HE.out.r.keep hb7'
          have HF := Lib.hid (put_row (w := w) hr7 (HE.out.b.trans (hb7'.mono HE.out.b.size)) (by omega) P A9 k9 (.int .i64 Z) hown (Nat.le_trans HE.out.b.size hb5.size) (by have := hb5.size; have := HE.out.W; omega))
          obtain ⟨l9, hl9⟩ : ∃ l9, l9 = P.xs.length := ⟨_, rfl⟩
          rw [← hl9] at HF ⊢
          have hgr := row_grown w7 (w.heap.size + 1) #[.int .i64 P.a, .int .i64 P.b, .int .i64 P.c, .slice A9 l9 k9]
          refine ⟨_, s_read (.agg #[.int .i64 P.a, .int .i64 P.b, .int .i64 P.c, .slice A9 l9 k9]) rfl (fun w _ => by go_simp), subp_low (grown_of hb7' _) (Nat.le_refl _), ?_⟩
          refine RP.p_val (.int .i64 Z) w7 rfl (by go_simp) ?_
          refine ⟨subp_low (grown_of hb7' _) (Nat.le_refl _), ?_⟩
          have hC8 := subp_low (grown_then (grown_of hb7' (some (w.heap.size + 1))) hgr) (Nat.le_refl _)
          refine RP.p_skip (w7.setRow (w.heap.size + 1) #[.int .i64 P.a, .int .i64 P.b, .int .i64 P.c, .slice A9 l9 k9]) rfl (st_pat_run (.tmp 2) (.tmp 91) rfl hr7 P.a P.b P.c A9 l9 k9 (by go_simp) (by go_simp)) ?_
          obtain ⟨w8, hw8⟩ : ∃ w8, w8 = w7.setRow (w.heap.size + 1) #[.int .i64 P.a, .int .i64 P.b, .int .i64 P.c, .slice A9 l9 k9] := ⟨_, rfl⟩
          rw [← hw8] at HF hC8 ⊢
          clear hw8 hgr hr7 hown hb7 hb7' hb5 hle hl9
          refine ⟨hC8, ?_⟩
          refine RP.p_assign _ rfl rfl (.int .i64 Z) (by go_simp) ?_
          go_simp
          go_wp2
          refine bodyPost_ret (v := .tuple #[.agg #[.int .i64 P.a, .int .i64 P.b, .int .i64 P.c, .slice A9 l9 k9], .int .i64 Z]) (ret_pat2 rfl rfl rfl HF.out.1) rfl ?_
          exact HF.out.2
        · obtain ⟨n0, rfl⟩ := List.length_eq_one_iff.1 hn1
          obtain rfl : l1 = 1 := hl1
          obtain ⟨A', c', e', hA⟩ := hbd
          cases e'
          obtain ⟨bn, on, rfl, hbn, ⟨-, hbn2⟩, hcn⟩ := hA (by simp)
          have y0 := (hv.b.cell (p := ⟨bn, on + 0, none⟩) hbn).trans (hcn 0 (by simp))
          simp only [List.getD_cons_zero, Nat.add_zero] at y0
          have hbn3 : bn < wr.heap.size := by omega
          have hbn4 : bn ≠ w.heap.size + 1 := by omega
          have t1 : (s.toList == [103, 114, 105, 100]) = false := word_no (by rw [hs]; decide)
          have t2 : (s.toList == [98, 114, 105, 99, 107, 115]) = false := word_no (by rw [hs]; decide)
          have t3 : (s.toList == [115, 104, 105, 102, 116]) = false := word_no (by rw [hs]; decide)
          have t4 := word_yes hs
          have HLE := Lib.hid (show ∀ w5, Below wr.heap.size wr w5 → Calls Tryz.prog 16 #[.agg #[.int .i64 X.a, .int .i64 X.b, .int .i64 X.c, .slice A0 lX k0], .int .i64 n0] w5 (OutP w5 P (.int .i64 Z)) from fun w5 hb5 => by
            rw [hPZ.1, hPZ.2, if_neg (by rw [hs]; decide), if_pos hs, hlX]
            exact pswell_any X hXl n0 A0 k0 w5 (hXI5 w5 hb5))
          clear hr hv hl0 hl2 hPZ hno hLL hn hd hdw hs hnb hXI hXI5 HPZ HG HI H123 HL hX hp0X hval hXl hlX hg1 hg2 hA hcn hbn2 hn1
          go_upto_region 18 with fail
          refine RP.region_treeP (C := fun w' => ∃ x : SubP (w.heap.size + 1) wr.heap.size wr, w' = x.val) (fun _ _ _ => False) [0, 1, 2, 3, 4, 5, 6] (.one 7 (.read 8 (.one 9 (.one 10 .nil)))) 11 (fun _ _ _ h => h.elim) (by kernel_rfl) (by kernel_rfl) (subp_start _ _ wr) ?_
          simp only [pickL, List.getElem?_cons_zero, List.getElem?_cons_succ]
          repeat (go_big_quiet_step (fail))
          refine wpQuiet_nil ?_
          obtain ⟨w5, hw5⟩ : ∃ w5 : World, w5 = { wr with drawn := wr.drawn + 1 } := ⟨_, rfl⟩
          have hb5 : Below wr.heap.size wr w5 := by rw [hw5]; exact (Below.refl _ _).drew
          rw [← hw5]
          have hle := HLE.out w5 hb5
          simp only [RP.treeS, atOp, List.getElem?_cons_zero, List.getElem?_cons_succ]
          refine ⟨subp_low (grown_of hb5 _) (Nat.le_refl _), ?_⟩
          refine RP.p_call 16 #[.agg #[.int .i64 X.a, .int .i64 X.b, .int .i64 X.c, .slice A0 lX k0], .int .i64 n0] rfl (by go_simp) ?_
          refine hle.mono ?_
          rintro e w7 ⟨v, rfl, hown, hb7⟩
          refine .inl ⟨_, rfl, ?_⟩
          have hb7' := hb5.trans (hb7.mono hb5.size)
          refine ⟨subp_low (grown_of hb7' _) (Nat.le_refl _), ?_⟩
          obtain ⟨A9, k9, rfl, -⟩ := hown.isL
          have hr7 := HE.out.r.keep hb7'
          have HF := Lib.hid (put_row (w := w) hr7 (HE.out.b.trans (hb7'.mono HE.out.b.size)) (by omega) P A9 k9 (.int .i64 Z) hown (Nat.le_trans HE.out.b.size hb5.size) (by have := hb5.size; have := HE.out.W; omega))
          obtain ⟨l9, hl9⟩ : ∃ l9, l9 = P.xs.length := ⟨_, rfl⟩
          rw [← hl9] at HF ⊢
          have hgr := row_grown w7 (w.heap.size + 1) #[.int .i64 P.a, .int .i64 P.b, .int .i64 P.c, .slice A9 l9 k9]
          refine ⟨_, s_read (.agg #[.int .i64 P.a, .int .i64 P.b, .int .i64 P.c, .slice A9 l9 k9]) rfl (fun w _ => by go_simp), subp_low (grown_of hb7' _) (Nat.le_refl _), ?_⟩
          refine RP.p_val (.int .i64 Z) w7 rfl (by go_simp) ?_
          refine ⟨subp_low (grown_of hb7' _) (Nat.le_refl _), ?_⟩
          have hC8 := subp_low (grown_then (grown_of hb7' (some (w.heap.size + 1))) hgr) (Nat.le_refl _)
          refine RP.p_skip (w7.setRow (w.heap.size + 1) #[.int .i64 P.a, .int .i64 P.b, .int .i64 P.c, .slice A9 l9 k9]) rfl (st_pat_run (.tmp 2) (.tmp 103) rfl hr7 P.a P.b P.c A9 l9 k9 (by go_simp) (by go_simp)) ?_
          obtain ⟨w8, hw8⟩ : ∃ w8, w8 = w7.setRow (w.heap.size + 1) #[.int .i64 P.a, .int .i64 P.b, .int .i64 P.c, .slice A9 l9 k9] := ⟨_, rfl⟩
          rw [← hw8] at HF hC8 ⊢
          clear hw8 hgr hr7 hown hb7 hb7' hb5 hle hl9
          refine ⟨hC8, ?_⟩
          refine RP.p_assign _ rfl rfl (.int .i64 Z) (by go_simp) ?_
          go_simp
          go_wp2
          refine bodyPost_ret (v := .tuple #[.agg #[.int .i64 P.a, .int .i64 P.b, .int .i64 P.c, .slice A9 l9 k9], .int .i64 Z]) (ret_pat2 rfl rfl rfl HF.out.1) rfl ?_
          exact HF.out.2
        · have t1 : (s.toList == [103, 114, 105, 100]) = false := word_no (by rw [hs]; decide)
          have t2 : (s.toList == [98, 114, 105, 99, 107, 115]) = false := word_no (by rw [hs]; decide)
          have t3 : (s.toList == [115, 104, 105, 102, 116]) = false := word_no (by rw [hs]; decide)
          have t4 : (s.toList == [115, 119, 101, 108, 108]) = false := word_no (by rw [hs]; decide)
          have t5 := word_yes hs
          have HLE := Lib.hid (show ∀ w5, Below wr.heap.size wr w5 → Calls Tryz.prog 10 #[.agg #[.int .i64 X.a, .int .i64 X.b, .int .i64 X.c, .slice A0 lX k0]] w5 (OutP w5 P (.int .i64 Z)) from fun w5 hb5 => by
            rw [hPZ.1, hPZ.2, if_neg (by rw [hs]; decide), if_neg (by rw [hs]; decide), if_pos hs, hlX]
            exact pturn_any X hXl A0 k0 w5 (hXI5 w5 hb5))
          clear hr hv hl0 hl2 hPZ hno hLL hn hd hdw hs hnb hXI hXI5 HPZ HG HI H123 HL hX hp0X hval hXl hlX hg1 hg2 hbd hl1
          go_upto_region 20 with fail
          have hle := HLE.out wr (Below.refl _ _)
          go_wp2_with fail
          refine hle.mono ?_
          rintro e w7 ⟨v, rfl, hown, hb7⟩
          obtain ⟨A9, k9, rfl, -⟩ := hown.isL
          have hr7 := HE.out.r.keep hb7
          have HF := Lib.hid (put_ret hr7 (HE.out.b.trans (hb7.mono HE.out.b.size)) (by omega) P _ hown HE.out.b.size (by have := HE.out.W; omega))
          obtain ⟨l9, hl9⟩ : ∃ l9, l9 = P.xs.length := ⟨_, rfl⟩
          rw [← hl9] at HF ⊢
          obtain ⟨r0, r1, r2, r3, r4⟩ := hr7.cells
          have f0 : w7.frozen? ⟨w.heap.size + 1, 0, none⟩ = false := frozen_of_row w7 _ 0 _ _ hr7
          have f1 : w7.frozen? ⟨w.heap.size + 1, 1, none⟩ = false := frozen_of_row w7 _ 1 _ _ hr7
          have f2 : w7.frozen? ⟨w.heap.size + 1, 2, none⟩ = false := frozen_of_row w7 _ 2 _ _ hr7
          have f3 : w7.frozen? ⟨w.heap.size + 1, 3, none⟩ = false := frozen_of_row w7 _ 3 _ _ hr7
          clear hown hb7 hr7 hle hl9
          go_wp2
          refine bodyPost_ret (v := .tuple #[.agg #[.int .i64 P.a, .int .i64 P.b, .int .i64 P.c, .slice A9 l9 k9], .int .i64 Z]) (ret_pat2 rfl rfl rfl HF.out.1) rfl ?_
          exact ⟨_, rfl, HF.out.2⟩
        · have t1 : (s.toList == [103, 114, 105, 100]) = false := word_no (by rw [hs]; decide)
          have t2 : (s.toList == [98, 114, 105, 99, 107, 115]) = false := word_no (by rw [hs]; decide)
          have t3 : (s.toList == [115, 104, 105, 102, 116]) = false := word_no (by rw [hs]; decide)
          have t4 : (s.toList == [115, 119, 101, 108, 108]) = false := word_no (by rw [hs]; decide)
          have t5 : (s.toList == [116, 117, 114, 110]) = false := word_no (by rw [hs]; decide)
          have t6 := word_yes hs
          have HLE := Lib.hid (show ∀ w5, Below wr.heap.size wr w5 → Calls Tryz.prog 11 #[.agg #[.int .i64 X.a, .int .i64 X.b, .int .i64 X.c, .slice A0 lX k0]] w5 (OutP w5 P (.int .i64 Z)) from fun w5 hb5 => by
            rw [hPZ.1, hPZ.2, if_neg (by rw [hs]; decide), if_neg (by rw [hs]; decide), if_neg (by rw [hs]; decide), if_pos hs, hlX]
            exact pmirror_any X hXl A0 k0 w5 (hXI5 w5 hb5))
          clear hr hv hl0 hl2 hPZ hno hLL hn hd hdw hs hnb hXI hXI5 HPZ HG HI H123 HL hX hp0X hval hXl hlX hg1 hg2 hbd hl1
          go_upto_region 22 with fail
          have hle := HLE.out wr (Below.refl _ _)
          go_wp2_with fail
          refine hle.mono ?_
          rintro e w7 ⟨v, rfl, hown, hb7⟩
          obtain ⟨A9, k9, rfl, -⟩ := hown.isL
          have hr7 := HE.out.r.keep hb7
          have HF := Lib.hid (put_ret hr7 (HE.out.b.trans (hb7.mono HE.out.b.size)) (by omega) P _ hown HE.out.b.size (by have := HE.out.W; omega))
          obtain ⟨l9, hl9⟩ : ∃ l9, l9 = P.xs.length := ⟨_, rfl⟩
          rw [← hl9] at HF ⊢
          obtain ⟨r0, r1, r2, r3, r4⟩ := hr7.cells
          have f0 : w7.frozen? ⟨w.heap.size + 1, 0, none⟩ = false := frozen_of_row w7 _ 0 _ _ hr7
          have f1 : w7.frozen? ⟨w.heap.size + 1, 1, none⟩ = false := frozen_of_row w7 _ 1 _ _ hr7
          have f2 : w7.frozen? ⟨w.heap.size + 1, 2, none⟩ = false := frozen_of_row w7 _ 2 _ _ hr7
          have f3 : w7.frozen? ⟨w.heap.size + 1, 3, none⟩ = false := frozen_of_row w7 _ 3 _ _ hr7
          clear hown hb7 hr7 hle hl9
          go_wp2
          refine bodyPost_ret (v := .tuple #[.agg #[.int .i64 P.a, .int .i64 P.b, .int .i64 P.c, .slice A9 l9 k9], .int .i64 Z]) (ret_pat2 rfl rfl rfl HF.out.1) rfl ?_
          exact ⟨_, rfl, HF.out.2⟩
        · have t1 : (s.toList == [103, 114, 105, 100]) = false := word_no (by rw [hs]; decide)
          have t2 : (s.toList == [98, 114, 105, 99, 107, 115]) = false := word_no (by rw [hs]; decide)
          have t3 : (s.toList == [115, 104, 105, 102, 116]) = false := word_no (by rw [hs]; decide)
          have t4 : (s.toList == [115, 119, 101, 108, 108]) = false := word_no (by rw [hs]; decide)
          have t5 : (s.toList == [116, 117, 114, 110]) = false := word_no (by rw [hs]; decide)
          have t6 : (s.toList == [109, 105, 114, 114, 111, 114]) = false := word_no (by rw [hs]; decide)
          have t7 := word_yes hs
          have HLE := Lib.hid (show ∀ w5, Below wr.heap.size wr w5 → Calls Tryz.prog 64 #[.agg #[.int .i64 X.a, .int .i64 X.b, .int .i64 X.c, .slice A0 lX k0], .slice A2 l2 k2] w5 (OutP w5 P (.int .i64 Z)) from fun w5 hb5 => by
            have h := precolor_any X hXl d (by omega) A0 k0 A2 k2 w5 (hXI5 w5 hb5) (by have := hdw w5 hb5; rw [hl2] at this; exact this)
            rw [hPZ.1, hPZ.2, if_neg (by rw [hs]; decide), if_neg (by rw [hs]; decide), if_neg (by rw [hs]; decide), if_neg (by rw [hs]; decide), hlX, hl2]
            exact h)
          clear hr hv hl0 hl2 hPZ hno hLL hn hd hdw hs hnb hXI hXI5 HPZ HG HI H123 HL hX hp0X hval hXl hlX hg1 hg2 hbd hl1
          go_upto_region 24 with fail
          refine RP.region_treeP (C := fun w' => ∃ x : SubP (w.heap.size + 1) wr.heap.size wr, w' = x.val) (fun _ _ _ => False) [0, 1, 2, 3, 4] (.one 5 (.read 6 (.one 7 (.one 8 .nil)))) 9 (fun _ _ _ h => h.elim) (by kernel_rfl) (by kernel_rfl) (subp_start _ _ wr) ?_
          simp only [pickL, List.getElem?_cons_zero, List.getElem?_cons_succ]
          repeat (go_big_quiet_step (fail))
          refine wpQuiet_nil ?_
          obtain ⟨w5, hw5⟩ : ∃ w5 : World, w5 = { wr with drawn := wr.drawn + 1 } := ⟨_, rfl⟩
          have hb5 : Below wr.heap.size wr w5 := by rw [hw5]; exact (Below.refl _ _).drew
          rw [← hw5]
          have hle := HLE.out w5 hb5
          simp only [RP.treeS, atOp, List.getElem?_cons_zero, List.getElem?_cons_succ]
          refine ⟨subp_low (grown_of hb5 _) (Nat.le_refl _), ?_⟩
          refine RP.p_call 64 #[.agg #[.int .i64 X.a, .int .i64 X.b, .int .i64 X.c, .slice A0 lX k0], .slice A2 l2 k2] rfl (by go_simp) ?_
          refine hle.mono ?_
          rintro e w7 ⟨v, rfl, hown, hb7⟩
          refine .inl ⟨_, rfl, ?_⟩
          have hb7' := hb5.trans (hb7.mono hb5.size)
          refine ⟨subp_low (grown_of hb7' _) (Nat.le_refl _), ?_⟩
          obtain ⟨A9, k9, rfl, -⟩ := hown.isL
          have hr7 := HE.out.r.keep hb7'
          have HF := Lib.hid (put_row (w := w) hr7 (HE.out.b.trans (hb7'.mono HE.out.b.size)) (by omega) P A9 k9 (.int .i64 Z) hown (Nat.le_trans HE.out.b.size hb5.size) (by have := hb5.size; have := HE.out.W; omega))
          obtain ⟨l9, hl9⟩ : ∃ l9, l9 = P.xs.length := ⟨_, rfl⟩
          rw [← hl9] at HF ⊢
          have hgr := row_grown w7 (w.heap.size + 1) #[.int .i64 P.a, .int .i64 P.b, .int .i64 P.c, .slice A9 l9 k9]
          refine ⟨_, s_read (.agg #[.int .i64 P.a, .int .i64 P.b, .int .i64 P.c, .slice A9 l9 k9]) rfl (fun w _ => by go_simp), subp_low (grown_of hb7' _) (Nat.le_refl _), ?_⟩
          refine RP.p_val (.int .i64 Z) w7 rfl (by go_simp) ?_
          refine ⟨subp_low (grown_of hb7' _) (Nat.le_refl _), ?_⟩
          have hC8 := subp_low (grown_then (grown_of hb7' (some (w.heap.size + 1))) hgr) (Nat.le_refl _)
          refine RP.p_skip (w7.setRow (w.heap.size + 1) #[.int .i64 P.a, .int .i64 P.b, .int .i64 P.c, .slice A9 l9 k9]) rfl (st_pat_run (.tmp 2) (.tmp 129) rfl hr7 P.a P.b P.c A9 l9 k9 (by go_simp) (by go_simp)) ?_
          obtain ⟨w8, hw8⟩ : ∃ w8, w8 = w7.setRow (w.heap.size + 1) #[.int .i64 P.a, .int .i64 P.b, .int .i64 P.c, .slice A9 l9 k9] := ⟨_, rfl⟩
          rw [← hw8] at HF hC8 ⊢
          clear hw8 hgr hr7 hown hb7 hb7' hb5 hle hl9
          refine ⟨hC8, ?_⟩
          refine RP.p_assign _ rfl rfl (.int .i64 Z) (by go_simp) ?_
          go_simp
          go_wp2
          refine bodyPost_ret (v := .tuple #[.agg #[.int .i64 P.a, .int .i64 P.b, .int .i64 P.c, .slice A9 l9 k9], .int .i64 Z]) (ret_pat2 rfl rfl rfl HF.out.1) rfl ?_
          exact HF.out.2
      · subst h0
        obtain ⟨e1, e2, rfl⟩ : ∃ e1 e2, es = [e1, e2] := two_of hl0.symm
        obtain ⟨p0, p1, rfl⟩ : ∃ p0 p1, L = [p0, p1] := by
          have := congrArg List.length hLL
          rw [List.length_map] at this
          exact two_of this
        have hpX : p0.1 = (valX e1).1 ∧ p1.1 = (valX e2).1 := by simpa using hLL
        obtain ⟨gp, cg, A0, k0, hu4, hg1, hg2, -, hXI, x0, x1, x2, x3⟩ := hv.o.get 0 (by simp)
        obtain ⟨gp', cg', A5, k5, hu5, -, -, -, hYI, y0, y1, y2, y3⟩ := hv.o.get 1 (by simp)
        rw [hu4] at hu5
        cases hu5
        simp only [List.getElem_cons_zero, List.getElem_cons_succ, Nat.zero_mul, Nat.one_mul, Nat.zero_add, Nat.reduceAdd, List.length_cons, List.length_nil] at hu4 hXI hYI x0 x1 x2 x3 y0 y1 y2 y3
        obtain ⟨X, hX⟩ : ∃ X, X = p0.1 := ⟨_, rfl⟩
        obtain ⟨Y, hY⟩ : ∃ Y, Y = p1.1 := ⟨_, rfl⟩
        rw [← hX] at hXI x0 x1 x2 x3
        rw [← hY] at hYI y0 y1 y2 y3
        have hXl : X.xs.length ≤ 1000000 := by rw [hX, hpX.1]; have := valX_len e1; omega
        have hYl : Y.xs.length ≤ 1000000 := by rw [hY, hpX.2]; have := valX_len e2; omega
        have hXI5 : ∀ w5, Below wr.heap.size wr w5 → PatIn w5 X A0 ∧ PatIn w5 Y A5 := fun w5 hb5 => ⟨IsL.below hb5 hXI, IsL.below hb5 hYI⟩
        have hval : valX (mkE s n d [e1, e2]) = (oveT X Y, oveZ X Y) := by
          simp only [mkE, valX]
          rw [if_pos (hno e1 (by simp)), if_pos (hno e2 (by simp)), hX, hY, hpX.1, hpX.2]
        rw [hval] at hPZ
        obtain ⟨lX, hlX⟩ : ∃ lX, lX = X.xs.length := ⟨_, rfl⟩
        obtain ⟨lY, hlY⟩ : ∃ lY, lY = Y.xs.length := ⟨_, rfl⟩
        rw [← hlX] at x3
        rw [← hlY] at y3
        have hgw := hv.W.1
        have hgp : gp < wr.heap.size ∧ gp ≠ w.heap.size + 1 := ⟨hg1, by omega⟩
        obtain ⟨hgp1, hgp2⟩ := hgp
        subst hu4
        have t1 : (s.toList == [103, 114, 105, 100]) = false := word_no (by rw [hs]; decide)
        have t2 : (s.toList == [98, 114, 105, 99, 107, 115]) = false := word_no (by rw [hs]; decide)
        have t3 : (s.toList == [115, 104, 105, 102, 116]) = false := word_no (by rw [hs]; decide)
        have t4 : (s.toList == [115, 119, 101, 108, 108]) = false := word_no (by rw [hs]; decide)
        have t5 : (s.toList == [116, 117, 114, 110]) = false := word_no (by rw [hs]; decide)
        have t6 : (s.toList == [109, 105, 114, 114, 111, 114]) = false := word_no (by rw [hs]; decide)
        have t7 : (s.toList == [114, 101, 99, 111, 108, 111, 114]) = false := word_no (by rw [hs]; decide)
        have HLE := Lib.hid (show ∀ w5, Below wr.heap.size wr w5 → Calls Tryz.prog 12 #[.agg #[.int .i64 X.a, .int .i64 X.b, .int .i64 X.c, .slice A0 lX k0], .agg #[.int .i64 Y.a, .int .i64 Y.b, .int .i64 Y.c, .slice A5 lY k5]] w5 (OutP w5 P (.int .i64 Z)) from fun w5 hb5 => by
          rw [hPZ.1, hPZ.2, hlX, hlY]
          exact pover_any X Y hXl hYl A0 k0 A5 k5 w5 (hXI5 w5 hb5).1 (hXI5 w5 hb5).2)
        clear hr hv hl0 hl1 hl2 hPZ hno hLL hn hd hs hnb hXI hYI hXI5 HPZ HG HI H123 HL hX hY hpX hval hXl hYl hlX hlY hg1 hg2 hbd
        go_upto_region 25 with fail
        refine RP.region_treeP (C := fun w' => ∃ x : SubP (w.heap.size + 1) wr.heap.size wr, w' = x.val) (fun _ _ _ => False) [0, 1, 2, 3, 4, 5] (.one 6 (.read 7 (.one 8 (.one 9 .nil)))) 10 (fun _ _ _ h => h.elim) (by kernel_rfl) (by kernel_rfl) (subp_start _ _ wr) ?_
        simp only [pickL, List.getElem?_cons_zero, List.getElem?_cons_succ]
        repeat (go_big_quiet_step (fail))
        refine wpQuiet_nil ?_
        obtain ⟨w5, hw5⟩ : ∃ w5 : World, w5 = { wr with drawn := wr.drawn + 1 } := ⟨_, rfl⟩
        have hb5 : Below wr.heap.size wr w5 := by rw [hw5]; exact (Below.refl _ _).drew
        rw [← hw5]
        have hle := HLE.out w5 hb5
        simp only [RP.treeS, atOp, List.getElem?_cons_zero, List.getElem?_cons_succ]
        refine ⟨subp_low (grown_of hb5 _) (Nat.le_refl _), ?_⟩
        refine RP.p_call 12 #[.agg #[.int .i64 X.a, .int .i64 X.b, .int .i64 X.c, .slice A0 lX k0], .agg #[.int .i64 Y.a, .int .i64 Y.b, .int .i64 Y.c, .slice A5 lY k5]] rfl (by go_simp) ?_
        refine hle.mono ?_
        rintro e w7 ⟨v, rfl, hown, hb7⟩
        refine .inl ⟨_, rfl, ?_⟩
        have hb7' := hb5.trans (hb7.mono hb5.size)
        refine ⟨subp_low (grown_of hb7' _) (Nat.le_refl _), ?_⟩
        obtain ⟨A9, k9, rfl, -⟩ := hown.isL
        have hr7 := HE.out.r.keep hb7'
        have HF := Lib.hid (put_row (w := w) hr7 (HE.out.b.trans (hb7'.mono HE.out.b.size)) (by omega) P A9 k9 (.int .i64 Z) hown (Nat.le_trans HE.out.b.size hb5.size) (by have := hb5.size; have := HE.out.W; omega))
        obtain ⟨l9, hl9⟩ : ∃ l9, l9 = P.xs.length := ⟨_, rfl⟩
        rw [← hl9] at HF ⊢
        have hgr := row_grown w7 (w.heap.size + 1) #[.int .i64 P.a, .int .i64 P.b, .int .i64 P.c, .slice A9 l9 k9]
        refine ⟨_, s_read (.agg #[.int .i64 P.a, .int .i64 P.b, .int .i64 P.c, .slice A9 l9 k9]) rfl (fun w _ => by go_simp), subp_low (grown_of hb7' _) (Nat.le_refl _), ?_⟩
        refine RP.p_val (.int .i64 Z) w7 rfl (by go_simp) ?_
        refine ⟨subp_low (grown_of hb7' _) (Nat.le_refl _), ?_⟩
        have hC8 := subp_low (grown_then (grown_of hb7' (some (w.heap.size + 1))) hgr) (Nat.le_refl _)
        refine RP.p_skip (w7.setRow (w.heap.size + 1) #[.int .i64 P.a, .int .i64 P.b, .int .i64 P.c, .slice A9 l9 k9]) rfl (st_pat_run (.tmp 2) (.tmp 138) rfl hr7 P.a P.b P.c A9 l9 k9 (by go_simp) (by go_simp)) ?_
        obtain ⟨w8, hw8⟩ : ∃ w8, w8 = w7.setRow (w.heap.size + 1) #[.int .i64 P.a, .int .i64 P.b, .int .i64 P.c, .slice A9 l9 k9] := ⟨_, rfl⟩
        rw [← hw8] at HF hC8 ⊢
        clear hw8 hgr hr7 hown hb7 hb7' hb5 hle hl9
        refine ⟨hC8, ?_⟩
        refine RP.p_assign _ rfl rfl (.int .i64 Z) (by go_simp) ?_
        go_simp
        go_wp2
        refine bodyPost_ret (v := .tuple #[.agg #[.int .i64 P.a, .int .i64 P.b, .int .i64 P.c, .slice A9 l9 k9], .int .i64 Z]) (ret_pat2 rfl rfl rfl HF.out.1) rfl ?_
        exact HF.out.2
/-- The value of an expression in memory. -/
theorem value_any (x : ExprD) : GoodE x → ∀ (v : Value) (w : World), RdE w (fun _ => True) x v → Calls Tryz.prog 25 #[v] w (OutP w (valX x).1 (.int .i64 (valX x).2)) := by
  induction x with
  | leaf s n d =>
    intro hg v w h
    obtain ⟨s', n', d', nv, dv, A, c, e, rfl, h1, h2, h3⟩ := rdE_parts _ _ h
    cases e
    exact value_step s n d [] (by simp) hg (by simp) nv dv A c w h1 h2 h3
  | one s n d e1 ih =>
    intro hg v w h
    obtain ⟨s', n', d', nv, dv, A, c, e, rfl, h1, h2, h3⟩ := rdE_parts _ _ h
    cases e
    refine value_step s n d [e1] (by simp) hg.1 (fun e he v' w' h' => ?_) nv dv A c w h1 h2 h3
    have e0 := List.mem_singleton.1 he
    rw [e0] at h' ⊢
    exact ih hg.2 v' w' h'
  | two s n d e1 e2 ih1 ih2 =>
    intro hg v w h
    obtain ⟨s', n', d', nv, dv, A, c, e, rfl, h1, h2, h3⟩ := rdE_parts _ _ h
    cases e
    refine value_step s n d [e1, e2] (by simp) hg.1 (fun e he v' w' h' => ?_) nv dv A c w h1 h2 h3
    rcases List.mem_cons.1 he with e0 | he
    · rw [e0] at h' ⊢
      exact ih1 hg.2.1 v' w' h'
    · have e0 := List.mem_singleton.1 he
      rw [e0] at h' ⊢
      exact ih2 hg.2.2 v' w' h'
end Go.Proofs.YtlinldbbhdpgcaaGreatDoor
/-
  THE PROGRAM's Parse, of any text.
-/
namespace Go.Proofs.YtlinldbbhdpgcaaGreatDoor
open Go.RowKit
theorem words_mod (s : ByteArray) (hs : s.size ≤ 10000) : Mod (wordsS s) := by
  have h1 : (wordsS s).length = Lib.countB s ⟨#[32]⟩ + 1 := Lib.splitB_all ⟨#[32]⟩ (by decide) 0 _ s rfl
  have h2 := Lib.countB_le ⟨#[32]⟩ (by decide) _ s (Nat.le_refl _)
  exact ⟨by omega, fun x hx => Nat.le_trans (split_size _ _ _ _ hx) hs⟩
/-- The pattern that a text is, or the error. -/
noncomputable def prsT (s : ByteArray) : PatD × Int := if 4000 < s.size then (zeroP, 4) else match exprO 12 (wordsS s) with
  | some (x, []) => valX x
  | _ => (zeroP, 3)
theorem prsT_big {s : ByteArray} (h : 4000 < s.size) : prsT s = (zeroP, 4) := by unfold prsT; rw [if_pos h]
theorem prsT_yes {s : ByteArray} (h : ¬ 4000 < s.size) {x : ExprD} (hx : exprO 12 (wordsS s) = some (x, [])) : prsT s = valX x := by unfold prsT; rw [if_neg h, hx]
theorem prsT_no {s : ByteArray} (h : ¬ 4000 < s.size) (hx : ∀ x, exprO 12 (wordsS s) ≠ some (x, [])) : prsT s = (zeroP, 3) := by
  unfold prsT
  rw [if_neg h]
  split
  · rename_i x h1; exact absurd h1 (hx x)
  · rfl
theorem prsT_len (s : ByteArray) : (prsT s).1.xs.length ≤ 144 := by
  unfold prsT
  split
  · exact zero_len
  · split
    · exact valX_len _
    · exact zero_len
set_option maxRecDepth 100000 in
set_option maxHeartbeats 2000000 in
theorem pparse_any (s : ByteArray) (hs : s.size ≤ 10000) (w : World) (hw : LibOK w) :
    Calls Tryz.prog 6 #[.string s] w (OutP w (prsT s).1 (.int .i64 (prsT s).2)) := by
  have HPA := Lib.hid (parse_any s hs)
  have HMO := Lib.hid (words_mod s hs)
  obtain ⟨P, hP⟩ : ∃ P, P = (prsT s).1 := ⟨_, rfl⟩
  obtain ⟨Z, hZ⟩ : ∃ Z, Z = (prsT s).2 := ⟨_, rfl⟩
  rw [← hP, ← hZ]
  have HPZ := Lib.hid (And.intro hP hZ)
  have HW := Lib.hid hw
  clear hP hZ hw
  by_cases hbig : 4000 < s.size
  · have HB := Lib.hid (show P = zeroP ∧ Z = 4 by rw [HPZ.out.1, HPZ.out.2, prsT_big hbig]; exact ⟨rfl, rfl⟩)
    have HP := Lib.hid (put_zero (w := w) (PBox.new w 0 0 0 (.slice none 0 0)) (show Below w.heap.size w (w.alloc (.cells #[.int .i64 0, .int .i64 0, .int .i64 0, .slice none 0 0] 24)) from (by repeat' (first | (with_reducible exact Below.refl _ _) | (with_reducible assumption) | (with_reducible refine below_drewN ?_ _) | (with_reducible refine below_step (by assumption) ?_ ?_) | (with_reducible refine Below.alloc ?_ ?_ _) | (with_reducible refine Below.setCell ?_ ?_ _) | (with_reducible refine Below.drew ?_) | go_size | (exact Below.size (by assumption)) | (refine Nat.le_trans (Below.size (by assumption)) ?_)))) (Nat.le_refl _))
    clear HPA HMO HPZ HW
    go_enter Tryz.func6, Tryz.ntmps6
    go_upto_region 1 with fail
    have hr0 : PBox (w.alloc (.cells #[.int .i64 0, .int .i64 0, .int .i64 0, .slice none 0 0] 24)) w.heap.size 0 0 0 (.slice none 0 0) := PBox.new w _ _ _ _
    obtain ⟨W, hW⟩ : ∃ W, W = w.alloc (.cells #[.int .i64 0, .int .i64 0, .int .i64 0, .slice none 0 0] 24) := ⟨_, rfl⟩
    rw [← hW] at hr0 HP ⊢
    clear hW
    obtain ⟨r0, r1, r2, r3, r4⟩ := PBox.cells hr0
    have f0 : (W).frozen? ⟨w.heap.size, 0, none⟩ = false := frozen_of_row (W) (w.heap.size) 0 _ _ hr0
    have f1 : (W).frozen? ⟨w.heap.size, 1, none⟩ = false := frozen_of_row (W) (w.heap.size) 1 _ _ hr0
    have f2 : (W).frozen? ⟨w.heap.size, 2, none⟩ = false := frozen_of_row (W) (w.heap.size) 2 _ _ hr0
    have f3 : (W).frozen? ⟨w.heap.size, 3, none⟩ = false := frozen_of_row (W) (w.heap.size) 3 _ _ hr0
    go_wp2
    refine bodyPost_ret (v := .tuple #[.agg #[.int .i64 0, .int .i64 0, .int .i64 0, .slice none 0 0], .int .i64 4]) (ret_pat2 rfl rfl rfl HP.out.1) rfl ?_
    rw [HB.out.1, HB.out.2]
    exact OutP.zero HP.out.2
  · have HB := Lib.hid hbig
    go_enter Tryz.func6, Tryz.ntmps6
    go_wp2_with fail
    have hr0 : PBox (w.alloc (.cells #[.int .i64 0, .int .i64 0, .int .i64 0, .slice none 0 0] 24)) w.heap.size 0 0 0 (.slice none 0 0) := PBox.new w _ _ _ _
    have hb0 : Below w.heap.size w (w.alloc (.cells #[.int .i64 0, .int .i64 0, .int .i64 0, .slice none 0 0] 24)) := (by repeat' (first | (with_reducible exact Below.refl _ _) | (with_reducible assumption) | (with_reducible refine below_drewN ?_ _) | (with_reducible refine below_step (by assumption) ?_ ?_) | (with_reducible refine Below.alloc ?_ ?_ _) | (with_reducible refine Below.setCell ?_ ?_ _) | (with_reducible refine Below.drew ?_) | go_size | (exact Below.size (by assumption)) | (refine Nat.le_trans (Below.size (by assumption)) ?_)))
    obtain ⟨W, hW⟩ : ∃ W, W = w.alloc (.cells #[.int .i64 0, .int .i64 0, .int .i64 0, .slice none 0 0] 24) := ⟨_, rfl⟩
    rw [← hW] at hr0 hb0 ⊢
    have hpa := HPA.out W (HW.out.below hb0)
    have H0 := Lib.hid (And.intro hr0 hb0)
    clear hr0 hb0 hW HPA
    refine hpa.mono ?_
    rintro e w1 ⟨⟨v, b, rfl, hres⟩, hb1⟩
    have H1 := Lib.hid (And.intro (H0.out.1.keep hb1) (H0.out.2.trans (hb1.mono H0.out.2.size)))
    cases b with
    | false =>
      have hno : (∀ x, exprO 12 (wordsS s) ≠ some (x, [])) ∧ ∃ s' A1 l1 c1 A2 l2 c2 A3 l3 c3, v = .agg #[.string s', .slice A1 l1 c1, .slice A2 l2 c2, .slice A3 l3 c3] := by
        rcases ho : exprO 12 (wordsS s) with _ | ⟨x, r⟩
        · rw [ho] at hres; exact ⟨(fun x e => by cases e), hres.2⟩
        · cases r with
          | nil => rw [ho] at hres; exact absurd hres.1 (by decide)
          | cons t r => rw [ho] at hres; exact ⟨(fun x e => by cases e), hres.2⟩
      have HB2 := Lib.hid (show P = zeroP ∧ Z = 3 by rw [HPZ.out.1, HPZ.out.2, prsT_no HB.out hno.1]; exact ⟨rfl, rfl⟩)
      obtain ⟨-, s', A1, l1, c1, A2, l2, c2, A3, l3, c3, rfl⟩ := hno
      clear hres hb1 hpa H0 HPZ HMO HW
      go_upto_region 4 with fail
      have hb2 := below_new w1 (.cells #[.string s', .slice A1 l1 c1, .slice A2 l2 c2, .slice A3 l3 c3] 52)
      obtain ⟨w2, hw2⟩ : ∃ w2, w2 = w1.alloc (.cells #[.string s', .slice A1 l1 c1, .slice A2 l2 c2, .slice A3 l3 c3] 52) := ⟨_, rfl⟩
      rw [← hw2] at hb2 ⊢
      have hr2 := H1.out.1.keep hb2
      have HP := Lib.hid (put_zero (w := w) hr2 (H1.out.2.trans (hb2.mono H1.out.2.size)) (Nat.le_refl _))
      obtain ⟨r0, r1, r2, r3, r4⟩ := PBox.cells hr2
      have f0 : (w2).frozen? ⟨w.heap.size, 0, none⟩ = false := frozen_of_row (w2) (w.heap.size) 0 _ _ hr2
      have f1 : (w2).frozen? ⟨w.heap.size, 1, none⟩ = false := frozen_of_row (w2) (w.heap.size) 1 _ _ hr2
      have f2 : (w2).frozen? ⟨w.heap.size, 2, none⟩ = false := frozen_of_row (w2) (w.heap.size) 2 _ _ hr2
      have f3 : (w2).frozen? ⟨w.heap.size, 3, none⟩ = false := frozen_of_row (w2) (w.heap.size) 3 _ _ hr2
      clear hw2 hb2 H1 hr2
      go_wp2
      refine bodyPost_ret (v := .tuple #[.agg #[.int .i64 0, .int .i64 0, .int .i64 0, .slice none 0 0], .int .i64 3]) (ret_pat2 rfl rfl rfl HP.out.1) rfl ?_
      rw [HB2.out.1, HB2.out.2]
      exact OutP.zero HP.out.2
    | true =>
      obtain ⟨x, hx, hrd⟩ : ∃ x, exprO 12 (wordsS s) = some (x, []) ∧ RdE w1 (fun b => W.heap.size ≤ b) x v := by
        rcases ho : exprO 12 (wordsS s) with _ | ⟨x, r⟩
        · rw [ho] at hres; exact absurd hres.1 (by decide)
        · cases r with
          | nil => rw [ho] at hres; exact ⟨x, rfl, hres.2⟩
          | cons t r => rw [ho] at hres; exact absurd hres.1 (by decide)
      have HV := Lib.hid (show P = (valX x).1 ∧ Z = (valX x).2 ∧ GoodE x by rw [HPZ.out.1, HPZ.out.2, prsT_yes HB.out hx]; exact ⟨rfl, rfl, exprO_good 12 _ _ _ HMO.out hx⟩)
      obtain ⟨s', A1, l1, c1, A2, l2, c2, A3, l3, c3, rfl⟩ := RdE.agg2 hrd
      have HRD := Lib.hid hrd
      clear hres hb1 hpa H0 HPZ HMO HW hrd hx
      go_upto_region 6 with fail
      have hb2 := below_new w1 (.cells #[.string s', .slice A1 l1 c1, .slice A2 l2 c2, .slice A3 l3 c3] 52)
      have hx2 : EBox (w1.alloc (.cells #[.string s', .slice A1 l1 c1, .slice A2 l2 c2, .slice A3 l3 c3] 52)) w1.heap.size s' (.slice A1 l1 c1) (.slice A2 l2 c2) (.slice A3 l3 c3) := EBox.new w1 _ _ _ _
      obtain ⟨w2, hw2⟩ : ∃ w2, w2 = w1.alloc (.cells #[.string s', .slice A1 l1 c1, .slice A2 l2 c2, .slice A3 l3 c3] 52) := ⟨_, rfl⟩
      rw [← hw2] at hb2 hx2 ⊢
      have hval := value_any x HV.out.2.2 (.agg #[.string s', .slice A1 l1 c1, .slice A2 l2 c2, .slice A3 l3 c3]) w2 (RdE.kept hb2.size (fun b _ hlt => hb2.block b hlt) (fun _ _ _ => trivial) _ _ HRD.out)
      rw [← HV.out.1, ← HV.out.2.1] at hval
      have H2 := Lib.hid (And.intro (H1.out.1.keep hb2) (H1.out.2.trans (hb2.mono H1.out.2.size)))
      obtain ⟨q0, q1, q2, q3, q4⟩ := hx2.cells
      obtain ⟨xb, hxb⟩ : ∃ xb, xb = w1.heap.size := ⟨_, rfl⟩
      rw [← hxb] at q0 q1 q2 q3 q4 ⊢
      clear hw2 hb2 hx2 H1 HRD hxb
      go_wp2_with fail
      refine hval.mono ?_
      rintro e w7 ⟨v, rfl, hown, hb7⟩
      obtain ⟨A9, k9, rfl, -⟩ := hown.isL
      have hr7 := H2.out.1.keep hb7
      have HF := Lib.hid (put_ret hr7 (H2.out.2.trans (hb7.mono H2.out.2.size)) (Nat.le_refl _) P _ hown H2.out.2.size (Array.getElem?_eq_some_iff.1 H2.out.1).1)
      obtain ⟨l9, hl9⟩ : ∃ l9, l9 = P.xs.length := ⟨_, rfl⟩
      rw [← hl9] at HF ⊢
      obtain ⟨r0, r1, r2, r3, r4⟩ := PBox.cells hr7
      have f0 : (w7).frozen? ⟨w.heap.size, 0, none⟩ = false := frozen_of_row (w7) (w.heap.size) 0 _ _ hr7
      have f1 : (w7).frozen? ⟨w.heap.size, 1, none⟩ = false := frozen_of_row (w7) (w.heap.size) 1 _ _ hr7
      have f2 : (w7).frozen? ⟨w.heap.size, 2, none⟩ = false := frozen_of_row (w7) (w.heap.size) 2 _ _ hr7
      have f3 : (w7).frozen? ⟨w.heap.size, 3, none⟩ = false := frozen_of_row (w7) (w.heap.size) 3 _ _ hr7
      clear hown hb7 hr7 hval hl9 q0 q1 q2 q3 q4
      go_wp2
      refine bodyPost_ret (v := .tuple #[.agg #[.int .i64 P.a, .int .i64 P.b, .int .i64 P.c, .slice A9 l9 k9], .int .i64 Z]) (ret_pat2 rfl rfl rfl HF.out.1) rfl ?_
      exact ⟨_, rfl, HF.out.2⟩
end Go.Proofs.YtlinldbbhdpgcaaGreatDoor
