/-
  THE PROGRAM's PARSER: the value of a leaf; Parse.
-/
import Derived.Test.YtgmokojdlbdjeaaGreatDoorParI
import Derived.Test.YtgmokojdlbdjeaaGreatDoorPatL
namespace Go.Proofs.YtgmokojdlbdjeaaGreatDoor
open Go.RowKit
attribute [local go_sem] sub_cell sub_frozen
attribute [local irreducible] RP.plainUpon RP.stepC
theorem RdL.isL {w : World} {N : Nat → Prop} {v : Value} {n : List Int} (h : RdL w N v n) : ∃ A c, v = .slice A n.length c ∧ IsL w A n.length n := by
  obtain ⟨A, c, rfl, h2⟩ := h
  refine ⟨A, c, rfl, rfl, fun hp => ?_⟩
  obtain ⟨b, o, rfl, hb, -, hc⟩ := h2 hp
  exact ⟨b, o, rfl, hb, fun i hi => hc i hi⟩
set_option maxRecDepth 100000 in
set_option maxHeartbeats 2000000 in
theorem value_bricks (n0 n1 n2 : Int) (d : List Int) (h0 : 0 < n0) (h0' : n0 ≤ 100000) (h2 : -100000 ≤ n2) (h2' : n2 ≤ 100000) (hdl : d.length ≤ 1000000) (a1 b1 c1 : Int) (hLO : LeastOf ⟨n0, n2 % n0, n1, d⟩ a1 b1 c1) (A1 : Option Addr) (k1 : Nat) (A2 : Option Addr) (k2 : Nat) (w : World) (hn : IsL w A1 3 [n0, n1, n2]) (hd : IsL w A2 d.length d) :
    Calls Tryz.prog 81 #[.agg #[.string (txt [98, 114, 105, 99, 107, 115]), .slice A1 3 k1, .slice A2 d.length k2, .slice none 0 0]] w (OutP w (leastO ⟨n0, n2 % n0, n1, d⟩ a1 b1 c1) (.int .i64 (valP ⟨n0, n2 % n0, n1, d⟩))) := by
  obtain ⟨l, hl⟩ : ∃ l, l = d.length := ⟨_, rfl⟩
  have hd' := hd
  rw [← hl] at hd' ⊢
  obtain ⟨s, hs⟩ : ∃ s, s = txt [98, 114, 105, 99, 107, 115] := ⟨_, rfl⟩
  rw [← hs]
  have t1 : (s.toList == [103, 114, 105, 100]) = false := word_no (by rw [hs]; decide)
  have t2 : (s.toList == [98, 114, 105, 99, 107, 115]) = true := word_yes hs
  obtain ⟨bn, on, rfl, hbn, hcn⟩ := hn.2 (by omega)
  have y0 := hcn 0 (by omega)
  have y1 := hcn 1 (by omega)
  have y2 := hcn 2 (by omega)
  simp only [List.getD_cons_zero, List.getD_cons_succ, Nat.add_zero] at y0 y1 y2
  obtain ⟨P, hP⟩ : ∃ P : PatD, P = ⟨n0, n2 % n0, n1, d⟩ := ⟨_, rfl⟩
  rw [← hP] at hLO ⊢
  have HLE := Lib.hid (fun (A : Option Addr) (cap : Nat) (w : World) (hi : PatIn w P A) => least_any P (by rw [hP]; exact hdl) a1 b1 c1 hLO A cap w hi)
  have HPI := Lib.hid (And.intro hP (And.intro hl hd))
  have HMO := Lib.hid (pmod_any n2 n0 h0 (by omega) (by omega) (by omega))
  clear hd hd' hs hn hcn hLO hP hl
  go_enter Tryz.func81, Tryz.ntmps81
  go_wp2
  have hx0 : EBox ((w.alloc (.cells #[.string s, .slice (some ⟨bn, on, none⟩) 3 k1, .slice A2 l k2, .slice none 0 0] 78)).alloc (.cells #[.int .i64 0, .int .i64 0, .int .i64 0, .slice none 0 0] 24)) w.heap.size s (.slice (some ⟨bn, on, none⟩) 3 k1) (.slice A2 l k2) (.slice none 0 0) := (heap_alloc_old _ _ (by simp)).trans (heap_alloc_new w _)
  have hr0 : PBox ((w.alloc (.cells #[.string s, .slice (some ⟨bn, on, none⟩) 3 k1, .slice A2 l k2, .slice none 0 0] 78)).alloc (.cells #[.int .i64 0, .int .i64 0, .int .i64 0, .slice none 0 0] 24)) (w.heap.size + 1) 0 0 0 (.slice none 0 0) := by
    have := heap_alloc_new (w.alloc (.cells #[.string s, .slice (some ⟨bn, on, none⟩) 3 k1, .slice A2 l k2, .slice none 0 0] 78)) (.cells #[.int .i64 0, .int .i64 0, .int .i64 0, .slice none 0 0] 24)
    unfold PBox
    simpa using this
  have hb0 : Below w.heap.size w ((w.alloc (.cells #[.string s, .slice (some ⟨bn, on, none⟩) 3 k1, .slice A2 l k2, .slice none 0 0] 78)).alloc (.cells #[.int .i64 0, .int .i64 0, .int .i64 0, .slice none 0 0] 24)) := (by repeat' (first | (with_reducible exact Below.refl _ _) | (with_reducible assumption) | (with_reducible refine below_drewN ?_ _) | (with_reducible refine below_step (by assumption) ?_ ?_) | (with_reducible refine Below.alloc ?_ ?_ _) | (with_reducible refine Below.setCell ?_ ?_ _) | (with_reducible refine Below.drew ?_) | go_size | (exact Below.size (by assumption)) | (refine Nat.le_trans (Below.size (by assumption)) ?_)))
  obtain ⟨W, hW⟩ : ∃ W, W = (w.alloc (.cells #[.string s, .slice (some ⟨bn, on, none⟩) 3 k1, .slice A2 l k2, .slice none 0 0] 78)).alloc (.cells #[.int .i64 0, .int .i64 0, .int .i64 0, .slice none 0 0] 24) := ⟨_, rfl⟩
  rw [← hW] at hx0 hr0 hb0 ⊢
  have H0 := Lib.hid (And.intro hx0 (And.intro hr0 hb0))
  have y0 := (hb0.cell (p := ⟨bn, on, none⟩) hbn).trans y0
  have y1 := (hb0.cell (p := ⟨bn, on + 1, none⟩) hbn).trans y1
  have y2 := (hb0.cell (p := ⟨bn, on + 2, none⟩) hbn).trans y2
  obtain ⟨q0, q1, q2, q3, q4⟩ := hx0.cells
  have hbn2 : bn < w.heap.size + 1 := by omega
  have hq5 : w.heap.size < w.heap.size + 1 := by omega
  clear hx0 hr0 hb0 hW
  go_loopw [12] (fun t wr => t = .int .i64 0 ∧ wr = W) (fun _ _ => 0)
  case atStart => exact ⟨rfl, rfl⟩
  case round =>
    obtain ⟨rfl, rfl⟩ := hrel
    go_upto_region 14 with fail
    refine RP.region_treeP (C := fun w' => ∃ x : SubW (w.heap.size + 1) wr, w' = x.val) (fun _ _ _ => False) [0, 1, 2, 3, 4, 5, 6, 7, 8, 9, 10, 11, 13, 14, 15, 16, 17, 18] (.one 12 (.one 19 (.one 20 (.read 21 (.one 22 (.one 23 .nil)))))) 24 (fun _ _ _ h => h.elim) (by kernel_rfl) (by kernel_rfl) (sub_start _ wr) ?_
    simp only [pickL, List.getElem?_cons_zero, List.getElem?_cons_succ]
    repeat (go_big_quiet_step (fail))
    refine wpQuiet_nil ?_
    obtain ⟨w5, hw5⟩ : ∃ w5 : World, w5 = { wr with drawn := wr.drawn + 1 } := ⟨_, rfl⟩
    have hb5 : Below wr.heap.size wr w5 := by rw [hw5]; exact (Below.refl _ _).drew
    rw [← hw5]
    have hsz : w.heap.size + 1 < wr.heap.size := (Array.getElem?_eq_some_iff.1 H0.out.2.1).1
    clear q0 q1 q2 q3 q4 y0 y1 y2 hw5
    simp only [RP.treeS, atOp, List.getElem?_cons_zero, List.getElem?_cons_succ]
    refine ⟨sub_of (hb5.mono (by omega)), ?_⟩
    refine RP.p_call 65 #[.int .i64 n2, .int .i64 n0] rfl (by go_simp) ?_
    refine (HMO.out w5).mono ?_
    rintro e w6 ⟨rfl, rfl⟩
    refine .inl ⟨_, rfl, ?_⟩
    refine ⟨sub_of (hb5.mono (by omega)), ?_⟩
    refine RP.p_val (.agg #[.int .i64 n0, .int .i64 (n2 % n0), .int .i64 n1, .slice A2 l k2]) w5 rfl (by go_simp) ?_
    refine ⟨sub_of (hb5.mono (by omega)), ?_⟩
    refine RP.p_call 18 #[.agg #[.int .i64 n0, .int .i64 (n2 % n0), .int .i64 n1, .slice A2 l k2]] rfl (by go_simp) ?_
    have hbw : Below w.heap.size w w5 := H0.out.2.2.trans (hb5.mono H0.out.2.2.size)
    have hpi : PatIn w5 P A2 := by
      rw [HPI.out.1]
      exact IsL.below hbw HPI.out.2.2
    have hle := HLE.out A2 k2 w5 hpi
    rw [HPI.out.1] at hle
    simp only at hle
    rw [← HPI.out.2.1, ← HPI.out.1] at hle
    refine hle.mono ?_
    rintro e w7 ⟨v, rfl, hown, hb7⟩
    refine .inl ⟨_, rfl, ?_⟩
    have hb7' := hb5.trans (hb7.mono hb5.size)
    refine ⟨sub_of (hb7'.mono (by omega)), ?_⟩
    obtain ⟨R, hR⟩ : ∃ R, R = leastO P a1 b1 c1 := ⟨_, rfl⟩
    obtain ⟨E, hE⟩ : ∃ E, E = valP P := ⟨_, rfl⟩
    rw [← hR] at hown ⊢
    rw [← hE]
    have HRE := Lib.hid (And.intro hR hE)
    obtain ⟨A7, k7, rfl, -⟩ := hown.isL
    have hr7 := (H0.out.2.1.keep hb7')
    have HF := Lib.hid (put_row (w := w) hr7 (H0.out.2.2.trans (hb7'.mono (by omega))) (by omega) R A7 k7 (.int .i64 E) hown hbw.size (by have := hb5.size; omega))
    obtain ⟨l7, hl7⟩ : ∃ l7, l7 = R.xs.length := ⟨_, rfl⟩
    rw [← hl7] at hown HF ⊢
    have hgr := row_grown w7 (w.heap.size + 1) #[.int .i64 R.a, .int .i64 R.b, .int .i64 R.c, .slice A7 l7 k7]
    have hb8 : Below (w.heap.size + 1) wr (w7.setRow (w.heap.size + 1) #[.int .i64 R.a, .int .i64 R.b, .int .i64 R.c, .slice A7 l7 k7]) := (hb7'.mono (by omega)).grown hgr (by have := hb7'.size; omega) (fun g e => by cases e; omega)
    refine ⟨_, s_read (.agg #[.int .i64 R.a, .int .i64 R.b, .int .i64 R.c, .slice A7 l7 k7]) rfl (fun w _ => by go_simp), sub_of (hb7'.mono (by omega)), ?_⟩
    refine RP.p_val (.int .i64 E) w7 rfl (by go_simp) ?_
    refine ⟨sub_of (hb7'.mono (by omega)), ?_⟩
    have hC8 := sub_of hb8
    refine RP.p_skip (w7.setRow (w.heap.size + 1) #[.int .i64 R.a, .int .i64 R.b, .int .i64 R.c, .slice A7 l7 k7]) rfl (st_pat_run (.tmp 2) (.tmp 75) rfl hr7 R.a R.b R.c A7 l7 k7 (by go_simp) (by go_simp)) ?_
    obtain ⟨w8, hw8⟩ : ∃ w8, w8 = w7.setRow (w.heap.size + 1) #[.int .i64 R.a, .int .i64 R.b, .int .i64 R.c, .slice A7 l7 k7] := ⟨_, rfl⟩
    rw [← hw8] at HF hC8 ⊢
    clear hw8 hb8 hgr hr7 hown hb7 hb7' hb5 hbw hle hpi hR hE
    refine ⟨hC8, ?_⟩
    refine RP.p_assign _ rfl rfl (.int .i64 E) (by go_simp) ?_
    go_simp
    go_wp2
    refine bodyPost_ret (v := .tuple #[.agg #[.int .i64 R.a, .int .i64 R.b, .int .i64 R.c, .slice A7 l7 k7], .int .i64 E]) (ret_pat2 rfl rfl rfl HF.out.1) rfl ?_
    rw [← HRE.out.1, ← HRE.out.2]
    exact HF.out.2
theorem known_least : LeastOf ⟨2, 0 % 2, 2, [0, 1, 1, 0]⟩ 2 1 1 := by
  intro hv
  have hB := col_base (valP_zero hv).ok
  have e0 : colF ⟨2, 0 % 2, 2, [0, 1, 1, 0]⟩ 0 0 = 0 := by decide
  have e1 : colF ⟨2, 0 % 2, 2, [0, 1, 1, 0]⟩ 1 0 = 1 := by decide
  refine ⟨⟨by decide, by decide, hB.pa, hB.per fun x y h0 h1 h2 h3 => ?_⟩, by decide, by decide, fun a' h0 h1 => ?_, fun b' c' h0 _ => by omega⟩
  · have h1 : x < 2 := h1
    have h3 : y < 2 := h3
    have hx : x = 0 ∨ x = 1 := by omega
    have hy : y = 0 ∨ y = 1 := by omega
    rcases hx with rfl | rfl <;> rcases hy with rfl | rfl <;> decide
  · rcases Int.lt_or_le a' 2 with h | h
    · obtain rfl : a' = 1 := by omega
      have := h1 0 0
      rw [show (0 : Int) + 1 = 1 by rfl, show (0 : Int) + 0 = 0 by rfl, e0, e1] at this
      cases this
    · exact h
theorem known_val : valP ⟨2, 0 % 2, 2, [0, 1, 1, 0]⟩ = 0 := by decide
theorem known_leastO : leastO ⟨2, 0 % 2, 2, [0, 1, 1, 0]⟩ 2 1 1 = ⟨2, 1, 1, [0, 1]⟩ := by
  unfold leastO
  rw [if_neg (by rw [known_val]; decide)]
  rfl
/-- The text of the laws' own check is read as the pattern 2, 1, 1: 0, 1. -/
def OutK (w : World) (e : Ending) (w' : World) : Prop := OutP w ⟨2, 1, 1, [0, 1]⟩ (.int .i64 0) e w'
set_option maxRecDepth 100000 in
set_option maxHeartbeats 2000000 in
theorem parse_known (w : World) (hw : LibOK w) :
    Calls Tryz.prog 33 #[.string knownT] w (OutK w) := by
  have hpa := parse_any knownT (by decide) 
  rw [known_expr] at hpa
  obtain ⟨s, hs⟩ : ∃ s, s = knownT := ⟨_, rfl⟩
  rw [← hs] at hpa ⊢
  have hsz : s.size = 18 := by rw [hs]; rfl
  obtain ⟨lk, hlk⟩ : ∃ lk, lk = s.size := ⟨_, rfl⟩
  have hl18 : lk = 18 := by omega
  have HPA := Lib.hid hpa
  have HV := Lib.hid (fun A1 k1 A2 k2 w hn hd => value_bricks 2 2 0 [0, 1, 1, 0] (by decide) (by decide) (by decide) (by decide) (by decide) 2 1 1 known_least A1 k1 A2 k2 w hn hd)
  have HW := Lib.hid hw
  clear hpa hs hw
  go_enter Tryz.func33, Tryz.ntmps33
  go_wp2_with fail
  have hr0 : PBox (w.alloc (.cells #[.int .i64 0, .int .i64 0, .int .i64 0, .slice none 0 0] 24)) w.heap.size 0 0 0 (.slice none 0 0) := PBox.new w _ _ _ _
  have hb0 : Below w.heap.size w (w.alloc (.cells #[.int .i64 0, .int .i64 0, .int .i64 0, .slice none 0 0] 24)) := (by repeat' (first | (with_reducible exact Below.refl _ _) | (with_reducible assumption) | (with_reducible refine below_drewN ?_ _) | (with_reducible refine below_step (by assumption) ?_ ?_) | (with_reducible refine Below.alloc ?_ ?_ _) | (with_reducible refine Below.setCell ?_ ?_ _) | (with_reducible refine Below.drew ?_) | go_size | (exact Below.size (by assumption)) | (refine Nat.le_trans (Below.size (by assumption)) ?_)))
  obtain ⟨W, hW⟩ : ∃ W, W = w.alloc (.cells #[.int .i64 0, .int .i64 0, .int .i64 0, .slice none 0 0] 24) := ⟨_, rfl⟩
  rw [← hW] at hr0 hb0 ⊢
  have hpa := HPA.out W (HW.out.below hb0)
  have H0 := Lib.hid (And.intro hr0 hb0)
  clear hr0 hb0 hW HPA
  refine hpa.mono ?_
  rintro e w1 ⟨⟨v, b, rfl, rfl, hrd⟩, hb1⟩
  obtain ⟨nv, dv, rfl, hn, hd⟩ := hrd
  obtain ⟨A1, k1, rfl, hn'⟩ := hn.isL
  obtain ⟨A2, k2, rfl, hd'⟩ := hd.isL
  have H1 := Lib.hid (And.intro (H0.out.1.keep hb1) (And.intro (H0.out.2.trans (hb1.mono H0.out.2.size)) (And.intro hn' hd')))
  clear hpa hb1 hn hd hn' hd'
  obtain ⟨tg, htg⟩ : ∃ tg, tg = txt [98, 114, 105, 99, 107, 115] := ⟨_, rfl⟩
  rw [← htg] at HV ⊢
  clear htg
  go_wp2_with fail
  have hb2 : Below w1.heap.size w1 (w1.alloc (.cells #[.string tg, .slice A1 3 k1, .slice A2 4 k2, .slice none 0 0] 78)) := (Below.refl _ _).alloc (Nat.le_refl _) _
  obtain ⟨w2, hw2⟩ : ∃ w2, w2 = w1.alloc (.cells #[.string tg, .slice A1 3 k1, .slice A2 4 k2, .slice none 0 0] 78) := ⟨_, rfl⟩
  rw [← hw2] at hb2
  refine Calls.mono (show Calls _ _ _ _ _ by rw [← hw2]; exact HV.out A1 k1 A2 k2 w2 (IsL.below hb2 H1.out.2.2.1) (IsL.below hb2 H1.out.2.2.2)) ?_
  rintro e w3 ⟨v, rfl, hown, hb3⟩
  have hb3' := hb2.trans (hb3.mono hb2.size)
  have hr3 := H1.out.1.keep hb3'
  have hb4 := H1.out.2.1.trans (hb3'.mono H1.out.2.1.size)
  rw [known_leastO] at hown ⊢
  rw [known_val]
  obtain ⟨A3, k3, rfl, -⟩ := hown.isL
  have HF := Lib.hid (put_ret hr3 hb4 (Nat.le_refl _) ⟨2, 1, 1, [0, 1]⟩ _ hown (Nat.le_trans H1.out.2.1.size hb2.size) (Nat.lt_of_lt_of_le (Array.getElem?_eq_some_iff.1 H1.out.1).1 hb2.size))
  obtain ⟨r0, r1, r2, r3, r4⟩ := hr3.cells
  have f0 : w3.frozen? ⟨w.heap.size, 0, none⟩ = false := frozen_of_row w3 _ 0 _ _ hr3
  have f1 : w3.frozen? ⟨w.heap.size, 1, none⟩ = false := frozen_of_row w3 _ 1 _ _ hr3
  have f2 : w3.frozen? ⟨w.heap.size, 2, none⟩ = false := frozen_of_row w3 _ 2 _ _ hr3
  have f3 : w3.frozen? ⟨w.heap.size, 3, none⟩ = false := frozen_of_row w3 _ 3 _ _ hr3
  clear hb2 hb3 hb3' hr3 hb4 hown hw2 H1 HV
  go_wp2
  refine bodyPost_ret (v := .tuple #[.agg #[.int .i64 2, .int .i64 1, .int .i64 1, .slice A3 2 k3], .int .i64 0]) (ret_pat2 rfl rfl rfl HF.out.1) rfl ?_
  exact ⟨_, rfl, HF.out.2⟩
end Go.Proofs.YtgmokojdlbdjeaaGreatDoor
