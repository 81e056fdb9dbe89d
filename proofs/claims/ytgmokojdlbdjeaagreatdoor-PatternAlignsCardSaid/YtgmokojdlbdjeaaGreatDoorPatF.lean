/-
  THE PROGRAM: the plane of a pattern; its least pattern.
-/
import Derived.Test.YtgmokojdlbdjeaaGreatDoorPatE
namespace Go.Proofs.YtgmokojdlbdjeaaGreatDoor
open Go.RowKit
theorem col_base {p : PatD} (h : PatOK p) : Base (colF p) p.a p.b p.c := by
  obtain ⟨a, b, c, xs⟩ := p
  obtain ⟨a0, a1, b0, b1, c0, c1, hl⟩ := h
  simp only at a0 c0
  refine ⟨a0, c0, fun x y => ?_, fun x y => ?_⟩
  · unfold colF homeX
    simp only [Int.add_zero]
    rw [show x + a - y / c * b = x - y / c * b + a by omega, Int.add_emod_right]
  · unfold colF homeX
    simp only [Int.add_emod_right]
    rw [Int.add_ediv_of_dvd_right (Int.dvd_refl c), Int.ediv_self (show c ≠ 0 by omega), Int.add_mul, Int.one_mul, show x + b - (y / c * b + b) = x - y / c * b by omega]
theorem planeSz (a b c : Int) (s : Value) : (Tryz.prog.info? 61).map (·.size) = some (#[Value.int .i64 a, .int .i64 b, .int .i64 c, s] : Array Value).size := by
  have h : (Tryz.prog.info? 61).map (·.size) = some 4 := by kernel_rfl
  exact h
theorem ret_plane {w : World} {bx : Nat} {a b c : Int} {s : Value} {tmps : Array Value} {fn : Func} {p : Tmp} (h : fn.results = #[.cell p 61]) (hp : tmps.getD p undef = .pointer (some ⟨bx, 0, none⟩)) (hg : PlBox w bx a b c s) : (results fn tmps).run Tryz.prog w = .ok (.agg #[.int .i64 a, .int .i64 b, .int .i64 c, s]) w :=
  results_cell_row h _ _ bx 61 _ (0, 0) _ hp hg Tryz.underlying61 rfl (planeSz a b c s)
/-- A pattern among the arguments: its cells lie where the slice says. -/
def PatIn (w : World) (p : PatD) (A : Option Addr) : Prop := IsL w A p.xs.length p.xs
theorem PatIn.below {w w' : World} {p : PatD} {A : Option Addr} (h : PatIn w p A) (hb : Below w.heap.size w w') : PatIn w' p A := IsL.below hb h
set_option maxRecDepth 100000 in
theorem of_color (w : World) (bx : Nat) (p : PatD) (A : Option Addr) (cap : Nat) (h : PBox w bx p.a p.b p.c (.slice A p.xs.length cap)) (hp : PatOK p) (hi : PatIn w p A) : FunV w (.func (.func 102) #[] #[.pointer (some ⟨bx, 0, none⟩)]) (colF p) 50000000 := by
  refine ⟨_, _, rfl, fun args w' => ?_, fun w' hb x y h0 h1 h2 h3 => ?_⟩
  · go_simp
  · obtain ⟨q0, q1, q2, q3, q4⟩ := (h.keep hb).cells
    have HC := Lib.hid (pcolor_any p hp A p.xs.length cap x y (by omega) (by omega) (by omega) (by omega) w' (hi.below hb))
    clear h hi hb hp
    show Calls Tryz.prog 102 #[.int .i64 x, .int .i64 y, .pointer (some ⟨bx, 0, none⟩)] w' _
    go_enter Tryz.func102, Tryz.ntmps102
    go_wp2_with fail
    refine HC.out.mono ?_
    rintro e w2 ⟨rfl, hb2⟩
    go_wp2
    go_ret
    exact ⟨rfl, hb2⟩
set_option maxRecDepth 100000 in
theorem of_any (p : PatD) (hp : PatOK p) (A : Option Addr) (cap : Nat) (w : World) (hi : PatIn w p A) :
    Calls Tryz.prog 55 #[.agg #[.int .i64 p.a, .int .i64 p.b, .int .i64 p.c, .slice A p.xs.length cap]] w fun e w' => ∃ fv, e = .returned (.agg #[.int .i64 p.a, .int .i64 p.b, .int .i64 p.c, fv]) ∧ FunV w' fv (colF p) 50000000 ∧ Below w.heap.size w w' := by
  have hmf : ∀ (fn : Fn) (first cap : Array Value) (w : World), (Instr.makeFunc fn first cap).run Tryz.prog w = .ok (.func fn first cap) w := fun _ _ _ _ => rfl
  have HI := Lib.hid hi
  have HP := Lib.hid hp
  clear hi hp
  go_enter Tryz.func55, Tryz.ntmps55
  go_wp2
  obtain ⟨W, hW⟩ : ∃ W, W = (w.alloc (.cells #[.int .i64 p.a, .int .i64 p.b, .int .i64 p.c, .slice A p.xs.length cap] 24)).alloc (.cells #[.int .i64 p.a, .int .i64 p.b, .int .i64 p.c, .func (.func 102) #[] #[.pointer (some ⟨w.heap.size, 0, none⟩)]] 61) := ⟨_, rfl⟩
  rw [← hW]
  have hb : Below w.heap.size w W := by rw [hW]; exact (by repeat' (first | (with_reducible exact Below.refl _ _) | (with_reducible assumption) | (with_reducible refine below_drewN ?_ _) | (with_reducible refine below_step (by assumption) ?_ ?_) | (with_reducible refine Below.alloc ?_ ?_ _) | (with_reducible refine Below.setCell ?_ ?_ _) | (with_reducible refine Below.drew ?_) | go_size | (exact Below.size (by assumption)) | (refine Nat.le_trans (Below.size (by assumption)) ?_)))
  have hbx : PBox W w.heap.size p.a p.b p.c (.slice A p.xs.length cap) := by rw [hW]; exact (heap_alloc_old _ _ (by simp)).trans (heap_alloc_new w _)
  have hpl : PlBox W (w.heap.size + 1) p.a p.b p.c (.func (.func 102) #[] #[.pointer (some ⟨w.heap.size, 0, none⟩)]) := by
    have := heap_alloc_new (w.alloc (.cells #[.int .i64 p.a, .int .i64 p.b, .int .i64 p.c, .slice A p.xs.length cap] 24)) (.cells #[.int .i64 p.a, .int .i64 p.b, .int .i64 p.c, .func (.func 102) #[] #[.pointer (some ⟨w.heap.size, 0, none⟩)]] 61)
    unfold PlBox
    rw [hW]
    simpa using this
  refine bodyPost_ret (v := .agg #[.int .i64 p.a, .int .i64 p.b, .int .i64 p.c, .func (.func 102) #[] #[.pointer (some ⟨w.heap.size, 0, none⟩)]]) (ret_plane rfl rfl hpl) rfl ?_
  exact ⟨_, rfl, of_color W w.heap.size p A cap hbx HP.out (HI.out.below hb), hb⟩
/-- A pattern is put into the box of the result. -/
theorem put_ret {w wr : World} {rb B : Nat} {a b c : Int} {s : Value} (hr : PBox wr rb a b c s) (hb : Below w.heap.size w wr) (hw : w.heap.size ≤ rb) (p : PatD) (v : Value) (ho : OwnI wr B v p.xs) (hB : w.heap.size ≤ B) (hrB : rb < B) : PBox (set4 wr rb p.a p.b p.c v) rb p.a p.b p.c v ∧ OwnI (set4 wr rb p.a p.b p.c v) w.heap.size v p.xs ∧ Below w.heap.size w (set4 wr rb p.a p.b p.c v) := by
  have hgr := set4_grown wr rb p.a p.b p.c v
  refine ⟨hr.put _ _ _ _, OwnI.down (OwnI.grown ho hgr ?_) hB, Below.grown hb hgr hb.size (fun g e => by cases e; exact hw)⟩
  rcases hv : v.ownBlock with _ | g
  · exact .inl rfl
  · exact .inr (fun e => by have := ho.lt' g hv; cases e; omega)
theorem put_zero {w wr : World} {rb : Nat} {a b c : Int} {s : Value} (hr : PBox wr rb a b c s) (hb : Below w.heap.size w wr) (hw : w.heap.size ≤ rb) : PBox (set4 wr rb 0 0 0 (.slice none 0 0)) rb 0 0 0 (.slice none 0 0) ∧ Below w.heap.size w (set4 wr rb 0 0 0 (.slice none 0 0)) :=
  ⟨hr.put _ _ _ _, Below.grown hb (set4_grown wr rb 0 0 0 (.slice none 0 0)) hb.size (fun g e => by cases e; exact hw)⟩
/-- The code of a plane's least pattern. -/
def tooBig (a1 c1 : Int) : Int := if a1 * c1 ≤ 144 then 0 else 4
def leastT (F : Int → Int → Int) (a1 b1 c1 : Int) : PatD := if a1 * c1 ≤ 144 then leastP F a1 b1 c1 else zeroP
theorem OutP.zero {w w' : World} {z : Value} (hb : Below w.heap.size w w') : OutP w zeroP z (.returned (.tuple #[.agg #[.int .i64 0, .int .i64 0, .int .i64 0, .slice none 0 0], z])) w' := ⟨_, rfl, OwnI.nil _ _, hb⟩
set_option maxRecDepth 100000 in
set_option maxHeartbeats 1000000 in
theorem presult_any (F : Int → Int → Int) (a b c a1 b1 c1 : Int) (hB : Base F a b c) (hL : Least F a1 b1 c1) (ha2 : a ≤ 10000000) (hc2 : c ≤ 10000000) (fv : Value) (w : World) (hF : FunV w fv F 50000000) :
    Calls Tryz.prog 56 #[.agg #[.int .i64 a, .int .i64 b, .int .i64 c, fv]] w (OutP w (leastT F a1 b1 c1) (.int .i64 (tooBig a1 c1))) := by
  have HC := Lib.hid (fun w (hF : FunV w fv F 50000000) => pleast_any F a b c a1 b1 c1 hB hL ha2 hc2 fv w hF)
  have HF := Lib.hid hF
  obtain ⟨r, hr⟩ : ∃ r, r = OutP w (leastT F a1 b1 c1) (.int .i64 (tooBig a1 c1)) := ⟨_, rfl⟩
  rw [← hr]
  unfold leastT tooBig at hr
  have HRR := Lib.hid hr
  clear hB hL ha2 hc2 hF hr
  go_enter Tryz.func56, Tryz.ntmps56
  go_wp2_with fail
  have T0 := Lib.hid (LW.start w a b c fv)
  obtain ⟨W, hW⟩ : ∃ W, W = (w.alloc (.cells #[.int .i64 a, .int .i64 b, .int .i64 c, fv] 61)).alloc (.cells #[.int .i64 0, .int .i64 0, .int .i64 0, .slice none 0 0] 24) := ⟨_, rfl⟩
  rw [← hW] at T0 ⊢
  obtain ⟨rb, hrb⟩ : ∃ rb, rb = w.heap.size + 1 := ⟨_, rfl⟩
  rw [← hrb] at T0 ⊢
  clear hW hrb
  have hc := HC.out W (HF.out.below T0.out.below)
  have hwW := T0.out.below.size
  by_cases h144 : a1 * c1 ≤ 144
  · rw [if_pos h144, decide_eq_true h144] at hc
    have hrf := HRR.out
    rw [if_pos h144, if_pos h144] at hrf
    obtain ⟨p, hp⟩ : ∃ p, p = leastP F a1 b1 c1 := ⟨_, rfl⟩
    rw [← hp] at hc hrf
    have HRF := Lib.hid hrf
    refine hc.mono ?_
    clear hc hp h144 HC HRR hrf
    rintro e w1 ⟨v, rfl, hown, hb1⟩
    obtain ⟨A, n, rfl, -⟩ := hown.isL
    have T1 := Lib.hid (T0.out.keep hb1)
    have hWr := (Array.getElem?_eq_some_iff.1 T0.out.r).1
    go_upto_region 2 with fail
    obtain ⟨W2, hW2⟩ : ∃ W2, W2 = w1.alloc (.cells #[.int .i64 p.a, .int .i64 p.b, .int .i64 p.c, .slice A p.xs.length n] 24) := ⟨_, rfl⟩
    show Code.wp _ _ _ _ (w1.alloc (.cells #[.int .i64 p.a, .int .i64 p.b, .int .i64 p.c, .slice A p.xs.length n] 24))
    rw [← hW2]
    have hal := (Below.refl w1.heap.size w1).alloc (Nat.le_refl _) (.cells #[.int .i64 p.a, .int .i64 p.b, .int .i64 p.c, .slice A p.xs.length n] 24)
    rw [← hW2] at hal
    have T2 := T1.out.keep hal
    have HP2 := Lib.hid (put_ret T2.r T2.below T2.wr' p _ (OwnI.keep hal hown) hwW hWr)
    obtain ⟨r0, r1, r2, r3, r4⟩ := T2.r.cells
    obtain ⟨s0, s1, s2, s3, s4⟩ := (show PBox W2 w1.heap.size p.a p.b p.c (.slice A p.xs.length n) by rw [hW2]; exact PBox.new _ _ _ _ _).cells
    have f0 := T2.frozen 0
    have f1 := T2.frozen 1
    have f2 := T2.frozen 2
    have f3 := T2.frozen 3
    clear hown T1 T2 hal hW2 hwW HF
    go_wp2
    refine bodyPost_ret (v := .tuple #[.agg #[.int .i64 p.a, .int .i64 p.b, .int .i64 p.c, .slice A p.xs.length n], .int .i64 0]) (ret_pat2 rfl rfl rfl HP2.out.1) rfl ?_
    rw [HRF.out]
    exact ⟨_, rfl, HP2.out.2⟩
  · rw [if_neg h144, decide_eq_false h144] at hc
    have hrf := HRR.out
    rw [if_neg h144, if_neg h144] at hrf
    have HRF := Lib.hid hrf
    refine hc.mono ?_
    clear hc h144 HC HRR hrf
    rintro e w1 ⟨v, rfl, hown, hb1⟩
    obtain ⟨A, n, rfl, -⟩ := hown.isL
    have T1 := Lib.hid (T0.out.keep hb1)
    go_upto_region 2 with fail
    obtain ⟨W2, hW2⟩ : ∃ W2, W2 = w1.alloc (.cells #[.int .i64 zeroP.a, .int .i64 zeroP.b, .int .i64 zeroP.c, .slice A zeroP.xs.length n] 24) := ⟨_, rfl⟩
    show Code.wp _ _ _ _ (w1.alloc (.cells #[.int .i64 zeroP.a, .int .i64 zeroP.b, .int .i64 zeroP.c, .slice A zeroP.xs.length n] 24))
    rw [← hW2]
    have hal := (Below.refl w1.heap.size w1).alloc (Nat.le_refl _) (.cells #[.int .i64 zeroP.a, .int .i64 zeroP.b, .int .i64 zeroP.c, .slice A zeroP.xs.length n] 24)
    rw [← hW2] at hal
    have T2 := T1.out.keep hal
    have HP2 := Lib.hid (put_zero T2.r T2.below T2.wr')
    obtain ⟨r0, r1, r2, r3, r4⟩ := T2.r.cells
    obtain ⟨s0, s1, s2, s3, s4⟩ := (show PBox W2 w1.heap.size zeroP.a zeroP.b zeroP.c (.slice A zeroP.xs.length n) by rw [hW2]; exact PBox.new _ _ _ _ _).cells
    have f0 := T2.frozen 0
    have f1 := T2.frozen 1
    have f2 := T2.frozen 2
    have f3 := T2.frozen 3
    clear hown T1 T2 hal hW2 hwW HF
    go_wp2
    refine bodyPost_ret (v := .tuple #[.agg #[.int .i64 0, .int .i64 0, .int .i64 0, .slice none 0 0], .int .i64 4]) (ret_pat2 rfl rfl rfl HP2.out.1) rfl ?_
    rw [HRF.out]
    exact OutP.zero HP2.out.2
end Go.Proofs.YtgmokojdlbdjeaaGreatDoor
