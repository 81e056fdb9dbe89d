/-
  THE PROGRAM: Shift.
-/
import Derived.Test.YtgmokojdlbdjeaaGreatDoorPatL
namespace Go.Proofs.YtgmokojdlbdjeaaGreatDoor
open Go.RowKit
/-- The least pattern of a plane, or ErrLarge. -/
noncomputable def resT (F : Int → Int → Int) : PatD := if (lst F).a * (lst F).c ≤ 144 then lst F else zeroP
noncomputable def resZ (F : Int → Int → Int) : Int := if (lst F).a * (lst F).c ≤ 144 then 0 else 4
theorem presult_lst (F : Int → Int → Int) (a b c : Int) (hB : Base F a b c) (ha2 : a ≤ 10000000) (hc2 : c ≤ 10000000) (fv : Value) (w : World) (hF : FunV w fv F 50000000) :
    Calls Tryz.prog 56 #[.agg #[.int .i64 a, .int .i64 b, .int .i64 c, fv]] w (OutP w (resT F) (.int .i64 (resZ F))) := by
  obtain ⟨h1, h2⟩ := hB.lst
  have := presult_any F a b c _ _ _ hB h1 ha2 hc2 fv w hF
  unfold leastT tooBig at this
  rw [← h2] at this
  exact this
theorem res_small {F : Int → Int → Int} {a b c : Int} (hB : Base F a b c) (h : a * c ≤ 144) : resT F = lst F ∧ resZ F = 0 := by
  have := hB.lst_cells
  unfold resT resZ
  rw [if_pos (by omega), if_pos (by omega)]
  exact ⟨rfl, rfl⟩
/-- Moved. -/
def shiftF (F : Int → Int → Int) (dx dy : Int) : Int → Int → Int := fun x y => F (x - dx) (y - dy)
theorem Per.shift {F : Int → Int → Int} {a b dx dy : Int} (h : Per F a b) : Per (shiftF F dx dy) a b := fun x y => by
  unfold shiftF
  have := h (x - dx) (y - dy)
  rwa [show x - dx + a = x + a - dx by omega, show y - dy + b = y + b - dy by omega] at this
theorem Base.shift {F : Int → Int → Int} {a b c dx dy : Int} (h : Base F a b c) : Base (shiftF F dx dy) a b c := ⟨h.a0, h.c0, h.pa.shift, h.pb.shift⟩
theorem farC_bd {x : Int} (h : farC x = false) : -100000 ≤ x ∧ x ≤ 100000 := by
  simp only [farC, Bool.or_eq_false_iff, decide_eq_false_iff_not] at h
  omega
theorem chkP_zero {p : PatD} {xs : List Int} (h : chkP p xs = 0) : valP p = 0 ∧ ∀ x ∈ xs, -100000 ≤ x ∧ x ≤ 100000 := by
  unfold chkP at h
  split at h
  · rename_i hv; exact absurd h hv
  · rename_i hv
    refine ⟨by omega, fun x hx => ?_⟩
    split at h
    · cases h
    · rename_i ha
      rw [Bool.not_eq_true, List.any_eq_false] at ha
      exact farC_bd (by simpa using ha x hx)
theorem lst_pat {p : PatD} (h : valP p = 0) : Base (colF p) p.a p.b p.c := col_base (valP_zero h).ok
noncomputable def shiftT (p : PatD) (dx dy : Int) : PatD := if chkP p [dx, dy] ≠ 0 then zeroP else lst (shiftF (colF p) dx dy)
/-- A box of one integer. -/
def IBox (w : World) (b : Nat) (x : Int) : Prop := w.heap[b]? = some (.cells #[.int .i64 x] 3 (0, 0))
theorem IBox.keep {w w' : World} {b : Nat} {x : Int} (h : IBox w b x) (hb : Below w.heap.size w w') : IBox w' b x := (hb.block _ (Array.getElem?_eq_some_iff.1 h).1).trans h
theorem IBox.cell {w : World} {b : Nat} {x : Int} (h : IBox w b x) : w.cell? ⟨b, 0, none⟩ = some (.int .i64 x) := (cell_of_row w b 0 _ _ (0, 0) h).trans rfl
set_option maxRecDepth 100000 in
theorem shift_fun (w : World) (bx xb yb : Nat) (p : PatD) (A : Option Addr) (cap : Nat) (dx dy : Int) (h : PBox w bx p.a p.b p.c (.slice A p.xs.length cap)) (hx : IBox w xb dx) (hy : IBox w yb dy) (hp : PatOK p) (hi : PatIn w p A) (h1 : -100000 ≤ dx ∧ dx ≤ 100000) (h2 : -100000 ≤ dy ∧ dy ≤ 100000) :
    FunV w (.func (.func 59) #[] #[.pointer (some ⟨bx, 0, none⟩), .pointer (some ⟨xb, 0, none⟩), .pointer (some ⟨yb, 0, none⟩)]) (shiftF (colF p) dx dy) 50000000 := by
  refine ⟨_, _, rfl, fun args w' => ?_, fun w' hb x y h0 h3 h4 h5 => ?_⟩
  · go_simp
  · obtain ⟨q0, q1, q2, q3, q4⟩ := (h.keep hb).cells
    have q5 := (hx.keep hb).cell
    have q6 := (hy.keep hb).cell
    have k1 : IntKind.i64.wrap (x - dx) = x - dx := IntWalk.i64_in _ (by omega)
    have k2 : IntKind.i64.wrap (y - dy) = y - dy := IntWalk.i64_in _ (by omega)
    have HC := Lib.hid (pcolor_any p hp A p.xs.length cap (x - dx) (y - dy) (by omega) (by omega) (by omega) (by omega) w' (hi.below hb))
    obtain ⟨z, hz⟩ : ∃ z, z = colF p (x - dx) (y - dy) := ⟨_, rfl⟩
    have HZ := Lib.hid (show z = shiftF (colF p) dx dy x y from hz)
    rw [← hz] at HC
    clear h hi hb hp hx hy hz
    show Calls Tryz.prog 59 #[.int .i64 x, .int .i64 y, .pointer (some ⟨bx, 0, none⟩), .pointer (some ⟨xb, 0, none⟩), .pointer (some ⟨yb, 0, none⟩)] w' _
    go_enter Tryz.func59, Tryz.ntmps59
    go_wp2_with fail
    refine HC.out.mono ?_
    rintro e w2 ⟨rfl, hb2⟩
    go_wp2
    go_ret
    exact ⟨by rw [← HZ.out]; rfl, hb2⟩
theorem al5 (w : World) (o0 o1 o2 o3 o4 : Obj) : ((((((w.alloc o0).alloc o1).alloc o2).alloc o3).alloc o4).heap.size = w.heap.size + 5) ∧ (((((w.alloc o0).alloc o1).alloc o2).alloc o3).alloc o4).heap[w.heap.size]? = some o0 ∧ (((((w.alloc o0).alloc o1).alloc o2).alloc o3).alloc o4).heap[w.heap.size + 1]? = some o1 ∧ (((((w.alloc o0).alloc o1).alloc o2).alloc o3).alloc o4).heap[w.heap.size + 1 + 1]? = some o2 ∧ (((((w.alloc o0).alloc o1).alloc o2).alloc o3).alloc o4).heap[w.heap.size + 1 + 1 + 1]? = some o3 ∧ (((((w.alloc o0).alloc o1).alloc o2).alloc o3).alloc o4).heap[w.heap.size + 1 + 1 + 1 + 1]? = some o4 ∧ Below w.heap.size w (((((w.alloc o0).alloc o1).alloc o2).alloc o3).alloc o4) := by
  have e1 : (w.alloc o0).heap.size = w.heap.size + 1 := by simp
  have e2 : ((w.alloc o0).alloc o1).heap.size = w.heap.size + 1 + 1 := by simp
  have e3 : (((w.alloc o0).alloc o1).alloc o2).heap.size = w.heap.size + 1 + 1 + 1 := by simp
  have e4 : ((((w.alloc o0).alloc o1).alloc o2).alloc o3).heap.size = w.heap.size + 1 + 1 + 1 + 1 := by simp
  have h0 := heap_alloc_new w o0
  have h1 := heap_alloc_new (w.alloc o0) o1
  have h2 := heap_alloc_new ((w.alloc o0).alloc o1) o2
  have h3 := heap_alloc_new (((w.alloc o0).alloc o1).alloc o2) o3
  have h4 := heap_alloc_new ((((w.alloc o0).alloc o1).alloc o2).alloc o3) o4
  rw [e1] at h1
  rw [e2] at h2
  rw [e3] at h3
  rw [e4] at h4
  refine ⟨by simp, ?_, ?_, ?_, ?_, h4, (by repeat' (first | (with_reducible exact Below.refl _ _) | (with_reducible assumption) | (with_reducible refine below_drewN ?_ _) | (with_reducible refine below_step (by assumption) ?_ ?_) | (with_reducible refine Below.alloc ?_ ?_ _) | (with_reducible refine Below.setCell ?_ ?_ _) | (with_reducible refine Below.drew ?_) | go_size | (exact Below.size (by assumption)) | (refine Nat.le_trans (Below.size (by assumption)) ?_)))⟩
  · exact (heap_alloc_old _ _ (by omega)).trans ((heap_alloc_old _ _ (by omega)).trans ((heap_alloc_old _ _ (by omega)).trans ((heap_alloc_old _ _ (by omega)).trans h0)))
  · exact (heap_alloc_old _ _ (by omega)).trans ((heap_alloc_old _ _ (by omega)).trans ((heap_alloc_old _ _ (by omega)).trans h1))
  · exact (heap_alloc_old _ _ (by omega)).trans ((heap_alloc_old _ _ (by omega)).trans h2)
  · exact (heap_alloc_old _ _ (by omega)).trans h3
theorem al2 (w : World) (o0 o1 : Obj) : ((w.alloc o0).alloc o1).heap.size = w.heap.size + 2 ∧ ((w.alloc o0).alloc o1).heap[w.heap.size]? = some o0 ∧ ((w.alloc o0).alloc o1).heap[w.heap.size + 1]? = some o1 ∧ Below w.heap.size w ((w.alloc o0).alloc o1) := by
  have e1 : (w.alloc o0).heap.size = w.heap.size + 1 := by simp
  have h0 := heap_alloc_new w o0
  have h1 := heap_alloc_new (w.alloc o0) o1
  rw [e1] at h1
  exact ⟨by simp, (heap_alloc_old _ _ (by omega)).trans h0, h1, (by repeat' (first | (with_reducible exact Below.refl _ _) | (with_reducible assumption) | (with_reducible refine below_drewN ?_ _) | (with_reducible refine below_step (by assumption) ?_ ?_) | (with_reducible refine Below.alloc ?_ ?_ _) | (with_reducible refine Below.setCell ?_ ?_ _) | (with_reducible refine Below.drew ?_) | go_size | (exact Below.size (by assumption)) | (refine Nat.le_trans (Below.size (by assumption)) ?_)))⟩
set_option maxRecDepth 100000 in
set_option maxHeartbeats 1000000 in
theorem pshift_any (p : PatD) (hl : p.xs.length ≤ 1000000) (dx dy : Int) (A : Option Addr) (cap : Nat) (w : World) (hi : PatIn w p A) :
    Calls Tryz.prog 21 #[.agg #[.int .i64 p.a, .int .i64 p.b, .int .i64 p.c, .slice A p.xs.length cap], .int .i64 dx, .int .i64 dy] w (OutP w (shiftT p dx dy) (.int .i64 (chkP p [dx, dy]))) := by
  obtain ⟨T, hT⟩ : ∃ T, T = shiftT p dx dy := ⟨_, rfl⟩
  obtain ⟨E, hE⟩ : ∃ E, E = chkP p [dx, dy] := ⟨_, rfl⟩
  rw [← hT, ← hE]
  unfold shiftT at hT
  rw [← hE] at hT
  have HC := Lib.hid (fun B n c2 w hi hx => checkP_any p hl [dx, dy] (by simp) E hE.symm A cap B n c2 w hi hx)
  have HT := Lib.hid hT
  have HE := Lib.hid hE
  have HI := Lib.hid hi
  have hmf : ∀ (fn : Fn) (first cap : Array Value) (w : World), (Instr.makeFunc fn first cap).run Tryz.prog w = .ok (.func fn first cap) w := fun _ _ _ _ => rfl
  clear hi hT hE
  go_enter Tryz.func21, Tryz.ntmps21
  go_wp2_with fail
  obtain ⟨a0, a1, a2, a3, a4, a5, a6⟩ := al5 w (.cells #[.int .i64 p.a, .int .i64 p.b, .int .i64 p.c, .slice A p.xs.length cap] 24) (.cells #[.int .i64 dx] 3) (.cells #[.int .i64 dy] 3) (.cells #[.int .i64 0, .int .i64 0, .int .i64 0, .slice none 0 0] 24) (.cells #[.int .i64 dx, .int .i64 dy] 3)
  obtain ⟨V, hV⟩ : ∃ V, V = ((((w.alloc (.cells #[.int .i64 p.a, .int .i64 p.b, .int .i64 p.c, .slice A p.xs.length cap] 24)).alloc (.cells #[.int .i64 dx] 3)).alloc (.cells #[.int .i64 dy] 3)).alloc (.cells #[.int .i64 0, .int .i64 0, .int .i64 0, .slice none 0 0] 24)).alloc (.cells #[.int .i64 dx, .int .i64 dy] 3) := ⟨_, rfl⟩
  rw [← hV] at a0 a1 a2 a3 a4 a5 a6 ⊢
  have hrow : Row V (w.heap.size + 1 + 1 + 1 + 1) (#[Value.int .i64 dx, Value.int .i64 dy].toList) := ⟨_, _, a5, by simp, by simp⟩
  have H0 := Lib.hid (show PBox V w.heap.size p.a p.b p.c (.slice A p.xs.length cap) ∧ IBox V (w.heap.size + 1) dx ∧ IBox V (w.heap.size + 1 + 1) dy ∧ PBox V (w.heap.size + 1 + 1 + 1) 0 0 0 (.slice none 0 0) ∧ Below w.heap.size w V from ⟨a1, a2, a3, a4, a6⟩)
  have hck := HC.out (some ⟨w.heap.size + 1 + 1 + 1 + 1, 0, none⟩) 2 2 V (HI.out.below a6) (RowI.isL (zs := [dx, dy]) hrow)
  clear hV a0 a1 a2 a3 a4 a5 a6 hrow HC
  refine hck.mono ?_
  rintro e w1 ⟨rfl, hb1⟩
  have H1 := Lib.hid (show PBox w1 w.heap.size p.a p.b p.c (.slice A p.xs.length cap) ∧ IBox w1 (w.heap.size + 1) dx ∧ IBox w1 (w.heap.size + 1 + 1) dy ∧ PBox w1 (w.heap.size + 1 + 1 + 1) 0 0 0 (.slice none 0 0) ∧ Below w.heap.size w w1 from
    ⟨H0.out.1.keep hb1, H0.out.2.1.keep hb1, H0.out.2.2.1.keep hb1, H0.out.2.2.2.1.keep hb1, H0.out.2.2.2.2.trans (hb1.mono H0.out.2.2.2.2.size)⟩)
  clear H0 hck hb1 V
  by_cases hz : E = 0
  · subst hz
    have hT := HT.out
    rw [if_neg (by simp)] at hT
    obtain ⟨hv, hfar⟩ := chkP_zero HE.out.symm
    have hbase : Base (shiftF (colF p) dx dy) p.a p.b p.c := (lst_pat hv).shift
    obtain ⟨z1, z2⟩ := res_small hbase (valP_zero hv).ac
    have hfun := shift_fun w1 w.heap.size (w.heap.size + 1) (w.heap.size + 1 + 1) p A cap dx dy H1.out.1 H1.out.2.1 H1.out.2.2.1 (valP_zero hv).ok (HI.out.below H1.out.2.2.2.2) (hfar dx (by simp)) (hfar dy (by simp))
    have hres := presult_lst _ p.a p.b p.c hbase (by have := (valP_zero hv).a1; omega) (by have := (valP_zero hv).c1; omega) _ w1 hfun
    rw [z1, z2, ← hT] at hres
    have HRES := Lib.hid hres
    clear hT hv hfar hbase z1 z2 hfun hres HT HE
    obtain ⟨q0, q1, q2, q3, q4⟩ := H1.out.1.cells
    go_wp2_with fail
    refine HRES.out.mono ?_
    rintro e w2 ⟨v, rfl, hown, hb2⟩
    obtain ⟨A2, n2, rfl, -⟩ := hown.isL
    have hr2 := H1.out.2.2.2.1.keep hb2
    have HP := Lib.hid (put_ret hr2 (H1.out.2.2.2.2.trans (hb2.mono H1.out.2.2.2.2.size)) (by omega) T _ hown H1.out.2.2.2.2.size (Array.getElem?_eq_some_iff.1 H1.out.2.2.2.1).1)
    obtain ⟨r0, r1, r2, r3, r4⟩ := PBox.cells hr2
    have f0 : (w2).frozen? ⟨w.heap.size + 1 + 1 + 1, 0, none⟩ = false := frozen_of_row (w2) (w.heap.size + 1 + 1 + 1) 0 _ _ hr2
    have f1 : (w2).frozen? ⟨w.heap.size + 1 + 1 + 1, 1, none⟩ = false := frozen_of_row (w2) (w.heap.size + 1 + 1 + 1) 1 _ _ hr2
    have f2 : (w2).frozen? ⟨w.heap.size + 1 + 1 + 1, 2, none⟩ = false := frozen_of_row (w2) (w.heap.size + 1 + 1 + 1) 2 _ _ hr2
    have f3 : (w2).frozen? ⟨w.heap.size + 1 + 1 + 1, 3, none⟩ = false := frozen_of_row (w2) (w.heap.size + 1 + 1 + 1) 3 _ _ hr2
    clear hown hb2 hr2 HRES q0 q1 q2 q3 q4
    go_wp2
    refine bodyPost_ret (v := .tuple #[.agg #[.int .i64 T.a, .int .i64 T.b, .int .i64 T.c, .slice A2 T.xs.length n2], .int .i64 0]) (ret_pat2 rfl rfl rfl HP.out.1) rfl ?_
    exact ⟨_, rfl, HP.out.2⟩
  · have d1 : (E == 0) = false := by rw [beq_eq_false_iff_ne]; exact hz
    have d2 : (E != 0) = true := by rw [bne_iff_ne]; exact hz
    have HT2 := Lib.hid (show T = zeroP by rw [HT.out, if_pos hz])
    have HP := Lib.hid (put_zero H1.out.2.2.2.1 H1.out.2.2.2.2 (by omega))
    obtain ⟨r0, r1, r2, r3, r4⟩ := PBox.cells H1.out.2.2.2.1
    have f0 : (w1).frozen? ⟨w.heap.size + 1 + 1 + 1, 0, none⟩ = false := frozen_of_row (w1) (w.heap.size + 1 + 1 + 1) 0 _ _ H1.out.2.2.2.1
    have f1 : (w1).frozen? ⟨w.heap.size + 1 + 1 + 1, 1, none⟩ = false := frozen_of_row (w1) (w.heap.size + 1 + 1 + 1) 1 _ _ H1.out.2.2.2.1
    have f2 : (w1).frozen? ⟨w.heap.size + 1 + 1 + 1, 2, none⟩ = false := frozen_of_row (w1) (w.heap.size + 1 + 1 + 1) 2 _ _ H1.out.2.2.2.1
    have f3 : (w1).frozen? ⟨w.heap.size + 1 + 1 + 1, 3, none⟩ = false := frozen_of_row (w1) (w.heap.size + 1 + 1 + 1) 3 _ _ H1.out.2.2.2.1
    clear hz HT HE H1
    go_wp2
    refine bodyPost_ret (v := .tuple #[.agg #[.int .i64 0, .int .i64 0, .int .i64 0, .slice none 0 0], .int .i64 E]) (ret_pat2 rfl rfl rfl HP.out.1) rfl ?_
    rw [HT2.out]
    exact OutP.zero HP.out.2
end Go.Proofs.YtgmokojdlbdjeaaGreatDoor
