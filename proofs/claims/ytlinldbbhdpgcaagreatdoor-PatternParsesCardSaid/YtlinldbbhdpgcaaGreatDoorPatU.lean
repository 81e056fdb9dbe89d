/-
  THE PROGRAM: Shift.
-/
import Derived.Test.YtlinldbbhdpgcaaGreatDoorPatL
import Derived.Test.YtlinldbbhdpgcaaGreatDoorPatM
import Derived.Test.YtlinldbbhdpgcaaGreatDoorRegP
namespace Go.Proofs.YtlinldbbhdpgcaaGreatDoor
open Go.RowKit
/-- The least pattern of a plane, or ErrLarge. -/
noncomputable def resT (F : Int → Int → Int) : PatD := if (lst F).a * (lst F).c ≤ 144 then lst F else zeroP
noncomputable def resZ (F : Int → Int → Int) : Int := if (lst F).a * (lst F).c ≤ 144 then 0 else 4
theorem presult_lst (F : Int → Int → Int) (a b c : Int) (hB : Base F a b c) (ha2 : a ≤ 10000000) (hc2 : c ≤ 10000000) (fv : Value) (w : World) (hF : FunV w fv F 50000000) :
    Calls Tryz.prog 33 #[.agg #[.int .i64 a, .int .i64 b, .int .i64 c, fv]] w (OutP w (resT F) (.int .i64 (resZ F))) := by
  obtain ⟨h1, h2⟩ := hB.lst
  have := presult_any F a b c _ _ _ hB h1 ha2 hc2 fv w hF
  unfold leastT tooBig at this
  rw [← h2] at this
  exact this
theorem res_small {F : Int → Int → Int} {a b c : Int} (hB : Base F a b c) (h : a * c ≤ 144) : resT F = lst F ∧ resZ F = 0 := by
  have := hB.lst_cells
  unfold resT resZ
  rw [if_pos (by omega), if_pos (by omega)]
  exact ⟨rfl, rfl⟩
/-- Moved. -/
def shiftF (F : Int → Int → Int) (dx dy : Int) : Int → Int → Int := fun x y => F (x - dx) (y - dy)
theorem Per.shift {F : Int → Int → Int} {a b dx dy : Int} (h : Per F a b) : Per (shiftF F dx dy) a b := fun x y => by
  unfold shiftF
  have := h (x - dx) (y - dy)
  rwa [show x - dx + a = x + a - dx by omega, show y - dy + b = y + b - dy by omega] at this
theorem Base.shift {F : Int → Int → Int} {a b c dx dy : Int} (h : Base F a b c) : Base (shiftF F dx dy) a b c := ⟨h.a0, h.c0, h.pa.shift, h.pb.shift⟩
theorem farC_bd {x : Int} (h : farC x = false) : -100000 ≤ x ∧ x ≤ 100000 := by
  simp only [farC, Bool.or_eq_false_iff, decide_eq_false_iff_not] at h
  omega
theorem chkP_zero {p : PatD} {xs : List Int} (h : chkP p xs = 0) : valP p = 0 ∧ ∀ x ∈ xs, -100000 ≤ x ∧ x ≤ 100000 := by
  unfold chkP at h
  split at h
  · rename_i hv; exact absurd h hv
  · rename_i hv
    refine ⟨by omega, fun x hx => ?_⟩
    split at h
    · cases h
    · rename_i ha
      rw [Bool.not_eq_true, List.any_eq_false] at ha
      exact farC_bd (by simpa using ha x hx)
theorem lst_pat {p : PatD} (h : valP p = 0) : Base (colF p) p.a p.b p.c := col_base (valP_zero h).ok
noncomputable def shiftT (p : PatD) (dx dy : Int) : PatD := if chkP p [dx, dy] ≠ 0 then zeroP else lst (shiftF (colF p) dx dy)
/-- A box of one integer. -/
def IBox (w : World) (b : Nat) (x : Int) : Prop := w.heap[b]? = some (.cells #[.int .i64 x] 3 (0, 0))
theorem IBox.keep {w w' : World} {b : Nat} {x : Int} (h : IBox w b x) (hb : Below w.heap.size w w') : IBox w' b x := (hb.block _ (Array.getElem?_eq_some_iff.1 h).1).trans h
theorem IBox.cell {w : World} {b : Nat} {x : Int} (h : IBox w b x) : w.cell? ⟨b, 0, none⟩ = some (.int .i64 x) := (cell_of_row w b 0 _ _ (0, 0) h).trans rfl
set_option maxRecDepth 100000 in
theorem shift_fun (w : World) (bx xb yb : Nat) (p : PatD) (A : Option Addr) (cap : Nat) (dx dy : Int) (h : PBox w bx p.a p.b p.c (.slice A p.xs.length cap)) (hx : IBox w xb dx) (hy : IBox w yb dy) (hp : PatOK p) (hi : PatIn w p A) (h1 : -100000 ≤ dx ∧ dx ≤ 100000) (h2 : -100000 ≤ dy ∧ dy ≤ 100000) :
    FunV w (.func (.func 31) #[] #[.pointer (some ⟨bx, 0, none⟩), .pointer (some ⟨xb, 0, none⟩), .pointer (some ⟨yb, 0, none⟩)]) (shiftF (colF p) dx dy) 50000000 := by
  refine ⟨_, _, rfl, fun args w' => ?_, fun w' hb x y h0 h3 h4 h5 => ?_⟩
  · go_simp
  · obtain ⟨q0, q1, q2, q3, q4⟩ := (h.keep hb).cells
    have q5 := (hx.keep hb).cell
    have q6 := (hy.keep hb).cell
    have k1 : IntKind.i64.wrap (x - dx) = x - dx := IntWalk.i64_in _ (by omega)
    have k2 : IntKind.i64.wrap (y - dy) = y - dy := IntWalk.i64_in _ (by omega)
    have HC := Lib.hid (pcolor_any p hp A p.xs.length cap (x - dx) (y - dy) (by omega) (by omega) (by omega) (by omega) w' (hi.below hb))
    obtain ⟨z, hz⟩ : ∃ z, z = colF p (x - dx) (y - dy) := ⟨_, rfl⟩
    have HZ := Lib.hid (show z = shiftF (colF p) dx dy x y from hz)
    rw [← hz] at HC
    clear h hi hb hp hx hy hz
    show Calls Tryz.prog 31 #[.int .i64 x, .int .i64 y, .pointer (some ⟨bx, 0, none⟩), .pointer (some ⟨xb, 0, none⟩), .pointer (some ⟨yb, 0, none⟩)] w' _
    go_enter Tryz.func31, Tryz.ntmps31
    go_wp2_with fail
    refine HC.out.mono ?_
    rintro e w2 ⟨rfl, hb2⟩
    go_wp2
    go_ret
    exact ⟨by rw [← HZ.out]; rfl, hb2⟩
theorem al5 (w : World) (o0 o1 o2 o3 o4 : Obj) : ((((((w.alloc o0).alloc o1).alloc o2).alloc o3).alloc o4).heap.size = w.heap.size + 5) ∧ (((((w.alloc o0).alloc o1).alloc o2).alloc o3).alloc o4).heap[w.heap.size]? = some o0 ∧ (((((w.alloc o0).alloc o1).alloc o2).alloc o3).alloc o4).heap[w.heap.size + 1]? = some o1 ∧ (((((w.alloc o0).alloc o1).alloc o2).alloc o3).alloc o4).heap[w.heap.size + 1 + 1]? = some o2 ∧ (((((w.alloc o0).alloc o1).alloc o2).alloc o3).alloc o4).heap[w.heap.size + 1 + 1 + 1]? = some o3 ∧ (((((w.alloc o0).alloc o1).alloc o2).alloc o3).alloc o4).heap[w.heap.size + 1 + 1 + 1 + 1]? = some o4 ∧ Below w.heap.size w (((((w.alloc o0).alloc o1).alloc o2).alloc o3).alloc o4) := by
  have e1 : (w.alloc o0).heap.size = w.heap.size + 1 := by simp
  have e2 : ((w.alloc o0).alloc o1).heap.size = w.heap.size + 1 + 1 := by simp
  have e3 : (((w.alloc o0).alloc o1).alloc o2).heap.size = w.heap.size + 1 + 1 + 1 := by simp
  have e4 : ((((w.alloc o0).alloc o1).alloc o2).alloc o3).heap.size = w.heap.size + 1 + 1 + 1 + 1 := by simp
  have h0 := heap_alloc_new w o0
  have h1 := heap_alloc_new (w.alloc o0) o1
  have h2 := heap_alloc_new ((w.alloc o0).alloc o1) o2
  have h3 := heap_alloc_new (((w.alloc o0).alloc o1).alloc o2) o3
  have h4 := heap_alloc_new ((((w.alloc o0).alloc o1).alloc o2).alloc o3) o4
  rw [e1] at h1
  rw [e2] at h2
  rw [e3] at h3
  rw [e4] at h4
  refine ⟨by simp, ?_, ?_, ?_, ?_, h4, (by repeat' (first | (with_reducible exact Below.refl _ _) | (with_reducible assumption) | (with_reducible refine below_drewN ?_ _) | (with_reducible refine below_step (by assumption) ?_ ?_) | (with_reducible refine Below.alloc ?_ ?_ _) | (with_reducible refine Below.setCell ?_ ?_ _) | (with_reducible refine Below.drew ?_) | go_size | (exact Below.size (by assumption)) | (refine Nat.le_trans (Below.size (by assumption)) ?_)))⟩
  · exact (heap_alloc_old _ _ (by omega)).trans ((heap_alloc_old _ _ (by omega)).trans ((heap_alloc_old _ _ (by omega)).trans ((heap_alloc_old _ _ (by omega)).trans h0)))
  · exact (heap_alloc_old _ _ (by omega)).trans ((heap_alloc_old _ _ (by omega)).trans ((heap_alloc_old _ _ (by omega)).trans h1))
  · exact (heap_alloc_old _ _ (by omega)).trans ((heap_alloc_old _ _ (by omega)).trans h2)
  · exact (heap_alloc_old _ _ (by omega)).trans h3
theorem al2 (w : World) (o0 o1 : Obj) : ((w.alloc o0).alloc o1).heap.size = w.heap.size + 2 ∧ ((w.alloc o0).alloc o1).heap[w.heap.size]? = some o0 ∧ ((w.alloc o0).alloc o1).heap[w.heap.size + 1]? = some o1 ∧ Below w.heap.size w ((w.alloc o0).alloc o1) := by
  have e1 : (w.alloc o0).heap.size = w.heap.size + 1 := by simp
  have h0 := heap_alloc_new w o0
  have h1 := heap_alloc_new (w.alloc o0) o1
  rw [e1] at h1
  exact ⟨by simp, (heap_alloc_old _ _ (by omega)).trans h0, h1, (by repeat' (first | (with_reducible exact Below.refl _ _) | (with_reducible assumption) | (with_reducible refine below_drewN ?_ _) | (with_reducible refine below_step (by assumption) ?_ ?_) | (with_reducible refine Below.alloc ?_ ?_ _) | (with_reducible refine Below.setCell ?_ ?_ _) | (with_reducible refine Below.drew ?_) | go_size | (exact Below.size (by assumption)) | (refine Nat.le_trans (Below.size (by assumption)) ?_)))⟩
set_option maxRecDepth 100000 in
set_option maxHeartbeats 1000000 in
theorem pshift_any (p : PatD) (hl : p.xs.length ≤ 1000000) (dx dy : Int) (A : Option Addr) (cap : Nat) (w : World) (hi : PatIn w p A) :
    Calls Tryz.prog 9 #[.agg #[.int .i64 p.a, .int .i64 p.b, .int .i64 p.c, .slice A p.xs.length cap], .int .i64 dx, .int .i64 dy] w (OutP w (shiftT p dx dy) (.int .i64 (chkP p [dx, dy]))) := by
  obtain ⟨T, hT⟩ : ∃ T, T = shiftT p dx dy := ⟨_, rfl⟩
  obtain ⟨E, hE⟩ : ∃ E, E = chkP p [dx, dy] := ⟨_, rfl⟩
  rw [← hT, ← hE]
  unfold shiftT at hT
  rw [← hE] at hT
  have HC := Lib.hid (fun B n c2 w hi hx => checkP_any p hl [dx, dy] (by simp) E hE.symm A cap B n c2 w hi hx)
  have HT := Lib.hid hT
  have HE := Lib.hid hE
  have HI := Lib.hid hi
  have hmf : ∀ (fn : Fn) (first cap : Array Value) (w : World), (Instr.makeFunc fn first cap).run Tryz.prog w = .ok (.func fn first cap) w := fun _ _ _ _ => rfl
  clear hi hT hE
  go_enter Tryz.func9, Tryz.ntmps9
  go_wp2_with fail
  obtain ⟨a0, a1, a2, a3, a4, a5, a6⟩ := al5 w (.cells #[.int .i64 p.a, .int .i64 p.b, .int .i64 p.c, .slice A p.xs.length cap] 24) (.cells #[.int .i64 dx] 3) (.cells #[.int .i64 dy] 3) (.cells #[.int .i64 0, .int .i64 0, .int .i64 0, .slice none 0 0] 24) (.cells #[.int .i64 dx, .int .i64 dy] 3)
  obtain ⟨V, hV⟩ : ∃ V, V = ((((w.alloc (.cells #[.int .i64 p.a, .int .i64 p.b, .int .i64 p.c, .slice A p.xs.length cap] 24)).alloc (.cells #[.int .i64 dx] 3)).alloc (.cells #[.int .i64 dy] 3)).alloc (.cells #[.int .i64 0, .int .i64 0, .int .i64 0, .slice none 0 0] 24)).alloc (.cells #[.int .i64 dx, .int .i64 dy] 3) := ⟨_, rfl⟩
  rw [← hV] at a0 a1 a2 a3 a4 a5 a6 ⊢
  have hrow : Row V (w.heap.size + 1 + 1 + 1 + 1) (#[Value.int .i64 dx, Value.int .i64 dy].toList) := ⟨_, _, a5, by simp, by simp⟩
  have H0 := Lib.hid (show PBox V w.heap.size p.a p.b p.c (.slice A p.xs.length cap) ∧ IBox V (w.heap.size + 1) dx ∧ IBox V (w.heap.size + 1 + 1) dy ∧ PBox V (w.heap.size + 1 + 1 + 1) 0 0 0 (.slice none 0 0) ∧ Below w.heap.size w V from ⟨a1, a2, a3, a4, a6⟩)
  have hck := HC.out (some ⟨w.heap.size + 1 + 1 + 1 + 1, 0, none⟩) 2 2 V (HI.out.below a6) (RowI.isL (zs := [dx, dy]) hrow)
  clear hV a0 a1 a2 a3 a4 a5 a6 hrow HC
  refine hck.mono ?_
  rintro e w1 ⟨rfl, hb1⟩
  have H1 := Lib.hid (show PBox w1 w.heap.size p.a p.b p.c (.slice A p.xs.length cap) ∧ IBox w1 (w.heap.size + 1) dx ∧ IBox w1 (w.heap.size + 1 + 1) dy ∧ PBox w1 (w.heap.size + 1 + 1 + 1) 0 0 0 (.slice none 0 0) ∧ Below w.heap.size w w1 from
    ⟨H0.out.1.keep hb1, H0.out.2.1.keep hb1, H0.out.2.2.1.keep hb1, H0.out.2.2.2.1.keep hb1, H0.out.2.2.2.2.trans (hb1.mono H0.out.2.2.2.2.size)⟩)
  clear H0 hck hb1 V
  by_cases hz : E = 0
  · subst hz
    have hT := HT.out
    rw [if_neg (by simp)] at hT
    obtain ⟨hv, hfar⟩ := chkP_zero HE.out.symm
    have hbase : Base (shiftF (colF p) dx dy) p.a p.b p.c := (lst_pat hv).shift
    obtain ⟨z1, z2⟩ := res_small hbase (valP_zero hv).ac
    have hfun := shift_fun w1 w.heap.size (w.heap.size + 1) (w.heap.size + 1 + 1) p A cap dx dy H1.out.1 H1.out.2.1 H1.out.2.2.1 (valP_zero hv).ok (HI.out.below H1.out.2.2.2.2) (hfar dx (by simp)) (hfar dy (by simp))
    have hres := presult_lst _ p.a p.b p.c hbase (by have := (valP_zero hv).a1; omega) (by have := (valP_zero hv).c1; omega) _ w1 hfun
    rw [z1, z2, ← hT] at hres
    have HRES := Lib.hid hres
    clear hT hv hfar hbase z1 z2 hfun hres HT HE
    obtain ⟨q0, q1, q2, q3, q4⟩ := H1.out.1.cells
    go_wp2_with fail
    refine HRES.out.mono ?_
    rintro e w2 ⟨v, rfl, hown, hb2⟩
    obtain ⟨A2, n2, rfl, -⟩ := hown.isL
    have hr2 := H1.out.2.2.2.1.keep hb2
    have HP := Lib.hid (put_ret hr2 (H1.out.2.2.2.2.trans (hb2.mono H1.out.2.2.2.2.size)) (by omega) T _ hown H1.out.2.2.2.2.size (Array.getElem?_eq_some_iff.1 H1.out.2.2.2.1).1)
    obtain ⟨r0, r1, r2, r3, r4⟩ := PBox.cells hr2
    have f0 : (w2).frozen? ⟨w.heap.size + 1 + 1 + 1, 0, none⟩ = false := frozen_of_row (w2) (w.heap.size + 1 + 1 + 1) 0 _ _ hr2
    have f1 : (w2).frozen? ⟨w.heap.size + 1 + 1 + 1, 1, none⟩ = false := frozen_of_row (w2) (w.heap.size + 1 + 1 + 1) 1 _ _ hr2
    have f2 : (w2).frozen? ⟨w.heap.size + 1 + 1 + 1, 2, none⟩ = false := frozen_of_row (w2) (w.heap.size + 1 + 1 + 1) 2 _ _ hr2
    have f3 : (w2).frozen? ⟨w.heap.size + 1 + 1 + 1, 3, none⟩ = false := frozen_of_row (w2) (w.heap.size + 1 + 1 + 1) 3 _ _ hr2
    clear hown hb2 hr2 HRES q0 q1 q2 q3 q4
    go_wp2
    refine bodyPost_ret (v := .tuple #[.agg #[.int .i64 T.a, .int .i64 T.b, .int .i64 T.c, .slice A2 T.xs.length n2], .int .i64 0]) (ret_pat2 rfl rfl rfl HP.out.1) rfl ?_
    exact ⟨_, rfl, HP.out.2⟩
  · have d1 : (E == 0) = false := by rw [beq_eq_false_iff_ne]; exact hz
    have d2 : (E != 0) = true := by rw [bne_iff_ne]; exact hz
    have HT2 := Lib.hid (show T = zeroP by rw [HT.out, if_pos hz])
    have HP := Lib.hid (put_zero H1.out.2.2.2.1 H1.out.2.2.2.2 (by omega))
    obtain ⟨r0, r1, r2, r3, r4⟩ := PBox.cells H1.out.2.2.2.1
    have f0 : (w1).frozen? ⟨w.heap.size + 1 + 1 + 1, 0, none⟩ = false := frozen_of_row (w1) (w.heap.size + 1 + 1 + 1) 0 _ _ H1.out.2.2.2.1
    have f1 : (w1).frozen? ⟨w.heap.size + 1 + 1 + 1, 1, none⟩ = false := frozen_of_row (w1) (w.heap.size + 1 + 1 + 1) 1 _ _ H1.out.2.2.2.1
    have f2 : (w1).frozen? ⟨w.heap.size + 1 + 1 + 1, 2, none⟩ = false := frozen_of_row (w1) (w.heap.size + 1 + 1 + 1) 2 _ _ H1.out.2.2.2.1
    have f3 : (w1).frozen? ⟨w.heap.size + 1 + 1 + 1, 3, none⟩ = false := frozen_of_row (w1) (w.heap.size + 1 + 1 + 1) 3 _ _ H1.out.2.2.2.1
    clear hz HT HE H1
    go_wp2
    refine bodyPost_ret (v := .tuple #[.agg #[.int .i64 0, .int .i64 0, .int .i64 0, .slice none 0 0], .int .i64 E]) (ret_pat2 rfl rfl rfl HP.out.1) rfl ?_
    rw [HT2.out]
    exact OutP.zero HP.out.2
end Go.Proofs.YtlinldbbhdpgcaaGreatDoor
/-
  THE PROGRAM: Turn, Mirror.
-/
namespace Go.Proofs.YtlinldbbhdpgcaaGreatDoor
open Go.RowKit
attribute [local go_sem] sub_cell sub_frozen
attribute [local irreducible] RP.plainUpon RP.stepC
/-- Turned, mirrored: what the calls answer. -/
noncomputable def turnT (p : PatD) : PatD := if valP p ≠ 0 then zeroP else lst (turnF (colF p))
def mirF (F : Int → Int → Int) : Int → Int → Int := fun x y => F (-x) y
noncomputable def mirT (p : PatD) : PatD := if valP p ≠ 0 then zeroP else lst (mirF (colF p))
theorem per_mir {F : Int → Int → Int} {dx dy : Int} : Per (mirF F) dx dy ↔ Per F (-dx) dy := by
  constructor
  · intro h x y
    have := h (-x) y
    unfold mirF at this
    rw [show -(-x + dx) = x + -dx by omega, show - -x = x by omega] at this
    exact this
  · intro h x y
    have := h (-x) y
    unfold mirF
    rw [show -(x + dx) = -x + -dx by omega]
    exact this
theorem Base.mir {F : Int → Int → Int} {a b c : Int} (h : Base F a b c) : Base (mirF F) a ((-b) % a) c := by
  refine ⟨h.a0, h.c0, per_mir.2 (h.pa.neg.same rfl (by omega)), per_mir.2 ?_⟩
  have e := Int.mul_ediv_add_emod (-b) a
  have e2 : (-b) / a * a = a * ((-b) / a) := Int.mul_comm _ _
  exact (h.pb.add (h.pa.mul ((-b) / a))).same (by omega) (by rw [Int.mul_zero]; omega)
theorem turn_small {p : PatD} (h : valP p = 0) : resT (turnF (colF p)) = lst (turnF (colF p)) ∧ resZ (turnF (colF p)) = 0 := by
  have hg := valP_zero h
  obtain ⟨A, B, C, ⟨h1, h2, h3, h4, h5, h6, h7⟩, h8, -, h9, -⟩ := turn_lat (b := p.b) hg.a0 hg.c0
  exact res_small ((lst_pat h).turn h1 h3 h8 h9) (by rw [h5]; exact hg.ac)
set_option maxRecDepth 100000 in
theorem turn_fun (w : World) (bx : Nat) (p : PatD) (A : Option Addr) (cap : Nat) (h : PBox w bx p.a p.b p.c (.slice A p.xs.length cap)) (hp : PatOK p) (hi : PatIn w p A) :
    FunV w (.func (.func 35) #[] #[.pointer (some ⟨bx, 0, none⟩)]) (turnF (colF p)) 50000000 := by
  refine ⟨_, _, rfl, fun args w' => ?_, fun w' hb x y h0 h3 h4 h5 => ?_⟩
  · go_simp
  · obtain ⟨q0, q1, q2, q3, q4⟩ := (h.keep hb).cells
    have k1 : IntKind.i64.wrap (-x) = -x := IntWalk.i64_in _ (by omega)
    have HC := Lib.hid (pcolor_any p hp A p.xs.length cap y (-x) (by omega) (by omega) (by omega) (by omega) w' (hi.below hb))
    obtain ⟨z, hz⟩ : ∃ z, z = colF p y (-x) := ⟨_, rfl⟩
    have HZ := Lib.hid (show z = turnF (colF p) x y from hz)
    rw [← hz] at HC
    clear h hi hb hp hz
    show Calls Tryz.prog 35 #[.int .i64 x, .int .i64 y, .pointer (some ⟨bx, 0, none⟩)] w' _
    go_enter Tryz.func35, Tryz.ntmps35
    go_wp2_with fail
    refine HC.out.mono ?_
    rintro e w2 ⟨rfl, hb2⟩
    go_wp2
    go_ret
    exact ⟨by rw [← HZ.out]; rfl, hb2⟩
set_option maxRecDepth 100000 in
theorem mir_fun (w : World) (bx : Nat) (p : PatD) (A : Option Addr) (cap : Nat) (h : PBox w bx p.a p.b p.c (.slice A p.xs.length cap)) (hp : PatOK p) (hi : PatIn w p A) :
    FunV w (.func (.func 37) #[] #[.pointer (some ⟨bx, 0, none⟩)]) (mirF (colF p)) 50000000 := by
  refine ⟨_, _, rfl, fun args w' => ?_, fun w' hb x y h0 h3 h4 h5 => ?_⟩
  · go_simp
  · obtain ⟨q0, q1, q2, q3, q4⟩ := (h.keep hb).cells
    have k1 : IntKind.i64.wrap (-x) = -x := IntWalk.i64_in _ (by omega)
    have HC := Lib.hid (pcolor_any p hp A p.xs.length cap (-x) y (by omega) (by omega) (by omega) (by omega) w' (hi.below hb))
    obtain ⟨z, hz⟩ : ∃ z, z = colF p (-x) y := ⟨_, rfl⟩
    have HZ := Lib.hid (show z = mirF (colF p) x y from hz)
    rw [← hz] at HC
    clear h hi hb hp hz
    show Calls Tryz.prog 37 #[.int .i64 x, .int .i64 y, .pointer (some ⟨bx, 0, none⟩)] w' _
    go_enter Tryz.func37, Tryz.ntmps37
    go_wp2_with fail
    refine HC.out.mono ?_
    rintro e w2 ⟨rfl, hb2⟩
    go_wp2
    go_ret
    exact ⟨by rw [← HZ.out]; rfl, hb2⟩
set_option maxRecDepth 100000 in
set_option maxHeartbeats 1000000 in
theorem pturn_any (p : PatD) (hl : p.xs.length ≤ 1000000) (A : Option Addr) (cap : Nat) (w : World) (hi : PatIn w p A) :
    Calls Tryz.prog 10 #[.agg #[.int .i64 p.a, .int .i64 p.b, .int .i64 p.c, .slice A p.xs.length cap]] w (OutP w (turnT p) (.int .i64 (valP p))) := by
  obtain ⟨T, hT⟩ : ∃ T, T = turnT p := ⟨_, rfl⟩
  obtain ⟨E, hE⟩ : ∃ E, E = valP p := ⟨_, rfl⟩
  rw [← hT, ← hE]
  unfold turnT at hT
  rw [← hE] at hT
  have HC := Lib.hid (fun w hi => validateP_any p hl E hE.symm A cap w hi)
  have HT := Lib.hid hT
  have HE := Lib.hid hE
  have HI := Lib.hid hi
  have hmf : ∀ (fn : Fn) (first cap : Array Value) (w : World), (Instr.makeFunc fn first cap).run Tryz.prog w = .ok (.func fn first cap) w := fun _ _ _ _ => rfl
  clear hi hT hE
  go_enter Tryz.func10, Tryz.ntmps10
  go_wp2_with fail
  obtain ⟨a0, a1, a2, a3⟩ := al2 w (.cells #[.int .i64 p.a, .int .i64 p.b, .int .i64 p.c, .slice A p.xs.length cap] 24) (.cells #[.int .i64 0, .int .i64 0, .int .i64 0, .slice none 0 0] 24)
  obtain ⟨V, hV⟩ : ∃ V, V = (w.alloc (.cells #[.int .i64 p.a, .int .i64 p.b, .int .i64 p.c, .slice A p.xs.length cap] 24)).alloc (.cells #[.int .i64 0, .int .i64 0, .int .i64 0, .slice none 0 0] 24) := ⟨_, rfl⟩
  rw [← hV] at a0 a1 a2 a3 ⊢
  have hck := HC.out V (HI.out.below a3)
  refine hck.mono ?_
  rintro e w1 ⟨rfl, hb1⟩
  have H1 := Lib.hid (show PBox w1 w.heap.size p.a p.b p.c (.slice A p.xs.length cap) ∧ PBox w1 (w.heap.size + 1) 0 0 0 (.slice none 0 0) ∧ Below w.heap.size w w1 from
    ⟨PBox.keep (w := V) a1 hb1, PBox.keep (w := V) a2 hb1, a3.trans (hb1.mono a3.size)⟩)
  clear hV a0 a1 a2 a3 HC hck hb1 V
  by_cases hz : E = 0
  · subst hz
    have hT := HT.out
    rw [if_neg (by simp)] at hT
    have hv : valP p = 0 := HE.out.symm
    have hg := valP_zero hv
    obtain ⟨z1, z2⟩ := turn_small hv
    have hfun := turn_fun w1 w.heap.size p A cap H1.out.1 hg.ok (HI.out.below H1.out.2.2)
    have h1 : 0 ≤ p.a * p.c := Int.mul_nonneg (by have := hg.a0; omega) (by have := hg.c0; omega)
    have hres := presult_lst _ (p.a * p.c) 0 (p.a * p.c) (lst_pat hv).turn2 (by have := hg.ac; omega) (by have := hg.ac; omega) _ w1 hfun
    rw [z1, z2, ← hT] at hres
    obtain ⟨n, hn⟩ : ∃ n, n = p.a * p.c := ⟨_, rfl⟩
    have kn : IntKind.i64.wrap (p.a * p.c) = n := by rw [hn]; exact IntWalk.i64_in _ (by have := hg.ac; omega)
    rw [← hn] at hres
    have HRES := Lib.hid hres
    clear hT hv hg z1 z2 hfun hres HT HE h1 hn
    obtain ⟨q0, q1, q2, q3, q4⟩ := H1.out.1.cells
    go_wp2_with fail
    refine HRES.out.mono ?_
    rintro e w2 ⟨v, rfl, hown, hb2⟩
    obtain ⟨A2, n2, rfl, -⟩ := hown.isL
    have hr2 := H1.out.2.1.keep hb2
    have HP := Lib.hid (put_ret hr2 (H1.out.2.2.trans (hb2.mono H1.out.2.2.size)) (by omega) T _ hown H1.out.2.2.size (Array.getElem?_eq_some_iff.1 H1.out.2.1).1)
    obtain ⟨r0, r1, r2, r3, r4⟩ := PBox.cells hr2
    have f0 : (w2).frozen? ⟨w.heap.size + 1, 0, none⟩ = false := frozen_of_row (w2) (w.heap.size + 1) 0 _ _ hr2
    have f1 : (w2).frozen? ⟨w.heap.size + 1, 1, none⟩ = false := frozen_of_row (w2) (w.heap.size + 1) 1 _ _ hr2
    have f2 : (w2).frozen? ⟨w.heap.size + 1, 2, none⟩ = false := frozen_of_row (w2) (w.heap.size + 1) 2 _ _ hr2
    have f3 : (w2).frozen? ⟨w.heap.size + 1, 3, none⟩ = false := frozen_of_row (w2) (w.heap.size + 1) 3 _ _ hr2
    clear hown hb2 hr2 HRES q0 q1 q2 q3 q4
    go_wp2
    refine bodyPost_ret (v := .tuple #[.agg #[.int .i64 T.a, .int .i64 T.b, .int .i64 T.c, .slice A2 T.xs.length n2], .int .i64 0]) (ret_pat2 rfl rfl rfl HP.out.1) rfl ?_
    exact ⟨_, rfl, HP.out.2⟩
  · have d1 : (E == 0) = false := by rw [beq_eq_false_iff_ne]; exact hz
    have d2 : (E != 0) = true := by rw [bne_iff_ne]; exact hz
    have HT2 := Lib.hid (show T = zeroP by rw [HT.out, if_pos hz])
    have HP := Lib.hid (put_zero H1.out.2.1 H1.out.2.2 (by omega))
    obtain ⟨r0, r1, r2, r3, r4⟩ := PBox.cells H1.out.2.1
    have f0 : (w1).frozen? ⟨w.heap.size + 1, 0, none⟩ = false := frozen_of_row (w1) (w.heap.size + 1) 0 _ _ H1.out.2.1
    have f1 : (w1).frozen? ⟨w.heap.size + 1, 1, none⟩ = false := frozen_of_row (w1) (w.heap.size + 1) 1 _ _ H1.out.2.1
    have f2 : (w1).frozen? ⟨w.heap.size + 1, 2, none⟩ = false := frozen_of_row (w1) (w.heap.size + 1) 2 _ _ H1.out.2.1
    have f3 : (w1).frozen? ⟨w.heap.size + 1, 3, none⟩ = false := frozen_of_row (w1) (w.heap.size + 1) 3 _ _ H1.out.2.1
    clear hz HT HE H1
    go_wp2
    refine bodyPost_ret (v := .tuple #[.agg #[.int .i64 0, .int .i64 0, .int .i64 0, .slice none 0 0], .int .i64 E]) (ret_pat2 rfl rfl rfl HP.out.1) rfl ?_
    rw [HT2.out]
    exact OutP.zero HP.out.2
set_option maxRecDepth 100000 in
set_option maxHeartbeats 1000000 in
theorem pmirror_any (p : PatD) (hl : p.xs.length ≤ 1000000) (A : Option Addr) (cap : Nat) (w : World) (hi : PatIn w p A) :
    Calls Tryz.prog 11 #[.agg #[.int .i64 p.a, .int .i64 p.b, .int .i64 p.c, .slice A p.xs.length cap]] w (OutP w (mirT p) (.int .i64 (valP p))) := by
  obtain ⟨T, hT⟩ : ∃ T, T = mirT p := ⟨_, rfl⟩
  obtain ⟨E, hE⟩ : ∃ E, E = valP p := ⟨_, rfl⟩
  rw [← hT, ← hE]
  unfold mirT at hT
  rw [← hE] at hT
  have HC := Lib.hid (fun w hi => validateP_any p hl E hE.symm A cap w hi)
  have HT := Lib.hid hT
  have HE := Lib.hid hE
  have HI := Lib.hid hi
  have hmf : ∀ (fn : Fn) (first cap : Array Value) (w : World), (Instr.makeFunc fn first cap).run Tryz.prog w = .ok (.func fn first cap) w := fun _ _ _ _ => rfl
  clear hi hT hE
  go_enter Tryz.func11, Tryz.ntmps11
  go_wp2_with fail
  obtain ⟨a0, a1, a2, a3⟩ := al2 w (.cells #[.int .i64 p.a, .int .i64 p.b, .int .i64 p.c, .slice A p.xs.length cap] 24) (.cells #[.int .i64 0, .int .i64 0, .int .i64 0, .slice none 0 0] 24)
  obtain ⟨V, hV⟩ : ∃ V, V = (w.alloc (.cells #[.int .i64 p.a, .int .i64 p.b, .int .i64 p.c, .slice A p.xs.length cap] 24)).alloc (.cells #[.int .i64 0, .int .i64 0, .int .i64 0, .slice none 0 0] 24) := ⟨_, rfl⟩
  rw [← hV] at a0 a1 a2 a3 ⊢
  have hck := HC.out V (HI.out.below a3)
  refine hck.mono ?_
  rintro e w1 ⟨rfl, hb1⟩
  have H1 := Lib.hid (show PBox w1 w.heap.size p.a p.b p.c (.slice A p.xs.length cap) ∧ PBox w1 (w.heap.size + 1) 0 0 0 (.slice none 0 0) ∧ Below w.heap.size w w1 from
    ⟨PBox.keep (w := V) a1 hb1, PBox.keep (w := V) a2 hb1, a3.trans (hb1.mono a3.size)⟩)
  clear hV a0 a1 a2 a3 HC hck hb1 V
  by_cases hz : E = 0
  · subst hz
    have hT := HT.out
    rw [if_neg (by simp)] at hT
    have hv : valP p = 0 := HE.out.symm
    have hg := valP_zero hv
    have hbase := (lst_pat hv).mir
    obtain ⟨z1, z2⟩ := res_small hbase hg.ac
    have HFU := Lib.hid (fun w2 (hb : Below w1.heap.size w1 w2) => mir_fun w2 w.heap.size p A cap (H1.out.1.keep hb) hg.ok ((HI.out.below H1.out.2.2).below hb))
    have hres := fun fv w2 hf => presult_lst _ p.a ((-p.b) % p.a) p.c hbase (by have := hg.a1; omega) (by have := hg.c1; omega) fv w2 hf
    rw [z1, z2, ← hT] at hres
    have HRES := Lib.hid hres
    have HMO := Lib.hid (pmod_any (-p.b) p.a hg.a0 (by have := hg.b1; have := hg.a1; omega) (by have := hg.b0; omega) (by have := hg.a1; omega))
    have kb : IntKind.i64.wrap (-p.b) = -p.b := IntWalk.i64_in _ (by have := hg.b0; have := hg.b1; have := hg.a1; omega)
    clear hT hv hg z1 z2 hbase hres HT HE
    obtain ⟨q0, q1, q2, q3, q4⟩ := H1.out.1.cells
    have hq5 : w.heap.size < w.heap.size + 1 := by omega
    go_upto_region 4 with fail
    refine RP.region_treeP (C := fun w' => ∃ x : SubW (w.heap.size + 1) w1, w' = x.val) (fun _ _ _ => False) [0, 1, 2, 3, 5, 6, 8, 9] (.read 4 (.read 10 (.one 7 (.one 11 (.one 12 (.read 13 (.one 14 (.one 15 .nil)))))))) 16 (fun _ _ _ h => h.elim) (by kernel_rfl) (by kernel_rfl) (sub_start _ w1) ?_
    simp only [pickL, List.getElem?_cons_zero, List.getElem?_cons_succ]
    repeat (go_big_quiet_step (fail))
    refine wpQuiet_nil ?_
    obtain ⟨w5, hw5⟩ : ∃ w5 : World, w5 = { w1 with drawn := w1.drawn + 1 } := ⟨_, rfl⟩
    have hb5 : Below w1.heap.size w1 w5 := by rw [hw5]; exact (Below.refl _ _).drew
    rw [← hw5]
    have hsz : w.heap.size + 1 < w1.heap.size := (Array.getElem?_eq_some_iff.1 H1.out.2.1).1
    have hfu := HFU.out w5 hb5
    clear q0 q1 q2 q3 q4 hw5
    simp only [RP.treeS, atOp, List.getElem?_cons_zero, List.getElem?_cons_succ]
    refine ⟨sub_of (hb5.mono (by omega)), ?_⟩
    refine ⟨_, s_read (.int .i64 (-p.b)) rfl (fun w _ => by go_simp), sub_of (hb5.mono (by omega)), ?_⟩
    refine ⟨_, s_read (.func (.func 37) #[] #[.pointer (some ⟨w.heap.size, 0, none⟩)]) rfl (fun w _ => by go_simp), sub_of (hb5.mono (by omega)), ?_⟩
    refine RP.p_call 36 #[.int .i64 (-p.b), .int .i64 p.a] rfl (by go_simp) ?_
    refine (HMO.out w5).mono ?_
    rintro e w6 ⟨rfl, rfl⟩
    refine .inl ⟨_, rfl, ?_⟩
    obtain ⟨mb, hmb⟩ : ∃ mb, mb = -p.b % p.a := ⟨_, rfl⟩
    rw [← hmb] at HRES ⊢
    refine ⟨sub_of (hb5.mono (by omega)), ?_⟩
    refine RP.p_val (.agg #[.int .i64 p.a, .int .i64 mb, .int .i64 p.c, .func (.func 37) #[] #[.pointer (some ⟨w.heap.size, 0, none⟩)]]) w5 rfl (by go_simp) ?_
    refine ⟨sub_of (hb5.mono (by omega)), ?_⟩
    refine RP.p_call 33 #[.agg #[.int .i64 p.a, .int .i64 mb, .int .i64 p.c, .func (.func 37) #[] #[.pointer (some ⟨w.heap.size, 0, none⟩)]]] rfl (by go_simp) ?_
    refine (HRES.out _ w5 hfu).mono ?_
    rintro e w7 ⟨v, rfl, hown, hb7⟩
    refine .inl ⟨_, rfl, ?_⟩
    have hb7' := hb5.trans (hb7.mono hb5.size)
    refine ⟨sub_of (hb7'.mono (by omega)), ?_⟩
    obtain ⟨A7, k7, rfl, -⟩ := hown.isL
    have hr7 := H1.out.2.1.keep hb7'
    have HF := Lib.hid (put_row (w := w) hr7 (H1.out.2.2.trans (hb7'.mono (by omega))) (by omega) T A7 k7 (.int .i64 0) hown (by have := hb5.size; omega) (by have := hb5.size; omega))
    obtain ⟨l7, hl7⟩ : ∃ l7, l7 = T.xs.length := ⟨_, rfl⟩
    rw [← hl7] at hown HF ⊢
    have hgr := row_grown w7 (w.heap.size + 1) #[.int .i64 T.a, .int .i64 T.b, .int .i64 T.c, .slice A7 l7 k7]
    have hb8 : Below (w.heap.size + 1) w1 (w7.setRow (w.heap.size + 1) #[.int .i64 T.a, .int .i64 T.b, .int .i64 T.c, .slice A7 l7 k7]) := (hb7'.mono (by omega)).grown hgr (by have := hb7'.size; omega) (fun g e => by cases e; omega)
    refine ⟨_, s_read (.agg #[.int .i64 T.a, .int .i64 T.b, .int .i64 T.c, .slice A7 l7 k7]) rfl (fun w _ => by go_simp), sub_of (hb7'.mono (by omega)), ?_⟩
    refine RP.p_val (.int .i64 0) w7 rfl (by go_simp) ?_
    refine ⟨sub_of (hb7'.mono (by omega)), ?_⟩
    have hC8 := sub_of hb8
    refine RP.p_skip (w7.setRow (w.heap.size + 1) #[.int .i64 T.a, .int .i64 T.b, .int .i64 T.c, .slice A7 l7 k7]) rfl (st_pat_run (.tmp 2) (.tmp 24) rfl hr7 T.a T.b T.c A7 l7 k7 (by go_simp) (by go_simp)) ?_
    obtain ⟨w8, hw8⟩ : ∃ w8, w8 = w7.setRow (w.heap.size + 1) #[.int .i64 T.a, .int .i64 T.b, .int .i64 T.c, .slice A7 l7 k7] := ⟨_, rfl⟩
    rw [← hw8] at HF hC8 ⊢
    clear hw8 hb8 hgr hr7 hown hb7 hb7' hb5 hfu
    refine ⟨hC8, ?_⟩
    refine RP.p_assign _ rfl rfl (.int .i64 0) (by go_simp) ?_
    go_simp
    go_wp2
    refine bodyPost_ret (v := .tuple #[.agg #[.int .i64 T.a, .int .i64 T.b, .int .i64 T.c, .slice A7 l7 k7], .int .i64 0]) (ret_pat2 rfl rfl rfl HF.out.1) rfl ?_
    exact HF.out.2
  · have d1 : (E == 0) = false := by rw [beq_eq_false_iff_ne]; exact hz
    have d2 : (E != 0) = true := by rw [bne_iff_ne]; exact hz
    have HT2 := Lib.hid (show T = zeroP by rw [HT.out, if_pos hz])
    have HP := Lib.hid (put_zero H1.out.2.1 H1.out.2.2 (by omega))
    obtain ⟨r0, r1, r2, r3, r4⟩ := PBox.cells H1.out.2.1
    have f0 : (w1).frozen? ⟨w.heap.size + 1, 0, none⟩ = false := frozen_of_row (w1) (w.heap.size + 1) 0 _ _ H1.out.2.1
    have f1 : (w1).frozen? ⟨w.heap.size + 1, 1, none⟩ = false := frozen_of_row (w1) (w.heap.size + 1) 1 _ _ H1.out.2.1
    have f2 : (w1).frozen? ⟨w.heap.size + 1, 2, none⟩ = false := frozen_of_row (w1) (w.heap.size + 1) 2 _ _ H1.out.2.1
    have f3 : (w1).frozen? ⟨w.heap.size + 1, 3, none⟩ = false := frozen_of_row (w1) (w.heap.size + 1) 3 _ _ H1.out.2.1
    clear hz HT HE H1
    go_wp2
    refine bodyPost_ret (v := .tuple #[.agg #[.int .i64 0, .int .i64 0, .int .i64 0, .slice none 0 0], .int .i64 E]) (ret_pat2 rfl rfl rfl HP.out.1) rfl ?_
    rw [HT2.out]
    exact OutP.zero HP.out.2
end Go.Proofs.YtlinldbbhdpgcaaGreatDoor
/-
  THE PROGRAM: Recolor, Swell.
-/
namespace Go.Proofs.YtlinldbbhdpgcaaGreatDoor
open Go.RowKit
attribute [local go_sem] sub_cell sub_frozen
attribute [local irreducible] RP.plainUpon RP.stepC
/-- Other colors: what the call answers. -/
def recF (cs : List Int) (F : Int → Int → Int) : Int → Int → Int := fun x y => cs.getD (F x y).toNat 0
def recZ (p : PatD) (cs : List Int) : Int := if valP p ≠ 0 then valP p else if cs.length ≠ 8 ∨ cs.any badC = true then 1 else 0
noncomputable def recT (p : PatD) (cs : List Int) : PatD := if recZ p cs ≠ 0 then zeroP else lst (recF cs (colF p))
theorem Base.recol {F : Int → Int → Int} {a b c : Int} (h : Base F a b c) (cs : List Int) : Base (recF cs F) a b c :=
  ⟨h.a0, h.c0, fun x y => by unfold recF; rw [h.pa], fun x y => by unfold recF; rw [h.pb]⟩
theorem recZ_zero {p : PatD} {cs : List Int} (h : recZ p cs = 0) : valP p = 0 ∧ cs.length = 8 ∧ ∀ x ∈ cs, 0 ≤ x ∧ x < 8 := by
  unfold recZ at h
  split at h
  · rename_i hv; exact absurd h hv
  · rename_i hv
    split at h
    · cases h
    · rename_i h1
      refine ⟨by omega, by omega, fun x hx => ?_⟩
      have h4 : ¬ cs.any badC = true := fun e => h1 (.inr e)
      rw [Bool.not_eq_true, List.any_eq_false] at h4
      have := h4 x hx
      simp only [badC, Bool.or_eq_true, decide_eq_true_eq] at this
      omega
theorem enter_rec (args : Array Value) (w : World) : (callFunc 95 args).run Tryz.prog w = .ok (.enter 95 args) w := by go_simp
set_option maxRecDepth 100000 in
theorem pred_rec (w : World) (xs : List Int) : PPred 95 #[] badC w xs := fun w' x _ _ => by
  show Calls Tryz.prog 95 #[.int .i64 x] w' _
  obtain ⟨r, hr⟩ : ∃ r, r = badC x := ⟨_, rfl⟩
  rw [← hr]
  unfold badC at hr
  by_cases h : x < 0
  · have HR := Lib.hid (show true = r by rw [hr, decide_eq_true h]; rfl)
    have d1 : decide (x < 0) = true := decide_eq_true h
    clear hr
    go_enter Tryz.func95, Tryz.ntmps95
    go_wp2
    go_ret
    exact ⟨by rw [← HR.out]; rfl, Below.refl _ _⟩
  · have HR := Lib.hid (show decide (8 ≤ x) = r by rw [hr, decide_eq_false h]; rfl)
    have d1 : decide (x < 0) = false := decide_eq_false h
    clear hr
    go_enter Tryz.func95, Tryz.ntmps95
    go_wp2
    go_ret
    exact ⟨by rw [← HR.out]; rfl, Below.refl _ _⟩
/-- A box of one slice. -/
def SBox (w : World) (b : Nat) (A : Option Addr) (n c : Nat) : Prop := w.heap[b]? = some (.cells #[.slice A n c] 22 (0, 0))
theorem SBox.keep {w w' : World} {b : Nat} {A : Option Addr} {n c : Nat} (h : SBox w b A n c) (hb : Below w.heap.size w w') : SBox w' b A n c := (hb.block _ (Array.getElem?_eq_some_iff.1 h).1).trans h
theorem SBox.cell {w : World} {b : Nat} {A : Option Addr} {n c : Nat} (h : SBox w b A n c) : w.cell? ⟨b, 0, none⟩ = some (.slice A n c) ∧ b < w.heap.size := ⟨(cell_of_row w b 0 _ _ (0, 0) h).trans rfl, (Array.getElem?_eq_some_iff.1 h).1⟩
set_option maxRecDepth 100000 in
set_option maxHeartbeats 1000000 in
theorem rec_fun (w : World) (bx sb : Nat) (p : PatD) (A : Option Addr) (cap : Nat) (cs : List Int) (A2 : Option Addr) (c2 : Nat) (h : PBox w bx p.a p.b p.c (.slice A p.xs.length cap)) (hs : SBox w sb A2 8 c2) (hp : GoodP p) (hi : PatIn w p A) (hcs : IsL w A2 8 cs) :
    FunV w (.func (.func 96) #[] #[.pointer (some ⟨sb, 0, none⟩), .pointer (some ⟨bx, 0, none⟩)]) (recF cs (colF p)) 50000000 := by
  refine ⟨_, _, rfl, fun args w' => ?_, fun w' hb x y h0 h3 h4 h5 => ?_⟩
  · go_simp
  · obtain ⟨q0, q1, q2, q3, q4⟩ := (h.keep hb).cells
    obtain ⟨q5, q6⟩ := (hs.keep hb).cell
    obtain ⟨bk, o, rfl, hbk, hc⟩ := (IsL.below hb hcs).2 (by omega)
    have hcol := hp.cols x y
    obtain ⟨k, hk⟩ : ∃ k : Nat, colF p x y = k := ⟨(colF p x y).toNat, by omega⟩
    have hk8 : k < 8 := by omega
    have y1 := hc k hk8
    have HC := Lib.hid (fun w2 (hb2 : Below w'.heap.size w' w2) => pcolor_any p hp.ok A p.xs.length cap x y (by omega) (by omega) (by omega) (by omega) w2 ((hi.below hb).below hb2))
    obtain ⟨z, hz⟩ : ∃ z, z = cs.getD k 0 := ⟨_, rfl⟩
    have HZ := Lib.hid (show z = recF cs (colF p) x y by unfold recF; rw [hk]; exact hz)
    rw [← hz] at y1
    rw [hk] at HC
    clear h hi hb hp hz hcs hc hcol hk hs
    show Calls Tryz.prog 96 #[.int .i64 x, .int .i64 y, .pointer (some ⟨sb, 0, none⟩), .pointer (some ⟨bx, 0, none⟩)] w' _
    go_enter Tryz.func96, Tryz.ntmps96
    go_upto_region 1 with fail
    refine RP.region_treeP (C := fun w2 => ∃ x : SubW w'.heap.size w', w2 = x.val) (fun _ _ _ => False) [0, 1, 2, 3] (.one 4 (.one 5 (.one 6 .nil))) 7 (fun _ _ _ h => h.elim) (by kernel_rfl) (by kernel_rfl) (sub_start _ w') ?_
    simp only [pickL, List.getElem?_cons_zero, List.getElem?_cons_succ]
    repeat (go_big_quiet_step (fail))
    refine wpQuiet_nil ?_
    obtain ⟨w5, hw5⟩ : ∃ w5 : World, w5 = { w' with drawn := w'.drawn + 1 } := ⟨_, rfl⟩
    have hb5 : Below w'.heap.size w' w5 := by rw [hw5]; exact (Below.refl _ _).drew
    rw [← hw5]
    clear q0 q1 q2 q3 q5 hw5
    simp only [RP.treeS, atOp, List.getElem?_cons_zero, List.getElem?_cons_succ]
    refine ⟨sub_of hb5, ?_⟩
    refine RP.p_call 32 #[.agg #[.int .i64 p.a, .int .i64 p.b, .int .i64 p.c, .slice A p.xs.length cap], .int .i64 x, .int .i64 y] rfl (by go_simp) ?_
    refine (HC.out w5 hb5).mono ?_
    rintro e w6 ⟨rfl, hb6⟩
    have hb6' := hb5.trans (hb6.mono hb5.size)
    have y2 := (hb6'.cell (p := ⟨bk, o + k, none⟩) hbk).trans y1
    refine .inl ⟨_, rfl, ?_⟩
    refine ⟨sub_of hb6', ?_⟩
    refine RP.p_val (.pointer (some ⟨bk, o + k, none⟩)) w6 rfl (by go_simp; intro h8; omega) ?_
    refine ⟨sub_of hb6', ?_⟩
    refine RP.p_val (.int .i64 z) w6 rfl (by go_simp) ?_
    refine ⟨sub_of hb6', ?_⟩
    refine RP.p_assign _ rfl rfl (.int .i64 z) (by go_simp) ?_
    have HB := Lib.hid hb6'
    clear hb5 hb6 hb6' y1 y2 HC
    go_simp
    go_wp2
    go_ret
    exact ⟨by rw [← HZ.out]; rfl, HB.out⟩
theorem al3 (w : World) (o0 o1 o2 : Obj) : (((w.alloc o0).alloc o1).alloc o2).heap.size = w.heap.size + 3 ∧ (((w.alloc o0).alloc o1).alloc o2).heap[w.heap.size]? = some o0 ∧ (((w.alloc o0).alloc o1).alloc o2).heap[w.heap.size + 1]? = some o1 ∧ (((w.alloc o0).alloc o1).alloc o2).heap[w.heap.size + 1 + 1]? = some o2 ∧ Below w.heap.size w (((w.alloc o0).alloc o1).alloc o2) := by
  have e1 : (w.alloc o0).heap.size = w.heap.size + 1 := by simp
  have e2 : ((w.alloc o0).alloc o1).heap.size = w.heap.size + 1 + 1 := by simp
  have h0 := heap_alloc_new w o0
  have h1 := heap_alloc_new (w.alloc o0) o1
  have h2 := heap_alloc_new ((w.alloc o0).alloc o1) o2
  rw [e1] at h1
  rw [e2] at h2
  exact ⟨by simp, (heap_alloc_old _ _ (by omega)).trans ((heap_alloc_old _ _ (by omega)).trans h0), (heap_alloc_old _ _ (by omega)).trans h1, h2, (by repeat' (first | (with_reducible exact Below.refl _ _) | (with_reducible assumption) | (with_reducible refine below_drewN ?_ _) | (with_reducible refine below_step (by assumption) ?_ ?_) | (with_reducible refine Below.alloc ?_ ?_ _) | (with_reducible refine Below.setCell ?_ ?_ _) | (with_reducible refine Below.drew ?_) | go_size | (exact Below.size (by assumption)) | (refine Nat.le_trans (Below.size (by assumption)) ?_)))⟩
set_option maxRecDepth 100000 in
set_option maxHeartbeats 1000000 in
theorem precolor_any (p : PatD) (hl : p.xs.length ≤ 1000000) (cs : List Int) (hcl : cs.length ≤ 1000000) (A : Option Addr) (cap : Nat) (A2 : Option Addr) (c2 : Nat) (w : World) (hi : PatIn w p A) (hcs : IsL w A2 cs.length cs) :
    Calls Tryz.prog 64 #[.agg #[.int .i64 p.a, .int .i64 p.b, .int .i64 p.c, .slice A p.xs.length cap], .slice A2 cs.length c2] w (OutP w (recT p cs) (.int .i64 (recZ p cs))) := by
  obtain ⟨T, hT⟩ : ∃ T, T = recT p cs := ⟨_, rfl⟩
  obtain ⟨Z, hZ⟩ : ∃ Z, Z = recZ p cs := ⟨_, rfl⟩
  obtain ⟨E, hE⟩ : ∃ E, E = valP p := ⟨_, rfl⟩
  rw [← hT, ← hZ]
  unfold recT at hT
  rw [← hZ] at hT
  have HZ := Lib.hid hZ
  unfold recZ at hZ
  rw [← hE] at hZ
  have HZU := Lib.hid hZ
  have HC := Lib.hid (fun w hi => validateP_any p hl E hE.symm A cap w hi)
  have HPC := Lib.hid (fun w hi => pcontainsFunc 95 #[] badC enter_rec A2 cs.length c2 cs hcl w hi (pred_rec w cs))
  have HT := Lib.hid hT
  have HE := Lib.hid hE
  have HI := Lib.hid (And.intro hi hcs)
  have hmf : ∀ (fn : Fn) (first cap : Array Value) (w : World), (Instr.makeFunc fn first cap).run Tryz.prog w = .ok (.func fn first cap) w := fun _ _ _ _ => rfl
  obtain ⟨n, hn⟩ : ∃ n, n = cs.length := ⟨_, rfl⟩
  have HN := Lib.hid hn
  rw [← hn] at HPC HZU ⊢
  clear hi hT hE hZ hcs hcl hn
  go_enter Tryz.func64, Tryz.ntmps64
  go_wp2_with fail
  obtain ⟨a0, a1, a2, a3, a4⟩ := al3 w (.cells #[.int .i64 p.a, .int .i64 p.b, .int .i64 p.c, .slice A p.xs.length cap] 24) (.cells #[.slice A2 n c2] 22) (.cells #[.int .i64 0, .int .i64 0, .int .i64 0, .slice none 0 0] 24)
  obtain ⟨V, hV⟩ : ∃ V, V = ((w.alloc (.cells #[.int .i64 p.a, .int .i64 p.b, .int .i64 p.c, .slice A p.xs.length cap] 24)).alloc (.cells #[.slice A2 n c2] 22)).alloc (.cells #[.int .i64 0, .int .i64 0, .int .i64 0, .slice none 0 0] 24) := ⟨_, rfl⟩
  rw [← hV] at a0 a1 a2 a3 a4 ⊢
  have hck := HC.out V (HI.out.1.below a4)
  refine hck.mono ?_
  rintro e w1 ⟨rfl, hb1⟩
  have H1 := Lib.hid (show PBox w1 w.heap.size p.a p.b p.c (.slice A p.xs.length cap) ∧ PBox w1 (w.heap.size + 1 + 1) 0 0 0 (.slice none 0 0) ∧ Below w.heap.size w w1 ∧ SBox w1 (w.heap.size + 1) A2 n c2 from
    ⟨PBox.keep (w := V) a1 hb1, PBox.keep (w := V) a3 hb1, a4.trans (hb1.mono a4.size), SBox.keep (w := V) a2 hb1⟩)
  clear hV a0 a1 a2 a3 a4 HC hck hb1 V
  obtain ⟨s0, s1⟩ := H1.out.2.2.2.cell
  by_cases hz : E = 0
  · subst hz
    have hZ := HZU.out
    rw [if_neg (by simp)] at hZ
    by_cases h8 : n = 8
    · subst h8
      by_cases hb : cs.any badC = true
      · have hpc := HPC.out w1 (by rw [HN.out]; exact IsL.below H1.out.2.2.1 HI.out.2)
        rw [hb] at hpc
        rw [if_pos (.inr hb)] at hZ
        subst hZ
        have HT2 := Lib.hid (show T = zeroP by rw [HT.out, if_pos (by decide)])
        have HPC2 := Lib.hid hpc
        clear hb hpc HPC HT HE HZ HZU
        go_wp2_with fail
        refine HPC2.out.mono ?_
        rintro e w2 ⟨rfl, hb2⟩
        have hr2 := H1.out.2.1.keep hb2
        have HP := Lib.hid (put_zero hr2 (H1.out.2.2.1.trans (hb2.mono H1.out.2.2.1.size)) (by omega))
        obtain ⟨r0, r1, r2, r3, r4⟩ := PBox.cells hr2
        have f0 : (w2).frozen? ⟨w.heap.size + 1 + 1, 0, none⟩ = false := frozen_of_row (w2) (w.heap.size + 1 + 1) 0 _ _ hr2
        have f1 : (w2).frozen? ⟨w.heap.size + 1 + 1, 1, none⟩ = false := frozen_of_row (w2) (w.heap.size + 1 + 1) 1 _ _ hr2
        have f2 : (w2).frozen? ⟨w.heap.size + 1 + 1, 2, none⟩ = false := frozen_of_row (w2) (w.heap.size + 1 + 1) 2 _ _ hr2
        have f3 : (w2).frozen? ⟨w.heap.size + 1 + 1, 3, none⟩ = false := frozen_of_row (w2) (w.heap.size + 1 + 1) 3 _ _ hr2
        clear hr2 hb2 HPC2 s0 s1 H1
        go_wp2
        refine bodyPost_ret (v := .tuple #[.agg #[.int .i64 0, .int .i64 0, .int .i64 0, .slice none 0 0], .int .i64 1]) (ret_pat2 rfl rfl rfl HP.out.1) rfl ?_
        rw [HT2.out]
        exact OutP.zero HP.out.2
      · have hpc := HPC.out w1 (by rw [HN.out]; exact IsL.below H1.out.2.2.1 HI.out.2)
        rw [show cs.any badC = false by simpa using hb] at hpc
        rw [if_neg (fun h => h.elim (fun h => h rfl) hb)] at hZ
        subst hZ
        have hT := HT.out
        rw [if_neg (by simp)] at hT
        obtain ⟨hv, hlen, hcol⟩ := recZ_zero HZ.out.symm
        have hg := valP_zero hv
        have hbase := (lst_pat hv).recol cs
        obtain ⟨z1, z2⟩ := res_small hbase hg.ac
        have HFU := Lib.hid (fun w2 (hb : Below w1.heap.size w1 w2) => rec_fun w2 w.heap.size (w.heap.size + 1) p A cap cs A2 c2 (H1.out.1.keep hb) (H1.out.2.2.2.keep hb) hg ((HI.out.1.below H1.out.2.2.1).below hb) (by rw [HN.out]; exact IsL.below hb (IsL.below H1.out.2.2.1 HI.out.2)))
        have hres := fun fv w2 hf => presult_lst _ p.a p.b p.c hbase (by have := hg.a1; omega) (by have := hg.c1; omega) fv w2 hf
        rw [z1, z2, ← hT] at hres
        have HRES := Lib.hid hres
        have HPC2 := Lib.hid hpc
        clear hb hpc HPC hT hv hlen hcol hg hbase z1 z2 hres HT HE HZ HZU
        go_wp2_with fail
        refine HPC2.out.mono ?_
        rintro e w2 ⟨rfl, hb2⟩
        have H2 := Lib.hid (And.intro (H1.out.1.keep hb2) (And.intro (H1.out.2.1.keep hb2) (And.intro (H1.out.2.2.1.trans (hb2.mono H1.out.2.2.1.size)) (HFU.out w2 hb2))))
        clear hb2 HPC2 s0 s1 H1 HFU
        obtain ⟨q0, q1, q2, q3, q4⟩ := H2.out.1.cells
        go_wp2_with fail
        refine (HRES.out _ w2 H2.out.2.2.2).mono ?_
        rintro e w3 ⟨v, rfl, hown, hb3⟩
        obtain ⟨A3, n3, rfl, -⟩ := hown.isL
        have hr3 := H2.out.2.1.keep hb3
        have HP := Lib.hid (put_ret hr3 (H2.out.2.2.1.trans (hb3.mono H2.out.2.2.1.size)) (by omega) T _ hown H2.out.2.2.1.size (Array.getElem?_eq_some_iff.1 H2.out.2.1).1)
        obtain ⟨r0, r1, r2, r3, r4⟩ := PBox.cells hr3
        have f0 : (w3).frozen? ⟨w.heap.size + 1 + 1, 0, none⟩ = false := frozen_of_row (w3) (w.heap.size + 1 + 1) 0 _ _ hr3
        have f1 : (w3).frozen? ⟨w.heap.size + 1 + 1, 1, none⟩ = false := frozen_of_row (w3) (w.heap.size + 1 + 1) 1 _ _ hr3
        have f2 : (w3).frozen? ⟨w.heap.size + 1 + 1, 2, none⟩ = false := frozen_of_row (w3) (w.heap.size + 1 + 1) 2 _ _ hr3
        have f3 : (w3).frozen? ⟨w.heap.size + 1 + 1, 3, none⟩ = false := frozen_of_row (w3) (w.heap.size + 1 + 1) 3 _ _ hr3
        clear hown hb3 hr3 HRES q0 q1 q2 q3 q4 H2
        go_wp2
        refine bodyPost_ret (v := .tuple #[.agg #[.int .i64 T.a, .int .i64 T.b, .int .i64 T.c, .slice A3 T.xs.length n3], .int .i64 0]) (ret_pat2 rfl rfl rfl HP.out.1) rfl ?_
        exact ⟨_, rfl, HP.out.2⟩
    · have d8 : ((n : Int) != 8) = true := by rw [bne_iff_ne]; omega
      have d9 : ((n : Int) == 8) = false := by rw [beq_eq_false_iff_ne]; omega
      rw [if_pos (.inl h8)] at hZ
      subst hZ
      have HT2 := Lib.hid (show T = zeroP by rw [HT.out, if_pos (by decide)])
      have HP := Lib.hid (put_zero H1.out.2.1 H1.out.2.2.1 (by omega))
      obtain ⟨r0, r1, r2, r3, r4⟩ := PBox.cells H1.out.2.1
      have f0 : (w1).frozen? ⟨w.heap.size + 1 + 1, 0, none⟩ = false := frozen_of_row (w1) (w.heap.size + 1 + 1) 0 _ _ H1.out.2.1
      have f1 : (w1).frozen? ⟨w.heap.size + 1 + 1, 1, none⟩ = false := frozen_of_row (w1) (w.heap.size + 1 + 1) 1 _ _ H1.out.2.1
      have f2 : (w1).frozen? ⟨w.heap.size + 1 + 1, 2, none⟩ = false := frozen_of_row (w1) (w.heap.size + 1 + 1) 2 _ _ H1.out.2.1
      have f3 : (w1).frozen? ⟨w.heap.size + 1 + 1, 3, none⟩ = false := frozen_of_row (w1) (w.heap.size + 1 + 1) 3 _ _ H1.out.2.1
      clear h8 HT HE H1 HZ HZU HPC
      go_wp2
      refine bodyPost_ret (v := .tuple #[.agg #[.int .i64 0, .int .i64 0, .int .i64 0, .slice none 0 0], .int .i64 1]) (ret_pat2 rfl rfl rfl HP.out.1) rfl ?_
      rw [HT2.out]
      exact OutP.zero HP.out.2
  · have d1 : (E == 0) = false := by rw [beq_eq_false_iff_ne]; exact hz
    have d2 : (E != 0) = true := by rw [bne_iff_ne]; exact hz
    have hZ := HZU.out
    rw [if_pos hz] at hZ
    subst hZ
    have HT2 := Lib.hid (show T = zeroP by rw [HT.out, if_pos hz])
    have HP := Lib.hid (put_zero H1.out.2.1 H1.out.2.2.1 (by omega))
    obtain ⟨r0, r1, r2, r3, r4⟩ := PBox.cells H1.out.2.1
    have f0 : (w1).frozen? ⟨w.heap.size + 1 + 1, 0, none⟩ = false := frozen_of_row (w1) (w.heap.size + 1 + 1) 0 _ _ H1.out.2.1
    have f1 : (w1).frozen? ⟨w.heap.size + 1 + 1, 1, none⟩ = false := frozen_of_row (w1) (w.heap.size + 1 + 1) 1 _ _ H1.out.2.1
    have f2 : (w1).frozen? ⟨w.heap.size + 1 + 1, 2, none⟩ = false := frozen_of_row (w1) (w.heap.size + 1 + 1) 2 _ _ H1.out.2.1
    have f3 : (w1).frozen? ⟨w.heap.size + 1 + 1, 3, none⟩ = false := frozen_of_row (w1) (w.heap.size + 1 + 1) 3 _ _ H1.out.2.1
    clear hz HT HE H1 HZ HZU HPC
    go_wp2
    refine bodyPost_ret (v := .tuple #[.agg #[.int .i64 0, .int .i64 0, .int .i64 0, .slice none 0 0], .int .i64 Z]) (ret_pat2 rfl rfl rfl HP.out.1) rfl ?_
    rw [HT2.out]
    exact OutP.zero HP.out.2
end Go.Proofs.YtlinldbbhdpgcaaGreatDoor
/-
  THE PROGRAM: Swell.
-/
namespace Go.Proofs.YtlinldbbhdpgcaaGreatDoor
open Go.RowKit
attribute [local go_sem] sub_cell sub_frozen
attribute [local irreducible] RP.plainUpon RP.stepC
def sweF (t : Int) (F : Int → Int → Int) : Int → Int → Int := fun x y => F (x / t) (y / t)
def sweZ (p : PatD) (t : Int) : Int := if valP p ≠ 0 then valP p else if t < 1 ∨ 12 < t then 1 else 0
noncomputable def sweT (p : PatD) (t : Int) : PatD := if sweZ p t ≠ 0 then zeroP else resT (sweF t (colF p))
noncomputable def sweE (p : PatD) (t : Int) : Int := if sweZ p t ≠ 0 then sweZ p t else resZ (sweF t (colF p))
theorem Per.swell {F : Int → Int → Int} {a b t : Int} (h : Per F a b) (ht : 0 < t) : Per (sweF t F) (a * t) (b * t) := fun x y => by
  unfold sweF
  rw [Int.add_mul_ediv_right _ _ (by omega), Int.add_mul_ediv_right _ _ (by omega)]
  exact h _ _
theorem Base.swell {F : Int → Int → Int} {a b c t : Int} (h : Base F a b c) (ht : 0 < t) : Base (sweF t F) (a * t) (b * t) (c * t) :=
  ⟨Int.mul_pos h.a0 ht, Int.mul_pos h.c0 ht, (h.pa.swell ht).same rfl (by omega), h.pb.swell ht⟩
theorem sweZ_zero {p : PatD} {t : Int} (h : sweZ p t = 0) : valP p = 0 ∧ 1 ≤ t ∧ t ≤ 12 := by
  unfold sweZ at h
  split at h
  · rename_i hv; exact absurd h hv
  · rename_i hv
    split at h
    · cases h
    · exact ⟨by omega, by omega, by omega⟩
set_option maxRecDepth 100000 in
set_option maxHeartbeats 1000000 in
theorem swe_fun (w : World) (bx tb : Nat) (p : PatD) (A : Option Addr) (cap : Nat) (t : Int) (h : PBox w bx p.a p.b p.c (.slice A p.xs.length cap)) (ht : IBox w tb t) (hp : PatOK p) (hi : PatIn w p A) (t0 : 1 ≤ t) (t1 : t ≤ 12) :
    FunV w (.func (.func 42) #[] #[.pointer (some ⟨bx, 0, none⟩), .pointer (some ⟨tb, 0, none⟩)]) (sweF t (colF p)) 50000000 := by
  refine ⟨_, _, rfl, fun args w' => ?_, fun w' hb x y h0 h3 h4 h5 => ?_⟩
  · go_simp
  · obtain ⟨q0, q1, q2, q3, q4⟩ := (h.keep hb).cells
    have q5 := (ht.keep hb).cell
    have q6 := (Array.getElem?_eq_some_iff.1 (ht.keep hb)).1
    have hbx := ediv_bd (show 0 < t by omega) (show -(50000000 : Int) ≤ x by omega) h3
    have hby := ediv_bd (show 0 < t by omega) (show -(50000000 : Int) ≤ y by omega) h5
    have HF1 := Lib.hid (pfloor_any x t (by omega) (by omega) (by omega) (by omega))
    have HF2 := Lib.hid (pfloor_any y t (by omega) (by omega) (by omega) (by omega))
    have HC := Lib.hid (fun w2 (hb2 : Below w'.heap.size w' w2) => pcolor_any p hp A p.xs.length cap (x / t) (y / t) (by omega) (by omega) (by omega) (by omega) w2 ((hi.below hb).below hb2))
    obtain ⟨z, hz⟩ : ∃ z, z = colF p (x / t) (y / t) := ⟨_, rfl⟩
    have HZ := Lib.hid (show z = sweF t (colF p) x y from hz)
    rw [← hz] at HC
    obtain ⟨xq, hxq⟩ : ∃ xq, xq = x / t := ⟨_, rfl⟩
    obtain ⟨yq, hyq⟩ : ∃ yq, yq = y / t := ⟨_, rfl⟩
    rw [← hxq] at HF1 HC
    rw [← hyq] at HF2 HC
    clear h hi hb hp hz ht hbx hby hxq hyq
    show Calls Tryz.prog 42 #[.int .i64 x, .int .i64 y, .pointer (some ⟨bx, 0, none⟩), .pointer (some ⟨tb, 0, none⟩)] w' _
    go_enter Tryz.func42, Tryz.ntmps42
    go_upto_region 1 with fail
    refine RP.region_treeP (C := fun w2 => ∃ x : SubW w'.heap.size w', w2 = x.val) (fun _ _ _ => False) [0, 1, 2, 4, 5] (.one 3 (.one 6 (.one 7 .nil))) 8 (fun _ _ _ h => h.elim) (by kernel_rfl) (by kernel_rfl) (sub_start _ w') ?_
    simp only [pickL, List.getElem?_cons_zero, List.getElem?_cons_succ]
    repeat (go_big_quiet_step (fail))
    refine wpQuiet_nil ?_
    obtain ⟨w5, hw5⟩ : ∃ w5 : World, w5 = { w' with drawn := w'.drawn + 1 } := ⟨_, rfl⟩
    have hb5 : Below w'.heap.size w' w5 := by rw [hw5]; exact (Below.refl _ _).drew
    rw [← hw5]
    clear q0 q1 q2 q3 q5 hw5
    simp only [RP.treeS, atOp, List.getElem?_cons_zero, List.getElem?_cons_succ]
    refine ⟨sub_of hb5, ?_⟩
    refine RP.p_call 43 #[.int .i64 x, .int .i64 t] rfl (by go_simp) ?_
    refine (HF1.out w5).mono ?_
    rintro e w6 ⟨rfl, rfl⟩
    refine .inl ⟨_, rfl, ?_⟩
    refine ⟨sub_of hb5, ?_⟩
    refine RP.p_call 43 #[.int .i64 y, .int .i64 t] rfl (by go_simp) ?_
    refine (HF2.out w5).mono ?_
    rintro e w6 ⟨rfl, rfl⟩
    refine .inl ⟨_, rfl, ?_⟩
    refine ⟨sub_of hb5, ?_⟩
    refine RP.p_call 32 #[.agg #[.int .i64 p.a, .int .i64 p.b, .int .i64 p.c, .slice A p.xs.length cap], .int .i64 xq, .int .i64 yq] rfl (by go_simp) ?_
    refine (HC.out w5 hb5).mono ?_
    rintro e w6 ⟨rfl, hb6⟩
    have hb6' := hb5.trans (hb6.mono hb5.size)
    refine .inl ⟨_, rfl, ?_⟩
    refine ⟨sub_of hb6', ?_⟩
    refine RP.p_assign _ rfl rfl (.int .i64 z) (by go_simp) ?_
    have HB := Lib.hid hb6'
    clear hb5 hb6 hb6' HC
    go_simp
    go_wp2
    go_ret
    exact ⟨by rw [← HZ.out]; rfl, HB.out⟩
set_option maxRecDepth 100000 in
set_option maxHeartbeats 1000000 in
theorem pswell_any (p : PatD) (hl : p.xs.length ≤ 1000000) (t : Int) (A : Option Addr) (cap : Nat) (w : World) (hi : PatIn w p A) :
    Calls Tryz.prog 16 #[.agg #[.int .i64 p.a, .int .i64 p.b, .int .i64 p.c, .slice A p.xs.length cap], .int .i64 t] w (OutP w (sweT p t) (.int .i64 (sweE p t))) := by
  obtain ⟨T, hT⟩ : ∃ T, T = sweT p t := ⟨_, rfl⟩
  obtain ⟨Z, hZ⟩ : ∃ Z, Z = sweE p t := ⟨_, rfl⟩
  obtain ⟨Y, hY⟩ : ∃ Y, Y = sweZ p t := ⟨_, rfl⟩
  obtain ⟨E, hE⟩ : ∃ E, E = valP p := ⟨_, rfl⟩
  rw [← hT, ← hZ]
  unfold sweT at hT
  unfold sweE at hZ
  rw [← hY] at hT hZ
  have HY := Lib.hid hY
  unfold sweZ at hY
  rw [← hE] at hY
  have HYU := Lib.hid hY
  have HC := Lib.hid (fun w hi => validateP_any p hl E hE.symm A cap w hi)
  have HT := Lib.hid (And.intro hT hZ)
  have HE := Lib.hid hE
  have HI := Lib.hid hi
  have hmf : ∀ (fn : Fn) (first cap : Array Value) (w : World), (Instr.makeFunc fn first cap).run Tryz.prog w = .ok (.func fn first cap) w := fun _ _ _ _ => rfl
  clear hi hT hE hZ hY
  go_enter Tryz.func16, Tryz.ntmps16
  go_wp2_with fail
  obtain ⟨a0, a1, a2, a3, a4⟩ := al3 w (.cells #[.int .i64 p.a, .int .i64 p.b, .int .i64 p.c, .slice A p.xs.length cap] 24) (.cells #[.int .i64 t] 3) (.cells #[.int .i64 0, .int .i64 0, .int .i64 0, .slice none 0 0] 24)
  obtain ⟨V, hV⟩ : ∃ V, V = ((w.alloc (.cells #[.int .i64 p.a, .int .i64 p.b, .int .i64 p.c, .slice A p.xs.length cap] 24)).alloc (.cells #[.int .i64 t] 3)).alloc (.cells #[.int .i64 0, .int .i64 0, .int .i64 0, .slice none 0 0] 24) := ⟨_, rfl⟩
  rw [← hV] at a0 a1 a2 a3 a4 ⊢
  have hck := HC.out V (HI.out.below a4)
  refine hck.mono ?_
  rintro e w1 ⟨rfl, hb1⟩
  have H1 := Lib.hid (show PBox w1 w.heap.size p.a p.b p.c (.slice A p.xs.length cap) ∧ PBox w1 (w.heap.size + 1 + 1) 0 0 0 (.slice none 0 0) ∧ Below w.heap.size w w1 ∧ IBox w1 (w.heap.size + 1) t from
    ⟨PBox.keep (w := V) a1 hb1, PBox.keep (w := V) a3 hb1, a4.trans (hb1.mono a4.size), IBox.keep (w := V) a2 hb1⟩)
  clear hV a0 a1 a2 a3 a4 HC hck hb1 V
  have s0 := H1.out.2.2.2.cell
  by_cases hz : E = 0
  · subst hz
    have hY := HYU.out
    rw [if_neg (by simp)] at hY
    by_cases ht : t < 1 ∨ 12 < t
    · rw [if_pos ht] at hY
      have HT2 := Lib.hid (show T = zeroP ∧ Z = 1 by rw [HT.out.1, HT.out.2, hY, if_pos (by decide), if_pos (by decide)]; exact ⟨rfl, rfl⟩)
      have HP := Lib.hid (put_zero H1.out.2.1 H1.out.2.2.1 (by omega))
      have hZ1 := HT2.out.2
      subst hZ1
      obtain ⟨r0, r1, r2, r3, r4⟩ := PBox.cells H1.out.2.1
      have f0 : (w1).frozen? ⟨w.heap.size + 1 + 1, 0, none⟩ = false := frozen_of_row (w1) (w.heap.size + 1 + 1) 0 _ _ H1.out.2.1
      have f1 : (w1).frozen? ⟨w.heap.size + 1 + 1, 1, none⟩ = false := frozen_of_row (w1) (w.heap.size + 1 + 1) 1 _ _ H1.out.2.1
      have f2 : (w1).frozen? ⟨w.heap.size + 1 + 1, 2, none⟩ = false := frozen_of_row (w1) (w.heap.size + 1 + 1) 2 _ _ H1.out.2.1
      have f3 : (w1).frozen? ⟨w.heap.size + 1 + 1, 3, none⟩ = false := frozen_of_row (w1) (w.heap.size + 1 + 1) 3 _ _ H1.out.2.1
      clear HT HE H1 HY HYU hY
      by_cases h1 : t < 1
      · have d1 : decide (t < 1) = true := decide_eq_true h1
        clear ht h1
        go_wp2
        refine bodyPost_ret (v := .tuple #[.agg #[.int .i64 0, .int .i64 0, .int .i64 0, .slice none 0 0], .int .i64 1]) (ret_pat2 rfl rfl rfl HP.out.1) rfl ?_
        rw [HT2.out.1]
        exact OutP.zero HP.out.2
      · have d1 : decide (t < 1) = false := decide_eq_false h1
        have d2 : decide (12 < t) = true := decide_eq_true (by omega)
        clear ht h1
        go_wp2
        refine bodyPost_ret (v := .tuple #[.agg #[.int .i64 0, .int .i64 0, .int .i64 0, .slice none 0 0], .int .i64 1]) (ret_pat2 rfl rfl rfl HP.out.1) rfl ?_
        rw [HT2.out.1]
        exact OutP.zero HP.out.2
    · rw [if_neg ht] at hY
      obtain ⟨hT, hZ⟩ := HT.out
      rw [hY, if_neg (by simp)] at hT hZ
      have hv : valP p = 0 := HE.out.symm
      have hg := valP_zero hv
      have hbase := (lst_pat hv).swell (show 0 < t by omega)
      have d1 : decide (t < 1) = false := decide_eq_false (by omega)
      have d2 : decide (12 < t) = false := decide_eq_false (by omega)
      have HFU := Lib.hid (swe_fun w1 w.heap.size (w.heap.size + 1) p A cap t H1.out.1 H1.out.2.2.2 hg.ok (HI.out.below H1.out.2.2.1) (by omega) (by omega))
      have m1 : 0 ≤ p.a * t ∧ p.a * t ≤ 144 * 12 := ⟨Int.mul_nonneg (by have := hg.a0; omega) (by omega), Int.mul_le_mul hg.a1 (by omega) (by omega) (by omega)⟩
      have m2 : 0 ≤ p.b * t ∧ p.b * t ≤ 144 * 12 := ⟨Int.mul_nonneg hg.b0 (by omega), Int.mul_le_mul (by have := hg.b1; have := hg.a1; omega) (by omega) (by omega) (by omega)⟩
      have m3 : 0 ≤ p.c * t ∧ p.c * t ≤ 144 * 12 := ⟨Int.mul_nonneg (by have := hg.c0; omega) (by omega), Int.mul_le_mul hg.c1 (by omega) (by omega) (by omega)⟩
      have hres := presult_lst _ (p.a * t) (p.b * t) (p.c * t) hbase (by omega) (by omega) _ w1 HFU.out
      rw [← hT, ← hZ] at hres
      obtain ⟨ta, hta⟩ : ∃ n, n = p.a * t := ⟨_, rfl⟩
      obtain ⟨tb, htb⟩ : ∃ n, n = p.b * t := ⟨_, rfl⟩
      obtain ⟨tc, htc⟩ : ∃ n, n = p.c * t := ⟨_, rfl⟩
      have k1 : IntKind.i64.wrap (p.a * t) = ta := by rw [hta]; exact IntWalk.i64_in _ (by omega)
      have k2 : IntKind.i64.wrap (p.b * t) = tb := by rw [htb]; exact IntWalk.i64_in _ (by omega)
      have k3 : IntKind.i64.wrap (p.c * t) = tc := by rw [htc]; exact IntWalk.i64_in _ (by omega)
      rw [← hta, ← htb, ← htc] at hres
      have HRES := Lib.hid hres
      clear hT hZ hv hg hbase hres HT HE HY HYU hY m1 m2 m3 hta htb htc ht
      obtain ⟨q0, q1, q2, q3, q4⟩ := H1.out.1.cells
      go_wp2_with fail
      refine HRES.out.mono ?_
      rintro e w2 ⟨v, rfl, hown, hb2⟩
      obtain ⟨A3, n3, rfl, -⟩ := hown.isL
      have hr3 := H1.out.2.1.keep hb2
      have HP := Lib.hid (put_ret hr3 (H1.out.2.2.1.trans (hb2.mono H1.out.2.2.1.size)) (by omega) T _ hown H1.out.2.2.1.size (Array.getElem?_eq_some_iff.1 H1.out.2.1).1)
      obtain ⟨r0, r1, r2, r3, r4⟩ := PBox.cells hr3
      have f0 : (w2).frozen? ⟨w.heap.size + 1 + 1, 0, none⟩ = false := frozen_of_row (w2) (w.heap.size + 1 + 1) 0 _ _ hr3
      have f1 : (w2).frozen? ⟨w.heap.size + 1 + 1, 1, none⟩ = false := frozen_of_row (w2) (w.heap.size + 1 + 1) 1 _ _ hr3
      have f2 : (w2).frozen? ⟨w.heap.size + 1 + 1, 2, none⟩ = false := frozen_of_row (w2) (w.heap.size + 1 + 1) 2 _ _ hr3
      have f3 : (w2).frozen? ⟨w.heap.size + 1 + 1, 3, none⟩ = false := frozen_of_row (w2) (w.heap.size + 1 + 1) 3 _ _ hr3
      clear hown hb2 hr3 HRES q0 q1 q2 q3 q4 H1 s0
      go_wp2
      refine bodyPost_ret (v := .tuple #[.agg #[.int .i64 T.a, .int .i64 T.b, .int .i64 T.c, .slice A3 T.xs.length n3], .int .i64 Z]) (ret_pat2 rfl rfl rfl HP.out.1) rfl ?_
      exact ⟨_, rfl, HP.out.2⟩
  · have d1 : (E == 0) = false := by rw [beq_eq_false_iff_ne]; exact hz
    have d2 : (E != 0) = true := by rw [bne_iff_ne]; exact hz
    have hY := HYU.out
    rw [if_pos hz] at hY
    subst hY
    obtain ⟨hT, hZ⟩ := HT.out
    rw [if_pos hz] at hT hZ
    subst hZ
    have HT2 := Lib.hid hT
    have HP := Lib.hid (put_zero H1.out.2.1 H1.out.2.2.1 (by omega))
    obtain ⟨r0, r1, r2, r3, r4⟩ := PBox.cells H1.out.2.1
    have f0 : (w1).frozen? ⟨w.heap.size + 1 + 1, 0, none⟩ = false := frozen_of_row (w1) (w.heap.size + 1 + 1) 0 _ _ H1.out.2.1
    have f1 : (w1).frozen? ⟨w.heap.size + 1 + 1, 1, none⟩ = false := frozen_of_row (w1) (w.heap.size + 1 + 1) 1 _ _ H1.out.2.1
    have f2 : (w1).frozen? ⟨w.heap.size + 1 + 1, 2, none⟩ = false := frozen_of_row (w1) (w.heap.size + 1 + 1) 2 _ _ H1.out.2.1
    have f3 : (w1).frozen? ⟨w.heap.size + 1 + 1, 3, none⟩ = false := frozen_of_row (w1) (w.heap.size + 1 + 1) 3 _ _ H1.out.2.1
    clear hz HT HE H1 HY HYU hT
    go_wp2
    refine bodyPost_ret (v := .tuple #[.agg #[.int .i64 0, .int .i64 0, .int .i64 0, .slice none 0 0], .int .i64 Z]) (ret_pat2 rfl rfl rfl HP.out.1) rfl ?_
    rw [HT2.out]
    exact OutP.zero HP.out.2
end Go.Proofs.YtlinldbbhdpgcaaGreatDoor
