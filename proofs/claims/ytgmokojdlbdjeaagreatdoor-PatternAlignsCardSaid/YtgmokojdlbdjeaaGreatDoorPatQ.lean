/-
  THE PROGRAM: Turn, Mirror.
-/
import Derived.Test.YtgmokojdlbdjeaaGreatDoorPatO
import Derived.Test.YtgmokojdlbdjeaaGreatDoorPatM
import Derived.Test.YtgmokojdlbdjeaaGreatDoorRegP
namespace Go.Proofs.YtgmokojdlbdjeaaGreatDoor
open Go.RowKit
attribute [local go_sem] sub_cell sub_frozen
attribute [local irreducible] RP.plainUpon RP.stepC
/-- Turned, mirrored: what the calls answer. -/
noncomputable def turnT (p : PatD) : PatD := if valP p ≠ 0 then zeroP else lst (turnF (colF p))
def mirF (F : Int → Int → Int) : Int → Int → Int := fun x y => F (-x) y
noncomputable def mirT (p : PatD) : PatD := if valP p ≠ 0 then zeroP else lst (mirF (colF p))
theorem per_mir {F : Int → Int → Int} {dx dy : Int} : Per (mirF F) dx dy ↔ Per F (-dx) dy := by
  constructor
  · intro h x y
    have := h (-x) y
    unfold mirF at this
    rw [show -(-x + dx) = x + -dx by omega, show - -x = x by omega] at this
    exact this
  · intro h x y
    have := h (-x) y
    unfold mirF
    rw [show -(x + dx) = -x + -dx by omega]
    exact this
theorem Base.mir {F : Int → Int → Int} {a b c : Int} (h : Base F a b c) : Base (mirF F) a ((-b) % a) c := by
  refine ⟨h.a0, h.c0, per_mir.2 (h.pa.neg.same rfl (by omega)), per_mir.2 ?_⟩
  have e := Int.mul_ediv_add_emod (-b) a
  have e2 : (-b) / a * a = a * ((-b) / a) := Int.mul_comm _ _
  exact (h.pb.add (h.pa.mul ((-b) / a))).same (by omega) (by rw [Int.mul_zero]; omega)
theorem turn_small {p : PatD} (h : valP p = 0) : resT (turnF (colF p)) = lst (turnF (colF p)) ∧ resZ (turnF (colF p)) = 0 := by
  have hg := valP_zero h
  obtain ⟨A, B, C, ⟨h1, h2, h3, h4, h5, h6, h7⟩, h8, -, h9, -⟩ := turn_lat (b := p.b) hg.a0 hg.c0
  exact res_small ((lst_pat h).turn h1 h3 h8 h9) (by rw [h5]; exact hg.ac)
set_option maxRecDepth 100000 in
theorem turn_fun (w : World) (bx : Nat) (p : PatD) (A : Option Addr) (cap : Nat) (h : PBox w bx p.a p.b p.c (.slice A p.xs.length cap)) (hp : PatOK p) (hi : PatIn w p A) :
    FunV w (.func (.func 63) #[] #[.pointer (some ⟨bx, 0, none⟩)]) (turnF (colF p)) 50000000 := by
  refine ⟨_, _, rfl, fun args w' => ?_, fun w' hb x y h0 h3 h4 h5 => ?_⟩
  · go_simp
  · obtain ⟨q0, q1, q2, q3, q4⟩ := (h.keep hb).cells
    have k1 : IntKind.i64.wrap (-x) = -x := IntWalk.i64_in _ (by omega)
    have HC := Lib.hid (pcolor_any p hp A p.xs.length cap y (-x) (by omega) (by omega) (by omega) (by omega) w' (hi.below hb))
    obtain ⟨z, hz⟩ : ∃ z, z = colF p y (-x) := ⟨_, rfl⟩
    have HZ := Lib.hid (show z = turnF (colF p) x y from hz)
    rw [← hz] at HC
    clear h hi hb hp hz
    show Calls Tryz.prog 63 #[.int .i64 x, .int .i64 y, .pointer (some ⟨bx, 0, none⟩)] w' _
    go_enter Tryz.func63, Tryz.ntmps63
    go_wp2_with fail
    refine HC.out.mono ?_
    rintro e w2 ⟨rfl, hb2⟩
    go_wp2
    go_ret
    exact ⟨by rw [← HZ.out]; rfl, hb2⟩
set_option maxRecDepth 100000 in
theorem mir_fun (w : World) (bx : Nat) (p : PatD) (A : Option Addr) (cap : Nat) (h : PBox w bx p.a p.b p.c (.slice A p.xs.length cap)) (hp : PatOK p) (hi : PatIn w p A) :
    FunV w (.func (.func 66) #[] #[.pointer (some ⟨bx, 0, none⟩)]) (mirF (colF p)) 50000000 := by
  refine ⟨_, _, rfl, fun args w' => ?_, fun w' hb x y h0 h3 h4 h5 => ?_⟩
  · go_simp
  · obtain ⟨q0, q1, q2, q3, q4⟩ := (h.keep hb).cells
    have k1 : IntKind.i64.wrap (-x) = -x := IntWalk.i64_in _ (by omega)
    have HC := Lib.hid (pcolor_any p hp A p.xs.length cap (-x) y (by omega) (by omega) (by omega) (by omega) w' (hi.below hb))
    obtain ⟨z, hz⟩ : ∃ z, z = colF p (-x) y := ⟨_, rfl⟩
    have HZ := Lib.hid (show z = mirF (colF p) x y from hz)
    rw [← hz] at HC
    clear h hi hb hp hz
    show Calls Tryz.prog 66 #[.int .i64 x, .int .i64 y, .pointer (some ⟨bx, 0, none⟩)] w' _
    go_enter Tryz.func66, Tryz.ntmps66
    go_wp2_with fail
    refine HC.out.mono ?_
    rintro e w2 ⟨rfl, hb2⟩
    go_wp2
    go_ret
    exact ⟨by rw [← HZ.out]; rfl, hb2⟩
set_option maxRecDepth 100000 in
set_option maxHeartbeats 1000000 in
theorem pturn_any (p : PatD) (hl : p.xs.length ≤ 1000000) (A : Option Addr) (cap : Nat) (w : World) (hi : PatIn w p A) :
    Calls Tryz.prog 23 #[.agg #[.int .i64 p.a, .int .i64 p.b, .int .i64 p.c, .slice A p.xs.length cap]] w (OutP w (turnT p) (.int .i64 (valP p))) := by
  obtain ⟨T, hT⟩ : ∃ T, T = turnT p := ⟨_, rfl⟩
  obtain ⟨E, hE⟩ : ∃ E, E = valP p := ⟨_, rfl⟩
  rw [← hT, ← hE]
  unfold turnT at hT
  rw [← hE] at hT
  have HC := Lib.hid (fun w hi => validateP_any p hl E hE.symm A cap w hi)
  have HT := Lib.hid hT
  have HE := Lib.hid hE
  have HI := Lib.hid hi
  have hmf : ∀ (fn : Fn) (first cap : Array Value) (w : World), (Instr.makeFunc fn first cap).run Tryz.prog w = .ok (.func fn first cap) w := fun _ _ _ _ => rfl
  clear hi hT hE
  go_enter Tryz.func23, Tryz.ntmps23
  go_wp2_with fail
  obtain ⟨a0, a1, a2, a3⟩ := al2 w (.cells #[.int .i64 p.a, .int .i64 p.b, .int .i64 p.c, .slice A p.xs.length cap] 24) (.cells #[.int .i64 0, .int .i64 0, .int .i64 0, .slice none 0 0] 24)
  obtain ⟨V, hV⟩ : ∃ V, V = (w.alloc (.cells #[.int .i64 p.a, .int .i64 p.b, .int .i64 p.c, .slice A p.xs.length cap] 24)).alloc (.cells #[.int .i64 0, .int .i64 0, .int .i64 0, .slice none 0 0] 24) := ⟨_, rfl⟩
  rw [← hV] at a0 a1 a2 a3 ⊢
  have hck := HC.out V (HI.out.below a3)
  refine hck.mono ?_
  rintro e w1 ⟨rfl, hb1⟩
  have H1 := Lib.hid (show PBox w1 w.heap.size p.a p.b p.c (.slice A p.xs.length cap) ∧ PBox w1 (w.heap.size + 1) 0 0 0 (.slice none 0 0) ∧ Below w.heap.size w w1 from
    ⟨PBox.keep (w := V) a1 hb1, PBox.keep (w := V) a2 hb1, a3.trans (hb1.mono a3.size)⟩)
  clear hV a0 a1 a2 a3 HC hck hb1 V
  by_cases hz : E = 0
  · subst hz
    have hT := HT.out
    rw [if_neg (by simp)] at hT
    have hv : valP p = 0 := HE.out.symm
    have hg := valP_zero hv
    obtain ⟨z1, z2⟩ := turn_small hv
    have hfun := turn_fun w1 w.heap.size p A cap H1.out.1 hg.ok (HI.out.below H1.out.2.2)
    have h1 : 0 ≤ p.a * p.c := Int.mul_nonneg (by have := hg.a0; omega) (by have := hg.c0; omega)
    have hres := presult_lst _ (p.a * p.c) 0 (p.a * p.c) (lst_pat hv).turn2 (by have := hg.ac; omega) (by have := hg.ac; omega) _ w1 hfun
    rw [z1, z2, ← hT] at hres
    obtain ⟨n, hn⟩ : ∃ n, n = p.a * p.c := ⟨_, rfl⟩
    have kn : IntKind.i64.wrap (p.a * p.c) = n := by rw [hn]; exact IntWalk.i64_in _ (by have := hg.ac; omega)
    rw [← hn] at hres
    have HRES := Lib.hid hres
    clear hT hv hg z1 z2 hfun hres HT HE h1 hn
    obtain ⟨q0, q1, q2, q3, q4⟩ := H1.out.1.cells
    go_wp2_with fail
    refine HRES.out.mono ?_
    rintro e w2 ⟨v, rfl, hown, hb2⟩
    obtain ⟨A2, n2, rfl, -⟩ := hown.isL
    have hr2 := H1.out.2.1.keep hb2
    have HP := Lib.hid (put_ret hr2 (H1.out.2.2.trans (hb2.mono H1.out.2.2.size)) (by omega) T _ hown H1.out.2.2.size (Array.getElem?_eq_some_iff.1 H1.out.2.1).1)
    obtain ⟨r0, r1, r2, r3, r4⟩ := PBox.cells hr2
    have f0 : (w2).frozen? ⟨w.heap.size + 1, 0, none⟩ = false := frozen_of_row (w2) (w.heap.size + 1) 0 _ _ hr2
    have f1 : (w2).frozen? ⟨w.heap.size + 1, 1, none⟩ = false := frozen_of_row (w2) (w.heap.size + 1) 1 _ _ hr2
    have f2 : (w2).frozen? ⟨w.heap.size + 1, 2, none⟩ = false := frozen_of_row (w2) (w.heap.size + 1) 2 _ _ hr2
    have f3 : (w2).frozen? ⟨w.heap.size + 1, 3, none⟩ = false := frozen_of_row (w2) (w.heap.size + 1) 3 _ _ hr2
    clear hown hb2 hr2 HRES q0 q1 q2 q3 q4
    go_wp2
    refine bodyPost_ret (v := .tuple #[.agg #[.int .i64 T.a, .int .i64 T.b, .int .i64 T.c, .slice A2 T.xs.length n2], .int .i64 0]) (ret_pat2 rfl rfl rfl HP.out.1) rfl ?_
    exact ⟨_, rfl, HP.out.2⟩
  · have d1 : (E == 0) = false := by rw [beq_eq_false_iff_ne]; exact hz
    have d2 : (E != 0) = true := by rw [bne_iff_ne]; exact hz
    have HT2 := Lib.hid (show T = zeroP by rw [HT.out, if_pos hz])
    have HP := Lib.hid (put_zero H1.out.2.1 H1.out.2.2 (by omega))
    obtain ⟨r0, r1, r2, r3, r4⟩ := PBox.cells H1.out.2.1
    have f0 : (w1).frozen? ⟨w.heap.size + 1, 0, none⟩ = false := frozen_of_row (w1) (w.heap.size + 1) 0 _ _ H1.out.2.1
    have f1 : (w1).frozen? ⟨w.heap.size + 1, 1, none⟩ = false := frozen_of_row (w1) (w.heap.size + 1) 1 _ _ H1.out.2.1
    have f2 : (w1).frozen? ⟨w.heap.size + 1, 2, none⟩ = false := frozen_of_row (w1) (w.heap.size + 1) 2 _ _ H1.out.2.1
    have f3 : (w1).frozen? ⟨w.heap.size + 1, 3, none⟩ = false := frozen_of_row (w1) (w.heap.size + 1) 3 _ _ H1.out.2.1
    clear hz HT HE H1
    go_wp2
    refine bodyPost_ret (v := .tuple #[.agg #[.int .i64 0, .int .i64 0, .int .i64 0, .slice none 0 0], .int .i64 E]) (ret_pat2 rfl rfl rfl HP.out.1) rfl ?_
    rw [HT2.out]
    exact OutP.zero HP.out.2
set_option maxRecDepth 100000 in
set_option maxHeartbeats 1000000 in
theorem pmirror_any (p : PatD) (hl : p.xs.length ≤ 1000000) (A : Option Addr) (cap : Nat) (w : World) (hi : PatIn w p A) :
    Calls Tryz.prog 25 #[.agg #[.int .i64 p.a, .int .i64 p.b, .int .i64 p.c, .slice A p.xs.length cap]] w (OutP w (mirT p) (.int .i64 (valP p))) := by
  obtain ⟨T, hT⟩ : ∃ T, T = mirT p := ⟨_, rfl⟩
  obtain ⟨E, hE⟩ : ∃ E, E = valP p := ⟨_, rfl⟩
  rw [← hT, ← hE]
  unfold mirT at hT
  rw [← hE] at hT
  have HC := Lib.hid (fun w hi => validateP_any p hl E hE.symm A cap w hi)
  have HT := Lib.hid hT
  have HE := Lib.hid hE
  have HI := Lib.hid hi
  have hmf : ∀ (fn : Fn) (first cap : Array Value) (w : World), (Instr.makeFunc fn first cap).run Tryz.prog w = .ok (.func fn first cap) w := fun _ _ _ _ => rfl
  clear hi hT hE
  go_enter Tryz.func25, Tryz.ntmps25
  go_wp2_with fail
  obtain ⟨a0, a1, a2, a3⟩ := al2 w (.cells #[.int .i64 p.a, .int .i64 p.b, .int .i64 p.c, .slice A p.xs.length cap] 24) (.cells #[.int .i64 0, .int .i64 0, .int .i64 0, .slice none 0 0] 24)
  obtain ⟨V, hV⟩ : ∃ V, V = (w.alloc (.cells #[.int .i64 p.a, .int .i64 p.b, .int .i64 p.c, .slice A p.xs.length cap] 24)).alloc (.cells #[.int .i64 0, .int .i64 0, .int .i64 0, .slice none 0 0] 24) := ⟨_, rfl⟩
  rw [← hV] at a0 a1 a2 a3 ⊢
  have hck := HC.out V (HI.out.below a3)
  refine hck.mono ?_
  rintro e w1 ⟨rfl, hb1⟩
  have H1 := Lib.hid (show PBox w1 w.heap.size p.a p.b p.c (.slice A p.xs.length cap) ∧ PBox w1 (w.heap.size + 1) 0 0 0 (.slice none 0 0) ∧ Below w.heap.size w w1 from
    ⟨PBox.keep (w := V) a1 hb1, PBox.keep (w := V) a2 hb1, a3.trans (hb1.mono a3.size)⟩)
  clear hV a0 a1 a2 a3 HC hck hb1 V
  by_cases hz : E = 0
  · subst hz
    have hT := HT.out
    rw [if_neg (by simp)] at hT
    have hv : valP p = 0 := HE.out.symm
    have hg := valP_zero hv
    have hbase := (lst_pat hv).mir
    obtain ⟨z1, z2⟩ := res_small hbase hg.ac
    have HFU := Lib.hid (fun w2 (hb : Below w1.heap.size w1 w2) => mir_fun w2 w.heap.size p A cap (H1.out.1.keep hb) hg.ok ((HI.out.below H1.out.2.2).below hb))
    have hres := fun fv w2 hf => presult_lst _ p.a ((-p.b) % p.a) p.c hbase (by have := hg.a1; omega) (by have := hg.c1; omega) fv w2 hf
    rw [z1, z2, ← hT] at hres
    have HRES := Lib.hid hres
    have HMO := Lib.hid (pmod_any (-p.b) p.a hg.a0 (by have := hg.b1; have := hg.a1; omega) (by have := hg.b0; omega) (by have := hg.a1; omega))
    have kb : IntKind.i64.wrap (-p.b) = -p.b := IntWalk.i64_in _ (by have := hg.b0; have := hg.b1; have := hg.a1; omega)
    clear hT hv hg z1 z2 hbase hres HT HE
    obtain ⟨q0, q1, q2, q3, q4⟩ := H1.out.1.cells
    have hq5 : w.heap.size < w.heap.size + 1 := by omega
    go_upto_region 4 with fail
    refine RP.region_treeP (C := fun w' => ∃ x : SubW (w.heap.size + 1) w1, w' = x.val) (fun _ _ _ => False) [0, 1, 2, 3, 5, 6, 8, 9] (.read 4 (.read 10 (.one 7 (.one 11 (.one 12 (.read 13 (.one 14 (.one 15 .nil)))))))) 16 (fun _ _ _ h => h.elim) (by kernel_rfl) (by kernel_rfl) (sub_start _ w1) ?_
    simp only [pickL, List.getElem?_cons_zero, List.getElem?_cons_succ]
    repeat (go_big_quiet_step (fail))
    refine wpQuiet_nil ?_
    obtain ⟨w5, hw5⟩ : ∃ w5 : World, w5 = { w1 with drawn := w1.drawn + 1 } := ⟨_, rfl⟩
    have hb5 : Below w1.heap.size w1 w5 := by rw [hw5]; exact (Below.refl _ _).drew
    rw [← hw5]
    have hsz : w.heap.size + 1 < w1.heap.size := (Array.getElem?_eq_some_iff.1 H1.out.2.1).1
    have hfu := HFU.out w5 hb5
    clear q0 q1 q2 q3 q4 hw5
    simp only [RP.treeS, atOp, List.getElem?_cons_zero, List.getElem?_cons_succ]
    refine ⟨sub_of (hb5.mono (by omega)), ?_⟩
    refine ⟨_, s_read (.int .i64 (-p.b)) rfl (fun w _ => by go_simp), sub_of (hb5.mono (by omega)), ?_⟩
    refine ⟨_, s_read (.func (.func 66) #[] #[.pointer (some ⟨w.heap.size, 0, none⟩)]) rfl (fun w _ => by go_simp), sub_of (hb5.mono (by omega)), ?_⟩
    refine RP.p_call 65 #[.int .i64 (-p.b), .int .i64 p.a] rfl (by go_simp) ?_
    refine (HMO.out w5).mono ?_
    rintro e w6 ⟨rfl, rfl⟩
    refine .inl ⟨_, rfl, ?_⟩
    obtain ⟨mb, hmb⟩ : ∃ mb, mb = -p.b % p.a := ⟨_, rfl⟩
    rw [← hmb] at HRES ⊢
    refine ⟨sub_of (hb5.mono (by omega)), ?_⟩
    refine RP.p_val (.agg #[.int .i64 p.a, .int .i64 mb, .int .i64 p.c, .func (.func 66) #[] #[.pointer (some ⟨w.heap.size, 0, none⟩)]]) w5 rfl (by go_simp) ?_
    refine ⟨sub_of (hb5.mono (by omega)), ?_⟩
    refine RP.p_call 56 #[.agg #[.int .i64 p.a, .int .i64 mb, .int .i64 p.c, .func (.func 66) #[] #[.pointer (some ⟨w.heap.size, 0, none⟩)]]] rfl (by go_simp) ?_
    refine (HRES.out _ w5 hfu).mono ?_
    rintro e w7 ⟨v, rfl, hown, hb7⟩
    refine .inl ⟨_, rfl, ?_⟩
    have hb7' := hb5.trans (hb7.mono hb5.size)
    refine ⟨sub_of (hb7'.mono (by omega)), ?_⟩
    obtain ⟨A7, k7, rfl, -⟩ := hown.isL
    have hr7 := H1.out.2.1.keep hb7'
    have HF := Lib.hid (put_row (w := w) hr7 (H1.out.2.2.trans (hb7'.mono (by omega))) (by omega) T A7 k7 (.int .i64 0) hown (by have := hb5.size; omega) (by have := hb5.size; omega))
    obtain ⟨l7, hl7⟩ : ∃ l7, l7 = T.xs.length := ⟨_, rfl⟩
    rw [← hl7] at hown HF ⊢
    have hgr := row_grown w7 (w.heap.size + 1) #[.int .i64 T.a, .int .i64 T.b, .int .i64 T.c, .slice A7 l7 k7]
    have hb8 : Below (w.heap.size + 1) w1 (w7.setRow (w.heap.size + 1) #[.int .i64 T.a, .int .i64 T.b, .int .i64 T.c, .slice A7 l7 k7]) := (hb7'.mono (by omega)).grown hgr (by have := hb7'.size; omega) (fun g e => by cases e; omega)
    refine ⟨_, s_read (.agg #[.int .i64 T.a, .int .i64 T.b, .int .i64 T.c, .slice A7 l7 k7]) rfl (fun w _ => by go_simp), sub_of (hb7'.mono (by omega)), ?_⟩
    refine RP.p_val (.int .i64 0) w7 rfl (by go_simp) ?_
    refine ⟨sub_of (hb7'.mono (by omega)), ?_⟩
    have hC8 := sub_of hb8
    refine RP.p_skip (w7.setRow (w.heap.size + 1) #[.int .i64 T.a, .int .i64 T.b, .int .i64 T.c, .slice A7 l7 k7]) rfl (st_pat_run (.tmp 2) (.tmp 24) rfl hr7 T.a T.b T.c A7 l7 k7 (by go_simp) (by go_simp)) ?_
    obtain ⟨w8, hw8⟩ : ∃ w8, w8 = w7.setRow (w.heap.size + 1) #[.int .i64 T.a, .int .i64 T.b, .int .i64 T.c, .slice A7 l7 k7] := ⟨_, rfl⟩
    rw [← hw8] at HF hC8 ⊢
    clear hw8 hb8 hgr hr7 hown hb7 hb7' hb5 hfu
    refine ⟨hC8, ?_⟩
    refine RP.p_assign _ rfl rfl (.int .i64 0) (by go_simp) ?_
    go_simp
    go_wp2
    refine bodyPost_ret (v := .tuple #[.agg #[.int .i64 T.a, .int .i64 T.b, .int .i64 T.c, .slice A7 l7 k7], .int .i64 0]) (ret_pat2 rfl rfl rfl HF.out.1) rfl ?_
    exact HF.out.2
  · have d1 : (E == 0) = false := by rw [beq_eq_false_iff_ne]; exact hz
    have d2 : (E != 0) = true := by rw [bne_iff_ne]; exact hz
    have HT2 := Lib.hid (show T = zeroP by rw [HT.out, if_pos hz])
    have HP := Lib.hid (put_zero H1.out.2.1 H1.out.2.2 (by omega))
    obtain ⟨r0, r1, r2, r3, r4⟩ := PBox.cells H1.out.2.1
    have f0 : (w1).frozen? ⟨w.heap.size + 1, 0, none⟩ = false := frozen_of_row (w1) (w.heap.size + 1) 0 _ _ H1.out.2.1
    have f1 : (w1).frozen? ⟨w.heap.size + 1, 1, none⟩ = false := frozen_of_row (w1) (w.heap.size + 1) 1 _ _ H1.out.2.1
    have f2 : (w1).frozen? ⟨w.heap.size + 1, 2, none⟩ = false := frozen_of_row (w1) (w.heap.size + 1) 2 _ _ H1.out.2.1
    have f3 : (w1).frozen? ⟨w.heap.size + 1, 3, none⟩ = false := frozen_of_row (w1) (w.heap.size + 1) 3 _ _ H1.out.2.1
    clear hz HT HE H1
    go_wp2
    refine bodyPost_ret (v := .tuple #[.agg #[.int .i64 0, .int .i64 0, .int .i64 0, .slice none 0 0], .int .i64 E]) (ret_pat2 rfl rfl rfl HP.out.1) rfl ?_
    rw [HT2.out]
    exact OutP.zero HP.out.2
end Go.Proofs.YtgmokojdlbdjeaaGreatDoor
