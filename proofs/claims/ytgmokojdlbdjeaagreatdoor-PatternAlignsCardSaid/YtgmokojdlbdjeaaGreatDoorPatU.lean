/-
  THE PROGRAM: Swell.
-/
import Derived.Test.YtgmokojdlbdjeaaGreatDoorPatS
namespace Go.Proofs.YtgmokojdlbdjeaaGreatDoor
open Go.RowKit
attribute [local go_sem] sub_cell sub_frozen
attribute [local irreducible] RP.plainUpon RP.stepC
def sweF (t : Int) (F : Int → Int → Int) : Int → Int → Int := fun x y => F (x / t) (y / t)
def sweZ (p : PatD) (t : Int) : Int := if valP p ≠ 0 then valP p else if t < 1 ∨ 12 < t then 1 else 0
noncomputable def sweT (p : PatD) (t : Int) : PatD := if sweZ p t ≠ 0 then zeroP else resT (sweF t (colF p))
noncomputable def sweE (p : PatD) (t : Int) : Int := if sweZ p t ≠ 0 then sweZ p t else resZ (sweF t (colF p))
theorem Per.swell {F : Int → Int → Int} {a b t : Int} (h : Per F a b) (ht : 0 < t) : Per (sweF t F) (a * t) (b * t) := fun x y => by
  unfold sweF
  rw [Int.add_mul_ediv_right _ _ (by omega), Int.add_mul_ediv_right _ _ (by omega)]
  exact h _ _
theorem Base.swell {F : Int → Int → Int} {a b c t : Int} (h : Base F a b c) (ht : 0 < t) : Base (sweF t F) (a * t) (b * t) (c * t) :=
  ⟨Int.mul_pos h.a0 ht, Int.mul_pos h.c0 ht, (h.pa.swell ht).same rfl (by omega), h.pb.swell ht⟩
theorem sweZ_zero {p : PatD} {t : Int} (h : sweZ p t = 0) : valP p = 0 ∧ 1 ≤ t ∧ t ≤ 12 := by
  unfold sweZ at h
  split at h
  · rename_i hv; exact absurd h hv
  · rename_i hv
    split at h
    · cases h
    · exact ⟨by omega, by omega, by omega⟩
set_option maxRecDepth 100000 in
set_option maxHeartbeats 1000000 in
theorem swe_fun (w : World) (bx tb : Nat) (p : PatD) (A : Option Addr) (cap : Nat) (t : Int) (h : PBox w bx p.a p.b p.c (.slice A p.xs.length cap)) (ht : IBox w tb t) (hp : PatOK p) (hi : PatIn w p A) (t0 : 1 ≤ t) (t1 : t ≤ 12) :
    FunV w (.func (.func 78) #[] #[.pointer (some ⟨bx, 0, none⟩), .pointer (some ⟨tb, 0, none⟩)]) (sweF t (colF p)) 50000000 := by
  refine ⟨_, _, rfl, fun args w' => ?_, fun w' hb x y h0 h3 h4 h5 => ?_⟩
  · go_simp
  · obtain ⟨q0, q1, q2, q3, q4⟩ := (h.keep hb).cells
    have q5 := (ht.keep hb).cell
    have q6 := (Array.getElem?_eq_some_iff.1 (ht.keep hb)).1
    have hbx := ediv_bd (show 0 < t by omega) (show -(50000000 : Int) ≤ x by omega) h3
    have hby := ediv_bd (show 0 < t by omega) (show -(50000000 : Int) ≤ y by omega) h5
    have HF1 := Lib.hid (pfloor_any x t (by omega) (by omega) (by omega) (by omega))
    have HF2 := Lib.hid (pfloor_any y t (by omega) (by omega) (by omega) (by omega))
    have HC := Lib.hid (fun w2 (hb2 : Below w'.heap.size w' w2) => pcolor_any p hp A p.xs.length cap (x / t) (y / t) (by omega) (by omega) (by omega) (by omega) w2 ((hi.below hb).below hb2))
    obtain ⟨z, hz⟩ : ∃ z, z = colF p (x / t) (y / t) := ⟨_, rfl⟩
    have HZ := Lib.hid (show z = sweF t (colF p) x y from hz)
    rw [← hz] at HC
    obtain ⟨xq, hxq⟩ : ∃ xq, xq = x / t := ⟨_, rfl⟩
    obtain ⟨yq, hyq⟩ : ∃ yq, yq = y / t := ⟨_, rfl⟩
    rw [← hxq] at HF1 HC
    rw [← hyq] at HF2 HC
    clear h hi hb hp hz ht hbx hby hxq hyq
    show Calls Tryz.prog 78 #[.int .i64 x, .int .i64 y, .pointer (some ⟨bx, 0, none⟩), .pointer (some ⟨tb, 0, none⟩)] w' _
    go_enter Tryz.func78, Tryz.ntmps78
    go_upto_region 1 with fail
    refine RP.region_treeP (C := fun w2 => ∃ x : SubW w'.heap.size w', w2 = x.val) (fun _ _ _ => False) [0, 1, 2, 4, 5] (.one 3 (.one 6 (.one 7 .nil))) 8 (fun _ _ _ h => h.elim) (by kernel_rfl) (by kernel_rfl) (sub_start _ w') ?_
    simp only [pickL, List.getElem?_cons_zero, List.getElem?_cons_succ]
    repeat (go_big_quiet_step (fail))
    refine wpQuiet_nil ?_
    obtain ⟨w5, hw5⟩ : ∃ w5 : World, w5 = { w' with drawn := w'.drawn + 1 } := ⟨_, rfl⟩
    have hb5 : Below w'.heap.size w' w5 := by rw [hw5]; exact (Below.refl _ _).drew
    rw [← hw5]
    clear q0 q1 q2 q3 q5 hw5
    simp only [RP.treeS, atOp, List.getElem?_cons_zero, List.getElem?_cons_succ]
    refine ⟨sub_of hb5, ?_⟩
    refine RP.p_call 79 #[.int .i64 x, .int .i64 t] rfl (by go_simp) ?_
    refine (HF1.out w5).mono ?_
    rintro e w6 ⟨rfl, rfl⟩
    refine .inl ⟨_, rfl, ?_⟩
    refine ⟨sub_of hb5, ?_⟩
    refine RP.p_call 79 #[.int .i64 y, .int .i64 t] rfl (by go_simp) ?_
    refine (HF2.out w5).mono ?_
    rintro e w6 ⟨rfl, rfl⟩
    refine .inl ⟨_, rfl, ?_⟩
    refine ⟨sub_of hb5, ?_⟩
    refine RP.p_call 60 #[.agg #[.int .i64 p.a, .int .i64 p.b, .int .i64 p.c, .slice A p.xs.length cap], .int .i64 xq, .int .i64 yq] rfl (by go_simp) ?_
    refine (HC.out w5 hb5).mono ?_
    rintro e w6 ⟨rfl, hb6⟩
    have hb6' := hb5.trans (hb6.mono hb5.size)
    refine .inl ⟨_, rfl, ?_⟩
    refine ⟨sub_of hb6', ?_⟩
    refine RP.p_assign _ rfl rfl (.int .i64 z) (by go_simp) ?_
    have HB := Lib.hid hb6'
    clear hb5 hb6 hb6' HC
    go_simp
    go_wp2
    go_ret
    exact ⟨by rw [← HZ.out]; rfl, HB.out⟩
set_option maxRecDepth 100000 in
set_option maxHeartbeats 1000000 in
theorem pswell_any (p : PatD) (hl : p.xs.length ≤ 1000000) (t : Int) (A : Option Addr) (cap : Nat) (w : World) (hi : PatIn w p A) :
    Calls Tryz.prog 31 #[.agg #[.int .i64 p.a, .int .i64 p.b, .int .i64 p.c, .slice A p.xs.length cap], .int .i64 t] w (OutP w (sweT p t) (.int .i64 (sweE p t))) := by
  obtain ⟨T, hT⟩ : ∃ T, T = sweT p t := ⟨_, rfl⟩
  obtain ⟨Z, hZ⟩ : ∃ Z, Z = sweE p t := ⟨_, rfl⟩
  obtain ⟨Y, hY⟩ : ∃ Y, Y = sweZ p t := ⟨_, rfl⟩
  obtain ⟨E, hE⟩ : ∃ E, E = valP p := ⟨_, rfl⟩
  rw [← hT, ← hZ]
  unfold sweT at hT
  unfold sweE at hZ
  rw [← hY] at hT hZ
  have HY := Lib.hid hY
  unfold sweZ at hY
  rw [← hE] at hY
  have HYU := Lib.hid hY
  have HC := Lib.hid (fun w hi => validateP_any p hl E hE.symm A cap w hi)
  have HT := Lib.hid (And.intro hT hZ)
  have HE := Lib.hid hE
  have HI := Lib.hid hi
  have hmf : ∀ (fn : Fn) (first cap : Array Value) (w : World), (Instr.makeFunc fn first cap).run Tryz.prog w = .ok (.func fn first cap) w := fun _ _ _ _ => rfl
  clear hi hT hE hZ hY
  go_enter Tryz.func31, Tryz.ntmps31
  go_wp2_with fail
  obtain ⟨a0, a1, a2, a3, a4⟩ := al3 w (.cells #[.int .i64 p.a, .int .i64 p.b, .int .i64 p.c, .slice A p.xs.length cap] 24) (.cells #[.int .i64 t] 3) (.cells #[.int .i64 0, .int .i64 0, .int .i64 0, .slice none 0 0] 24)
  obtain ⟨V, hV⟩ : ∃ V, V = ((w.alloc (.cells #[.int .i64 p.a, .int .i64 p.b, .int .i64 p.c, .slice A p.xs.length cap] 24)).alloc (.cells #[.int .i64 t] 3)).alloc (.cells #[.int .i64 0, .int .i64 0, .int .i64 0, .slice none 0 0] 24) := ⟨_, rfl⟩
  rw [← hV] at a0 a1 a2 a3 a4 ⊢
  have hck := HC.out V (HI.out.below a4)
  refine hck.mono ?_
  rintro e w1 ⟨rfl, hb1⟩
  have H1 := Lib.hid (show PBox w1 w.heap.size p.a p.b p.c (.slice A p.xs.length cap) ∧ PBox w1 (w.heap.size + 1 + 1) 0 0 0 (.slice none 0 0) ∧ Below w.heap.size w w1 ∧ IBox w1 (w.heap.size + 1) t from
    ⟨PBox.keep (w := V) a1 hb1, PBox.keep (w := V) a3 hb1, a4.trans (hb1.mono a4.size), IBox.keep (w := V) a2 hb1⟩)
  clear hV a0 a1 a2 a3 a4 HC hck hb1 V
  have s0 := H1.out.2.2.2.cell
  by_cases hz : E = 0
  · subst hz
    have hY := HYU.out
    rw [if_neg (by simp)] at hY
    by_cases ht : t < 1 ∨ 12 < t
    · rw [if_pos ht] at hY
      have HT2 := Lib.hid (show T = zeroP ∧ Z = 1 by rw [HT.out.1, HT.out.2, hY, if_pos (by decide), if_pos (by decide)]; exact ⟨rfl, rfl⟩)
      have HP := Lib.hid (put_zero H1.out.2.1 H1.out.2.2.1 (by omega))
      have hZ1 := HT2.out.2
      subst hZ1
      obtain ⟨r0, r1, r2, r3, r4⟩ := PBox.cells H1.out.2.1
      have f0 : (w1).frozen? ⟨w.heap.size + 1 + 1, 0, none⟩ = false := frozen_of_row (w1) (w.heap.size + 1 + 1) 0 _ _ H1.out.2.1
      have f1 : (w1).frozen? ⟨w.heap.size + 1 + 1, 1, none⟩ = false := frozen_of_row (w1) (w.heap.size + 1 + 1) 1 _ _ H1.out.2.1
      have f2 : (w1).frozen? ⟨w.heap.size + 1 + 1, 2, none⟩ = false := frozen_of_row (w1) (w.heap.size + 1 + 1) 2 _ _ H1.out.2.1
      have f3 : (w1).frozen? ⟨w.heap.size + 1 + 1, 3, none⟩ = false := frozen_of_row (w1) (w.heap.size + 1 + 1) 3 _ _ H1.out.2.1
      clear HT HE H1 HY HYU hY
      by_cases h1 : t < 1
      · have d1 : decide (t < 1) = true := decide_eq_true h1
        clear ht h1
        go_wp2
        refine bodyPost_ret (v := .tuple #[.agg #[.int .i64 0, .int .i64 0, .int .i64 0, .slice none 0 0], .int .i64 1]) (ret_pat2 rfl rfl rfl HP.out.1) rfl ?_
        rw [HT2.out.1]
        exact OutP.zero HP.out.2
      · have d1 : decide (t < 1) = false := decide_eq_false h1
        have d2 : decide (12 < t) = true := decide_eq_true (by omega)
        clear ht h1
        go_wp2
        refine bodyPost_ret (v := .tuple #[.agg #[.int .i64 0, .int .i64 0, .int .i64 0, .slice none 0 0], .int .i64 1]) (ret_pat2 rfl rfl rfl HP.out.1) rfl ?_
        rw [HT2.out.1]
        exact OutP.zero HP.out.2
    · rw [if_neg ht] at hY
      obtain ⟨hT, hZ⟩ := HT.out
      rw [hY, if_neg (by simp)] at hT hZ
      have hv : valP p = 0 := HE.out.symm
      have hg := valP_zero hv
      have hbase := (lst_pat hv).swell (show 0 < t by omega)
      have d1 : decide (t < 1) = false := decide_eq_false (by omega)
      have d2 : decide (12 < t) = false := decide_eq_false (by omega)
      have HFU := Lib.hid (swe_fun w1 w.heap.size (w.heap.size + 1) p A cap t H1.out.1 H1.out.2.2.2 hg.ok (HI.out.below H1.out.2.2.1) (by omega) (by omega))
      have m1 : 0 ≤ p.a * t ∧ p.a * t ≤ 144 * 12 := ⟨Int.mul_nonneg (by have := hg.a0; omega) (by omega), Int.mul_le_mul hg.a1 (by omega) (by omega) (by omega)⟩
      have m2 : 0 ≤ p.b * t ∧ p.b * t ≤ 144 * 12 := ⟨Int.mul_nonneg hg.b0 (by omega), Int.mul_le_mul (by have := hg.b1; have := hg.a1; omega) (by omega) (by omega) (by omega)⟩
      have m3 : 0 ≤ p.c * t ∧ p.c * t ≤ 144 * 12 := ⟨Int.mul_nonneg (by have := hg.c0; omega) (by omega), Int.mul_le_mul hg.c1 (by omega) (by omega) (by omega)⟩
      have hres := presult_lst _ (p.a * t) (p.b * t) (p.c * t) hbase (by omega) (by omega) _ w1 HFU.out
      rw [← hT, ← hZ] at hres
      obtain ⟨ta, hta⟩ : ∃ n, n = p.a * t := ⟨_, rfl⟩
      obtain ⟨tb, htb⟩ : ∃ n, n = p.b * t := ⟨_, rfl⟩
      obtain ⟨tc, htc⟩ : ∃ n, n = p.c * t := ⟨_, rfl⟩
      have k1 : IntKind.i64.wrap (p.a * t) = ta := by rw [hta]; exact IntWalk.i64_in _ (by omega)
      have k2 : IntKind.i64.wrap (p.b * t) = tb := by rw [htb]; exact IntWalk.i64_in _ (by omega)
      have k3 : IntKind.i64.wrap (p.c * t) = tc := by rw [htc]; exact IntWalk.i64_in _ (by omega)
      rw [← hta, ← htb, ← htc] at hres
      have HRES := Lib.hid hres
      clear hT hZ hv hg hbase hres HT HE HY HYU hY m1 m2 m3 hta htb htc ht
      obtain ⟨q0, q1, q2, q3, q4⟩ := H1.out.1.cells
      go_wp2_with fail
      refine HRES.out.mono ?_
      rintro e w2 ⟨v, rfl, hown, hb2⟩
      obtain ⟨A3, n3, rfl, -⟩ := hown.isL
      have hr3 := H1.out.2.1.keep hb2
      have HP := Lib.hid (put_ret hr3 (H1.out.2.2.1.trans (hb2.mono H1.out.2.2.1.size)) (by omega) T _ hown H1.out.2.2.1.size (Array.getElem?_eq_some_iff.1 H1.out.2.1).1)
      obtain ⟨r0, r1, r2, r3, r4⟩ := PBox.cells hr3
      have f0 : (w2).frozen? ⟨w.heap.size + 1 + 1, 0, none⟩ = false := frozen_of_row (w2) (w.heap.size + 1 + 1) 0 _ _ hr3
      have f1 : (w2).frozen? ⟨w.heap.size + 1 + 1, 1, none⟩ = false := frozen_of_row (w2) (w.heap.size + 1 + 1) 1 _ _ hr3
      have f2 : (w2).frozen? ⟨w.heap.size + 1 + 1, 2, none⟩ = false := frozen_of_row (w2) (w.heap.size + 1 + 1) 2 _ _ hr3
      have f3 : (w2).frozen? ⟨w.heap.size + 1 + 1, 3, none⟩ = false := frozen_of_row (w2) (w.heap.size + 1 + 1) 3 _ _ hr3
      clear hown hb2 hr3 HRES q0 q1 q2 q3 q4 H1 s0
      go_wp2
      refine bodyPost_ret (v := .tuple #[.agg #[.int .i64 T.a, .int .i64 T.b, .int .i64 T.c, .slice A3 T.xs.length n3], .int .i64 Z]) (ret_pat2 rfl rfl rfl HP.out.1) rfl ?_
      exact ⟨_, rfl, HP.out.2⟩
  · have d1 : (E == 0) = false := by rw [beq_eq_false_iff_ne]; exact hz
    have d2 : (E != 0) = true := by rw [bne_iff_ne]; exact hz
    have hY := HYU.out
    rw [if_pos hz] at hY
    subst hY
    obtain ⟨hT, hZ⟩ := HT.out
    rw [if_pos hz] at hT hZ
    subst hZ
    have HT2 := Lib.hid hT
    have HP := Lib.hid (put_zero H1.out.2.1 H1.out.2.2.1 (by omega))
    obtain ⟨r0, r1, r2, r3, r4⟩ := PBox.cells H1.out.2.1
    have f0 : (w1).frozen? ⟨w.heap.size + 1 + 1, 0, none⟩ = false := frozen_of_row (w1) (w.heap.size + 1 + 1) 0 _ _ H1.out.2.1
    have f1 : (w1).frozen? ⟨w.heap.size + 1 + 1, 1, none⟩ = false := frozen_of_row (w1) (w.heap.size + 1 + 1) 1 _ _ H1.out.2.1
    have f2 : (w1).frozen? ⟨w.heap.size + 1 + 1, 2, none⟩ = false := frozen_of_row (w1) (w.heap.size + 1 + 1) 2 _ _ H1.out.2.1
    have f3 : (w1).frozen? ⟨w.heap.size + 1 + 1, 3, none⟩ = false := frozen_of_row (w1) (w.heap.size + 1 + 1) 3 _ _ H1.out.2.1
    clear hz HT HE H1 HY HYU hT
    go_wp2
    refine bodyPost_ret (v := .tuple #[.agg #[.int .i64 0, .int .i64 0, .int .i64 0, .slice none 0 0], .int .i64 Z]) (ret_pat2 rfl rfl rfl HP.out.1) rfl ?_
    rw [HT2.out]
    exact OutP.zero HP.out.2
end Go.Proofs.YtgmokojdlbdjeaaGreatDoor
