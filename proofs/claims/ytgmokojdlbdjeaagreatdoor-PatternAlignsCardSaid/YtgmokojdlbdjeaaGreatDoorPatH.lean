/-
  THE PROGRAM: At, Home, IsPeriod.
-/
import Derived.Test.YtgmokojdlbdjeaaGreatDoorPatO
import Derived.Test.YtgmokojdlbdjeaaGreatDoorAliM
namespace Go.Proofs.YtgmokojdlbdjeaaGreatDoor
open Go.RowKit
def atT (p : PatD) (x y : Int) : Int := if chkP p [x, y] ≠ 0 then 0 else colF p x y
theorem al1 (w : World) (o : Obj) : (w.alloc o).heap.size = w.heap.size + 1 ∧ (w.alloc o).heap[w.heap.size]? = some o ∧ Below w.heap.size w (w.alloc o) := ⟨by simp, heap_alloc_new w o, (by repeat' (first | (with_reducible exact Below.refl _ _) | (with_reducible assumption) | (with_reducible refine below_drewN ?_ _) | (with_reducible refine below_step (by assumption) ?_ ?_) | (with_reducible refine Below.alloc ?_ ?_ _) | (with_reducible refine Below.setCell ?_ ?_ _) | (with_reducible refine Below.drew ?_) | go_size | (exact Below.size (by assumption)) | (refine Nat.le_trans (Below.size (by assumption)) ?_)))⟩
set_option maxRecDepth 100000 in
set_option maxHeartbeats 1000000 in
theorem pat_any (p : PatD) (hl : p.xs.length ≤ 1000000) (x y : Int) (A : Option Addr) (cap : Nat) (w : World) (hi : PatIn w p A) :
    Calls Tryz.prog 35 #[.agg #[.int .i64 p.a, .int .i64 p.b, .int .i64 p.c, .slice A p.xs.length cap], .int .i64 x, .int .i64 y] w fun e w' => e = .returned (.tuple #[.int .i64 (atT p x y), .int .i64 (chkP p [x, y])]) ∧ Below w.heap.size w w' := by
  obtain ⟨T, hT⟩ : ∃ T, T = atT p x y := ⟨_, rfl⟩
  obtain ⟨Z, hZ⟩ : ∃ Z, Z = chkP p [x, y] := ⟨_, rfl⟩
  obtain ⟨E, hE⟩ : ∃ E, E = valP p := ⟨_, rfl⟩
  rw [← hT, ← hZ]
  unfold atT at hT
  rw [← hZ] at hT
  have HZ := Lib.hid hZ
  unfold chkP at hZ
  rw [← hE] at hZ
  have hn := fun B n c2 w hx => near_any B n c2 [x, y] (by simp) w hx
  have hfar : ([x, y] : List Int).any farC = false → (-100000 ≤ x ∧ x ≤ 100000) ∧ (-100000 ≤ y ∧ y ≤ 100000) := fun h => by
    simp only [List.any_cons, List.any_nil, Bool.or_false, Bool.or_eq_false_iff] at h
    exact ⟨farC_bd h.1, farC_bd h.2⟩
  obtain ⟨f, hf⟩ : ∃ f, f = ([x, y] : List Int).any farC := ⟨_, rfl⟩
  rw [← hf] at hn hZ hfar
  have HV := Lib.hid (fun w hi => validateP_any p hl E hE.symm A cap w hi)
  have HN := Lib.hid hn
  have HFA := Lib.hid hfar
  have HT := Lib.hid hT
  have HZU := Lib.hid hZ
  have HE := Lib.hid hE
  have HI := Lib.hid hi
  clear hi hT hZ hE hn hf hfar
  go_enter Tryz.func35, Tryz.ntmps35
  go_wp2_with fail
  obtain ⟨a0, a1, a2⟩ := al1 w (.cells #[.int .i64 p.a, .int .i64 p.b, .int .i64 p.c, .slice A p.xs.length cap] 24)
  obtain ⟨V, hV⟩ : ∃ V, V = w.alloc (.cells #[.int .i64 p.a, .int .i64 p.b, .int .i64 p.c, .slice A p.xs.length cap] 24) := ⟨_, rfl⟩
  rw [← hV] at a0 a1 a2 ⊢
  refine (HV.out V (HI.out.below a2)).mono ?_
  rintro e w1 ⟨rfl, hb1⟩
  have H1 := Lib.hid (show PBox w1 w.heap.size p.a p.b p.c (.slice A p.xs.length cap) ∧ Below w.heap.size w w1 from ⟨PBox.keep (w := V) a1 hb1, a2.trans (hb1.mono a2.size)⟩)
  clear hV a0 a1 a2 HV hb1 V
  by_cases hz : E = 0
  · subst hz
    have hZ := HZU.out
    rw [if_neg (by simp)] at hZ
    go_wp2_with fail
    obtain ⟨a0, a1, a2⟩ := al1 w1 (.cells #[.int .i64 x, .int .i64 y] 3)
    obtain ⟨V, hV⟩ : ∃ V, V = w1.alloc (.cells #[.int .i64 x, .int .i64 y] 3) := ⟨_, rfl⟩
    rw [← hV] at a0 a1 a2 ⊢
    have hrow : Row V w1.heap.size (#[Value.int .i64 x, Value.int .i64 y].toList) := ⟨_, _, a1, by simp, by simp⟩
    have hck := HN.out (some ⟨w1.heap.size, 0, none⟩) 2 2 V (RowI.isL (zs := [x, y]) hrow)
    refine hck.mono ?_
    rintro e w2 ⟨rfl, hb2⟩
    have H2 := Lib.hid (show PBox w2 w.heap.size p.a p.b p.c (.slice A p.xs.length cap) ∧ Below w.heap.size w w2 from ⟨(H1.out.1.keep a2).keep hb2, (H1.out.2.trans (a2.mono H1.out.2.size)).trans (hb2.mono (Nat.le_trans H1.out.2.size a2.size))⟩)
    clear hV a0 a1 a2 hrow hck hb2 V H1 HN
    cases f with
    | true =>
      have HT2 := Lib.hid (show T = 0 ∧ Z = 1 by
        have hz1 : Z = 1 := by rw [hZ, if_pos rfl]
        exact ⟨by rw [HT.out, if_pos (by omega)], hz1⟩)
      clear hZ HT HZU HZ HE
      go_wp2
      go_ret2
      exact ⟨by rw [HT2.out.1, HT2.out.2] <;> rfl, H2.out.2⟩
    | false =>
      have hz0 : Z = 0 := by rw [hZ, if_neg (by simp)]
      have HT2 := Lib.hid (show T = colF p x y ∧ Z = 0 from ⟨by rw [HT.out, if_neg (by omega)], hz0⟩)
      obtain ⟨⟨x0, x1⟩, y0, y1⟩ := HFA.out rfl
      have hg := valP_zero HE.out.symm
      have HC := Lib.hid (pcolor_any p hg.ok A p.xs.length cap x y (by omega) (by omega) (by omega) (by omega) w2 (HI.out.below H2.out.2))
      obtain ⟨q0, q1, q2, q3, q4⟩ := H2.out.1.cells
      clear hZ HT HZU HZ HE hz0 hg x0 x1 y0 y1
      go_wp2_with fail
      refine HC.out.mono ?_
      rintro e w3 ⟨rfl, hb3⟩
      have HB := Lib.hid (H2.out.2.trans (hb3.mono H2.out.2.size))
      clear hb3 q0 q1 q2 q3 q4 HC H2
      go_wp2
      go_ret2
      exact ⟨by rw [HT2.out.1, HT2.out.2] <;> rfl, HB.out⟩
  · have d1 : (E == 0) = false := by rw [beq_eq_false_iff_ne]; exact hz
    have d2 : (E != 0) = true := by rw [bne_iff_ne]; exact hz
    have HT2 := Lib.hid (show T = 0 ∧ Z = E by
      have hz1 : Z = E := by rw [HZU.out, if_pos hz]
      exact ⟨by rw [HT.out, if_pos (by omega)], hz1⟩)
    clear hz HT HE HZU HZ
    go_wp2
    go_ret2
    exact ⟨by rw [HT2.out.1, HT2.out.2] <;> rfl, H1.out.2⟩
/-- The least pattern of a valid pattern's plane. -/
theorem pleast_lst (p : PatD) (hv : valP p = 0) (fv : Value) (w : World) (hF : FunV w fv (colF p) 50000000) :
    Calls Tryz.prog 85 #[.agg #[.int .i64 p.a, .int .i64 p.b, .int .i64 p.c, fv]] w (OutP w (lst (colF p)) (.bool true)) := by
  have hB := lst_pat hv
  obtain ⟨h1, h2⟩ := hB.lst
  have hg := valP_zero hv
  have h3 : (lst (colF p)).a * (lst (colF p)).c ≤ 144 := Int.le_trans hB.lst_cells hg.ac
  have := pleast_any (colF p) p.a p.b p.c _ _ _ hB h1 (by have := hg.a1; omega) (by have := hg.c1; omega) fv w hF
  rw [if_pos h3, decide_eq_true h3, ← h2] at this
  exact this
/-- Home. -/
noncomputable def homT (p : PatD) (x y : Int) : Int × Int := if chkP p [x, y] ≠ 0 then (0, 0) else (homeX (lst (colF p)).a (lst (colF p)).b (lst (colF p)).c x y, y % (lst (colF p)).c)
theorem lst_good {p : PatD} (hv : valP p = 0) : GoodP (lst (colF p)) := (lst_pat hv).good (Int.le_trans (lst_pat hv).lst_cells (valP_zero hv).ac) (valP_zero hv).cols
set_option maxRecDepth 100000 in
set_option maxHeartbeats 1000000 in
theorem phomeT_any (p : PatD) (hl : p.xs.length ≤ 1000000) (x y : Int) (A : Option Addr) (cap : Nat) (w : World) (hi : PatIn w p A) :
    Calls Tryz.prog 37 #[.agg #[.int .i64 p.a, .int .i64 p.b, .int .i64 p.c, .slice A p.xs.length cap], .int .i64 x, .int .i64 y] w fun e w' => e = .returned (.tuple #[.int .i64 (homT p x y).1, .int .i64 (homT p x y).2, .int .i64 (chkP p [x, y])]) ∧ Below w.heap.size w w' := by
  obtain ⟨T, hT⟩ : ∃ T, T = homT p x y := ⟨_, rfl⟩
  obtain ⟨E, hE⟩ : ∃ E, E = chkP p [x, y] := ⟨_, rfl⟩
  rw [← hT, ← hE]
  unfold homT at hT
  rw [← hE] at hT
  have HC := Lib.hid (fun B n c2 w hi hx => checkP_any p hl [x, y] (by simp) E hE.symm A cap B n c2 w hi hx)
  have HT := Lib.hid hT
  have HE := Lib.hid hE
  have HI := Lib.hid hi
  clear hi hT hE
  go_enter Tryz.func37, Tryz.ntmps37
  go_wp2_with fail
  obtain ⟨a0, a1, a2, a3⟩ := al2 w (.cells #[.int .i64 p.a, .int .i64 p.b, .int .i64 p.c, .slice A p.xs.length cap] 24) (.cells #[.int .i64 x, .int .i64 y] 3)
  obtain ⟨V, hV⟩ : ∃ V, V = (w.alloc (.cells #[.int .i64 p.a, .int .i64 p.b, .int .i64 p.c, .slice A p.xs.length cap] 24)).alloc (.cells #[.int .i64 x, .int .i64 y] 3) := ⟨_, rfl⟩
  rw [← hV] at a0 a1 a2 a3 ⊢
  have hrow : Row V (w.heap.size + 1) (#[Value.int .i64 x, Value.int .i64 y].toList) := ⟨_, _, a2, by simp, by simp⟩
  have hck := HC.out (some ⟨w.heap.size + 1, 0, none⟩) 2 2 V (HI.out.below a3) (RowI.isL (zs := [x, y]) hrow)
  refine hck.mono ?_
  rintro e w1 ⟨rfl, hb1⟩
  have H1 := Lib.hid (show PBox w1 w.heap.size p.a p.b p.c (.slice A p.xs.length cap) ∧ Below w.heap.size w w1 from ⟨PBox.keep (w := V) a1 hb1, a3.trans (hb1.mono a3.size)⟩)
  clear hV a0 a1 a2 a3 hrow hck HC hb1 V
  by_cases hz : E = 0
  · subst hz
    obtain ⟨hv, hfar⟩ := chkP_zero HE.out.symm
    obtain ⟨x0, x1⟩ := hfar x (by simp)
    obtain ⟨y0, y1⟩ := hfar y (by simp)
    have hT := HT.out
    rw [if_neg (by simp)] at hT
    have HL := Lib.hid (fun fv w hF => pleast_lst p hv fv w hF)
    have hg := lst_good hv
    have hgp := valP_zero hv
    obtain ⟨q, hq⟩ : ∃ q, q = lst (colF p) := ⟨_, rfl⟩
    rw [← hq] at hT HL hg
    have HH := Lib.hid (fun s w => phome_any q.a q.b q.c s x y hg.a0 (by have := hg.a1; omega) hg.b0 (by have := hg.b1; have := hg.a1; omega) hg.c0 (by have := hg.c1; omega) (by omega) (by omega) (by omega) (by omega) w)
    have HGP := Lib.hid hgp
    have HTT := Lib.hid hT
    clear hv hfar hg hq hT HT HE x0 x1 y0 y1 hgp
    obtain ⟨q0, q1, q2, q3, q4⟩ := H1.out.1.cells
    go_wp2_with fail
    refine (of_any p HGP.out.ok A cap w1 (HI.out.below H1.out.2)).mono ?_
    rintro e w2 ⟨fv, rfl, hF, hb2⟩
    have H2 := Lib.hid (show Below w.heap.size w w2 ∧ FunV w2 fv (colF p) 50000000 from ⟨H1.out.2.trans (hb2.mono H1.out.2.size), hF⟩)
    clear hF hb2 q0 q1 q2 q3 q4 H1
    go_wp2_with fail
    refine (HL.out fv w2 H2.out.2).mono ?_
    rintro e w3 ⟨v, rfl, ho, hb3⟩
    obtain ⟨A3, n3, rfl, -⟩ := ho.isL
    obtain ⟨l3, hl3⟩ : ∃ l3, l3 = q.xs.length := ⟨_, rfl⟩
    rw [← hl3]
    have H3 := Lib.hid (H2.out.1.trans (hb3.mono H2.out.1.size))
    clear ho hb3 hl3 H2 HL
    go_wp2_with fail
    obtain ⟨a0, a1, a2⟩ := al1 w3 (.cells #[.int .i64 q.a, .int .i64 q.b, .int .i64 q.c, .slice A3 l3 n3] 24)
    obtain ⟨V, hV⟩ : ∃ V, V = w3.alloc (.cells #[.int .i64 q.a, .int .i64 q.b, .int .i64 q.c, .slice A3 l3 n3] 24) := ⟨_, rfl⟩
    rw [← hV] at a0 a1 a2 ⊢
    have H4 := Lib.hid (H3.out.trans (a2.mono H3.out.size))
    refine (HH.out (.slice A3 l3 n3) V).mono ?_
    rintro e w4 ⟨rfl, hb4⟩
    have H5 := Lib.hid (H4.out.trans (hb4.mono H4.out.size))
    obtain ⟨u1, hu1⟩ : ∃ u, u = homeX q.a q.b q.c x y := ⟨_, rfl⟩
    obtain ⟨u2, hu2⟩ : ∃ u, u = y % q.c := ⟨_, rfl⟩
    rw [← hu1, ← hu2]
    have HU := Lib.hid (show T = (u1, u2) by rw [hu1, hu2]; exact HTT.out)
    clear hV a0 a1 a2 V hb4 H3 H4 HH hu1 hu2 HTT HGP
    go_wp2
    go_ret3
    exact ⟨by rw [HU.out] <;> rfl, H5.out⟩
  · have d1 : (E == 0) = false := by rw [beq_eq_false_iff_ne]; exact hz
    have d2 : (E != 0) = true := by rw [bne_iff_ne]; exact hz
    have HT2 := Lib.hid (show T = (0, 0) by rw [HT.out, if_pos hz])
    clear hz HT HE
    go_wp2
    go_ret3
    exact ⟨by rw [HT2.out] <;> rfl, H1.out.2⟩
/-- Whether a vector is a period. -/
noncomputable def perT (p : PatD) (dx dy : Int) : Bool := by
  classical
  exact if chkP p [dx, dy] ≠ 0 then false else decide (Per (colF p) dx dy)
theorem perT_bad {p : PatD} {dx dy : Int} (h : chkP p [dx, dy] ≠ 0) : perT p dx dy = false := by unfold perT; rw [if_pos h]
theorem perT_iff {p : PatD} {dx dy : Int} (h : chkP p [dx, dy] = 0) : perT p dx dy = true ↔ Per (colF p) dx dy := by
  classical
  unfold perT
  rw [if_neg (by simp [h])]
  exact decide_eq_true_iff
set_option maxRecDepth 100000 in
set_option maxHeartbeats 1000000 in
theorem pisPeriod_any (p : PatD) (hl : p.xs.length ≤ 1000000) (x y : Int) (A : Option Addr) (cap : Nat) (w : World) (hi : PatIn w p A) :
    Calls Tryz.prog 43 #[.agg #[.int .i64 p.a, .int .i64 p.b, .int .i64 p.c, .slice A p.xs.length cap], .int .i64 x, .int .i64 y] w fun e w' => e = .returned (.tuple #[.bool (perT p x y), .int .i64 (chkP p [x, y])]) ∧ Below w.heap.size w w' := by
  obtain ⟨T, hT⟩ : ∃ T, T = perT p x y := ⟨_, rfl⟩
  have h0 := fun h => perT_bad (p := p) (dx := x) (dy := y) h
  have h1 := fun h => perT_iff (p := p) (dx := x) (dy := y) h
  obtain ⟨E, hE⟩ : ∃ E, E = chkP p [x, y] := ⟨_, rfl⟩
  rw [← hT] at h0 h1 ⊢
  rw [← hE] at h0 h1 ⊢
  have HC := Lib.hid (fun B n c2 w hi hx => checkP_any p hl [x, y] (by simp) E hE.symm A cap B n c2 w hi hx)
  have HT0 := Lib.hid h0
  have HT1 := Lib.hid h1
  have HE := Lib.hid hE
  have HI := Lib.hid hi
  clear hi hT hE h0 h1
  go_enter Tryz.func43, Tryz.ntmps43
  go_wp2_with fail
  obtain ⟨a0, a1, a2, a3⟩ := al2 w (.cells #[.int .i64 p.a, .int .i64 p.b, .int .i64 p.c, .slice A p.xs.length cap] 24) (.cells #[.int .i64 x, .int .i64 y] 3)
  obtain ⟨V, hV⟩ : ∃ V, V = (w.alloc (.cells #[.int .i64 p.a, .int .i64 p.b, .int .i64 p.c, .slice A p.xs.length cap] 24)).alloc (.cells #[.int .i64 x, .int .i64 y] 3) := ⟨_, rfl⟩
  rw [← hV] at a0 a1 a2 a3 ⊢
  have hrow : Row V (w.heap.size + 1) (#[Value.int .i64 x, Value.int .i64 y].toList) := ⟨_, _, a2, by simp, by simp⟩
  have hck := HC.out (some ⟨w.heap.size + 1, 0, none⟩) 2 2 V (HI.out.below a3) (RowI.isL (zs := [x, y]) hrow)
  refine hck.mono ?_
  rintro e w1 ⟨rfl, hb1⟩
  have H1 := Lib.hid (show PBox w1 w.heap.size p.a p.b p.c (.slice A p.xs.length cap) ∧ Below w.heap.size w w1 from ⟨PBox.keep (w := V) a1 hb1, a3.trans (hb1.mono a3.size)⟩)
  clear hV a0 a1 a2 a3 hrow hck HC hb1 V
  by_cases hz : E = 0
  · subst hz
    obtain ⟨hv, hfar⟩ := chkP_zero HE.out.symm
    obtain ⟨x0, x1⟩ := hfar x (by simp)
    obtain ⟨y0, y1⟩ := hfar y (by simp)
    have hgp := valP_zero hv
    have HR := Lib.hid (fun fv w hF => repeats_any (colF p) p.a p.b p.c fv x y T ((HT1.out rfl).trans (sameOn_per (lst_pat hv)).symm) (by have := hgp.a1; omega) (by have := hgp.c1; omega) (by omega) (by omega) (by omega) (by omega) w hF)
    have HGP := Lib.hid hgp
    clear hv hfar hgp HE x0 x1 y0 y1
    obtain ⟨q0, q1, q2, q3, q4⟩ := H1.out.1.cells
    go_wp2_with fail
    refine (of_any p HGP.out.ok A cap w1 (HI.out.below H1.out.2)).mono ?_
    rintro e w2 ⟨fv, rfl, hF, hb2⟩
    have H2 := Lib.hid (show Below w.heap.size w w2 ∧ FunV w2 fv (colF p) 50000000 from ⟨H1.out.2.trans (hb2.mono H1.out.2.size), hF⟩)
    clear hF hb2 q0 q1 q2 q3 q4 H1
    go_wp2_with fail
    refine (HR.out fv w2 H2.out.2).mono ?_
    rintro e w3 ⟨rfl, hb3⟩
    have H3 := Lib.hid (H2.out.1.trans (hb3.mono H2.out.1.size))
    clear hb3 H2 HR
    go_wp2
    go_ret2
    exact ⟨rfl, H3.out⟩
  · have d1 : (E == 0) = false := by rw [beq_eq_false_iff_ne]; exact hz
    have d2 : (E != 0) = true := by rw [bne_iff_ne]; exact hz
    have HT2 := Lib.hid (HT0.out hz)
    clear hz HE
    go_wp2
    go_ret2
    exact ⟨by rw [HT2.out] <;> rfl, H1.out.2⟩
end Go.Proofs.YtgmokojdlbdjeaaGreatDoor
