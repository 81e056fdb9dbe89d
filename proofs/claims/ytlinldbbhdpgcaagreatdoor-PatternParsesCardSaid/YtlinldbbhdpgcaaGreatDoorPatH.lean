/-
  THE PROGRAM: At, Home, IsPeriod.
-/
import Derived.Test.YtlinldbbhdpgcaaGreatDoorPatU
import Derived.Test.YtlinldbbhdpgcaaGreatDoorAliM
namespace Go.Proofs.YtlinldbbhdpgcaaGreatDoor
open Go.RowKit
def atT (p : PatD) (x y : Int) : Int := if chkP p [x, y] ≠ 0 then 0 else colF p x y
theorem al1 (w : World) (o : Obj) : (w.alloc o).heap.size = w.heap.size + 1 ∧ (w.alloc o).heap[w.heap.size]? = some o ∧ Below w.heap.size w (w.alloc o) := ⟨by simp, heap_alloc_new w o, (by repeat' (first | (with_reducible exact Below.refl _ _) | (with_reducible assumption) | (with_reducible refine below_drewN ?_ _) | (with_reducible refine below_step (by assumption) ?_ ?_) | (with_reducible refine Below.alloc ?_ ?_ _) | (with_reducible refine Below.setCell ?_ ?_ _) | (with_reducible refine Below.drew ?_) | go_size | (exact Below.size (by assumption)) | (refine Nat.le_trans (Below.size (by assumption)) ?_)))⟩
set_option maxRecDepth 100000 in
set_option maxHeartbeats 1000000 in
theorem pat_any (p : PatD) (hl : p.xs.length ≤ 1000000) (x y : Int) (A : Option Addr) (cap : Nat) (w : World) (hi : PatIn w p A) :
    Calls Tryz.prog 14 #[.agg #[.int .i64 p.a, .int .i64 p.b, .int .i64 p.c, .slice A p.xs.length cap], .int .i64 x, .int .i64 y] w fun e w' => e = .returned (.tuple #[.int .i64 (atT p x y), .int .i64 (chkP p [x, y])]) ∧ Below w.heap.size w w' := by
  obtain ⟨T, hT⟩ : ∃ T, T = atT p x y := ⟨_, rfl⟩
  obtain ⟨Z, hZ⟩ : ∃ Z, Z = chkP p [x, y] := ⟨_, rfl⟩
  obtain ⟨E, hE⟩ : ∃ E, E = valP p := ⟨_, rfl⟩
  rw [← hT, ← hZ]
  unfold atT at hT
  rw [← hZ] at hT
  have HZ := Lib.hid hZ
  unfold chkP at hZ
  rw [← hE] at hZ
  have hn := fun B n c2 w hx => near_any B n c2 [x, y] (by simp) w hx
  have hfar : ([x, y] : List Int).any farC = false → (-100000 ≤ x ∧ x ≤ 100000) ∧ (-100000 ≤ y ∧ y ≤ 100000) := fun h => by
    simp only [List.any_cons, List.any_nil, Bool.or_false, Bool.or_eq_false_iff] at h
    exact ⟨farC_bd h.1, farC_bd h.2⟩
  obtain ⟨f, hf⟩ : ∃ f, f = ([x, y] : List Int).any farC := ⟨_, rfl⟩
  rw [← hf] at hn hZ hfar
  have HV := Lib.hid (fun w hi => validateP_any p hl E hE.symm A cap w hi)
  have HN := Lib.hid hn
  have HFA := Lib.hid hfar
  have HT := Lib.hid hT
  have HZU := Lib.hid hZ
  have HE := Lib.hid hE
  have HI := Lib.hid hi
  clear hi hT hZ hE hn hf hfar
  go_enter Tryz.func14, Tryz.ntmps14
  go_wp2_with fail
  obtain ⟨a0, a1, a2⟩ := al1 w (.cells #[.int .i64 p.a, .int .i64 p.b, .int .i64 p.c, .slice A p.xs.length cap] 24)
  obtain ⟨V, hV⟩ : ∃ V, V = w.alloc (.cells #[.int .i64 p.a, .int .i64 p.b, .int .i64 p.c, .slice A p.xs.length cap] 24) := ⟨_, rfl⟩
  rw [← hV] at a0 a1 a2 ⊢
  refine (HV.out V (HI.out.below a2)).mono ?_
  rintro e w1 ⟨rfl, hb1⟩
  have H1 := Lib.hid (show PBox w1 w.heap.size p.a p.b p.c (.slice A p.xs.length cap) ∧ Below w.heap.size w w1 from ⟨PBox.keep (w := V) a1 hb1, a2.trans (hb1.mono a2.size)⟩)
  clear hV a0 a1 a2 HV hb1 V
  by_cases hz : E = 0
  · subst hz
    have hZ := HZU.out
    rw [if_neg (by simp)] at hZ
    go_wp2_with fail
    obtain ⟨a0, a1, a2⟩ := al1 w1 (.cells #[.int .i64 x, .int .i64 y] 3)
    obtain ⟨V, hV⟩ : ∃ V, V = w1.alloc (.cells #[.int .i64 x, .int .i64 y] 3) := ⟨_, rfl⟩
    rw [← hV] at a0 a1 a2 ⊢
    have hrow : Row V w1.heap.size (#[Value.int .i64 x, Value.int .i64 y].toList) := ⟨_, _, a1, by simp, by simp⟩
    have hck := HN.out (some ⟨w1.heap.size, 0, none⟩) 2 2 V (RowI.isL (zs := [x, y]) hrow)
    refine hck.mono ?_
    rintro e w2 ⟨rfl, hb2⟩
    have H2 := Lib.hid (show PBox w2 w.heap.size p.a p.b p.c (.slice A p.xs.length cap) ∧ Below w.heap.size w w2 from ⟨(H1.out.1.keep a2).keep hb2, (H1.out.2.trans (a2.mono H1.out.2.size)).trans (hb2.mono (Nat.le_trans H1.out.2.size a2.size))⟩)
    clear hV a0 a1 a2 hrow hck hb2 V H1 HN
    cases f with
    | true =>
      have HT2 := Lib.hid (show T = 0 ∧ Z = 1 by
        have hz1 : Z = 1 := by rw [hZ, if_pos rfl]
        exact ⟨by rw [HT.out, if_pos (by omega)], hz1⟩)
      clear hZ HT HZU HZ HE
      go_wp2
      go_ret2
      exact ⟨by rw [HT2.out.1, HT2.out.2] <;> rfl, H2.out.2⟩
    | false =>
      have hz0 : Z = 0 := by rw [hZ, if_neg (by simp)]
      have HT2 := Lib.hid (show T = colF p x y ∧ Z = 0 from ⟨by rw [HT.out, if_neg (by omega)], hz0⟩)
      obtain ⟨⟨x0, x1⟩, y0, y1⟩ := HFA.out rfl
      have hg := valP_zero HE.out.symm
      have HC := Lib.hid (pcolor_any p hg.ok A p.xs.length cap x y (by omega) (by omega) (by omega) (by omega) w2 (HI.out.below H2.out.2))
      obtain ⟨q0, q1, q2, q3, q4⟩ := H2.out.1.cells
      clear hZ HT HZU HZ HE hz0 hg x0 x1 y0 y1
      go_wp2_with fail
      refine HC.out.mono ?_
      rintro e w3 ⟨rfl, hb3⟩
      have HB := Lib.hid (H2.out.2.trans (hb3.mono H2.out.2.size))
      clear hb3 q0 q1 q2 q3 q4 HC H2
      go_wp2
      go_ret2
      exact ⟨by rw [HT2.out.1, HT2.out.2] <;> rfl, HB.out⟩
  · have d1 : (E == 0) = false := by rw [beq_eq_false_iff_ne]; exact hz
    have d2 : (E != 0) = true := by rw [bne_iff_ne]; exact hz
    have HT2 := Lib.hid (show T = 0 ∧ Z = E by
      have hz1 : Z = E := by rw [HZU.out, if_pos hz]
      exact ⟨by rw [HT.out, if_pos (by omega)], hz1⟩)
    clear hz HT HE HZU HZ
    go_wp2
    go_ret2
    exact ⟨by rw [HT2.out.1, HT2.out.2] <;> rfl, H1.out.2⟩
/-- The least pattern of a valid pattern's plane. -/
theorem pleast_lst (p : PatD) (hv : valP p = 0) (fv : Value) (w : World) (hF : FunV w fv (colF p) 50000000) :
    Calls Tryz.prog 68 #[.agg #[.int .i64 p.a, .int .i64 p.b, .int .i64 p.c, fv]] w (OutP w (lst (colF p)) (.bool true)) := by
  have hB := lst_pat hv
  obtain ⟨h1, h2⟩ := hB.lst
  have hg := valP_zero hv
  have h3 : (lst (colF p)).a * (lst (colF p)).c ≤ 144 := Int.le_trans hB.lst_cells hg.ac
  have := pleast_any (colF p) p.a p.b p.c _ _ _ hB h1 (by have := hg.a1; omega) (by have := hg.c1; omega) fv w hF
  rw [if_pos h3, decide_eq_true h3, ← h2] at this
  exact this
/-- Home. -/
noncomputable def homT (p : PatD) (x y : Int) : Int × Int := if chkP p [x, y] ≠ 0 then (0, 0) else (homeX (lst (colF p)).a (lst (colF p)).b (lst (colF p)).c x y, y % (lst (colF p)).c)
theorem lst_good {p : PatD} (hv : valP p = 0) : GoodP (lst (colF p)) := (lst_pat hv).good (Int.le_trans (lst_pat hv).lst_cells (valP_zero hv).ac) (valP_zero hv).cols
/-- Whether a vector is a period. -/
noncomputable def perT (p : PatD) (dx dy : Int) : Bool := by
  classical
  exact if chkP p [dx, dy] ≠ 0 then false else decide (Per (colF p) dx dy)
theorem perT_bad {p : PatD} {dx dy : Int} (h : chkP p [dx, dy] ≠ 0) : perT p dx dy = false := by unfold perT; rw [if_pos h]
theorem perT_iff {p : PatD} {dx dy : Int} (h : chkP p [dx, dy] = 0) : perT p dx dy = true ↔ Per (colF p) dx dy := by
  classical
  unfold perT
  rw [if_neg (by simp [h])]
  exact decide_eq_true_iff
end Go.Proofs.YtlinldbbhdpgcaaGreatDoor
