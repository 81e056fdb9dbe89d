/-
  Add (the program's).
-/
import Derived.Test.YtdgmpaijpjkeoaaOwnH
import Derived.Test.YtdgmpaijpjkeoaaRegT
import Derived.Test.YtdgmpaijpjkeoaaLotF
namespace Go.Proofs.Ytdgmpaijpjkeoaa
open Go.RowKit
attribute [local go_sem] grow_cell grow_frozen
def addR (l : List LotD) (x : LotD) : List LotD × Int := if valE l ≠ 0 then ([], valE l) else if valE (l ++ [x]) ≠ 0 then ([], valE (l ++ [x])) else (l ++ [x], 0)
/-- A list of lots in new memory, and a code. -/
def OutL (w : World) (a : List LotD) (z : Int) (e : Ending) (w' : World) : Prop := ∃ v, e = .returned (.tuple #[v, .int .i64 z]) ∧ OwnL w' w.heap.size v a ∧ Below w.heap.size w w'
theorem OutL.no {w w' : World} {a : List LotD} {z y : Int} (h : (([] : List LotD), y) = (a, z)) (hb : Below w.heap.size w w') : OutL w a z (.returned (.tuple #[.slice none 0 0, .int .i64 y])) w' := by
  obtain ⟨rfl, rfl⟩ := Prod.mk.inj h
  exact ⟨_, rfl, OwnL.nil _ _, hb⟩
theorem lotsIn_one (w : World) (x : LotD) (A : Option Addr) (c : Nat) (hx : I64 x.kind ∧ I64 x.mass) (hc : x.parts.length ≤ c) (hP : PartsIn w A x.parts) : LotsIn (w.alloc (.cells (lotC x.kind x.mass (.slice A x.parts.length c)) 37)) (some ⟨w.heap.size, 0, none⟩) [x] := by
  intro _
  refine ⟨w.heap.size, 0, rfl, fun i hi => ?_⟩
  obtain rfl : i = 0 := by simpa using hi
  have hr := fun j => cell_of_row (w.alloc (.cells (lotC x.kind x.mass (.slice A x.parts.length c)) 37)) w.heap.size j _ _ (0, 0) (heap_alloc_new w _)
  refine ⟨hx.1, hx.2, by simp, (hr _).trans rfl, (hr _).trans rfl, A, c, (hr _).trans rfl, hc, hP.below ((Below.refl _ _).alloc (Nat.le_refl _) _)⟩
attribute [local irreducible] plainUpon stepC
set_option maxRecDepth 100000 in
set_option maxHeartbeats 1000000 in
theorem add_any (l : List LotD) (hl : l.length ≤ 900) (hps : ∀ x ∈ l, x.parts.length ≤ 1000) (kd ms : Int) (ps : List (Int × Int)) (hi : I64 kd ∧ I64 ms) (hpl : ps.length ≤ 1000) (a : List LotD) (z : Int) (hm : addR l ⟨kd, ms, ps⟩ = (a, z)) (A : Option Addr) (c : Nat) (A' : Option Addr) (c' : Nat) (hc : ps.length ≤ c') (w : World) (hL : LotsIn w A l) (hP : PartsIn w A' ps) :
    Calls Try.prog 30 #[.slice A l.length c, .agg #[.int .i64 kd, .int .i64 ms, .slice A' ps.length c']] w (OutL w a z) := by
  have HM := Lib.hid hm
  have HL := Lib.hid hL
  have HPS := Lib.hid hps
  have HI := Lib.hid hi
  have HP := Lib.hid hP
  have HPL := Lib.hid hpl
  clear hm hL hps hi hP hpl
  go_enter Try.func30, Try.ntmps30
  go_wp2_with fail
  obtain ⟨W, hW⟩ : ∃ W, W = w.alloc (.cells (lotC kd ms (.slice A' ps.length c')) 37) := ⟨_, rfl⟩
  show Calls _ _ _ (w.alloc (.cells (lotC kd ms (.slice A' ps.length c')) 37)) _
  rw [← hW]
  have hb := Lib.hid (show Below w.heap.size w W by rw [hW]; exact (by repeat' (first | (with_reducible exact Below.refl _ _) | (with_reducible assumption) | (with_reducible refine below_drewN ?_ _) | (with_reducible refine below_step (by assumption) ?_ ?_) | (with_reducible refine Below.alloc ?_ ?_ _) | (with_reducible refine Below.setCell ?_ ?_ _) | (with_reducible refine Below.drew ?_) | go_size | (exact Below.size (by assumption)) | (refine Nat.le_trans (Below.size (by assumption)) ?_))))
  have b0 := Lib.hid (show W.heap[w.heap.size]? = some (.cells (lotC kd ms (.slice A' ps.length c')) 37 (0, 0)) by rw [hW]; exact heap_alloc_new w _)
  have z0 := Lib.hid (show w.heap.size < W.heap.size by rw [hW]; simp)
  clear hW
  refine (validate_any l (by omega) HPS.out A c W (HL.out.below hb.out)).mono ?_
  obtain ⟨E, hE⟩ : ∃ E, E = valE l := ⟨_, rfl⟩
  rw [← hE]
  have HE := Lib.hid hE
  clear hE
  rintro e w1 ⟨rfl, hb1⟩
  have c0 : w1.cell? ⟨w.heap.size, 0, none⟩ = some (.int .i64 kd) := (hb1.cell (p := ⟨w.heap.size, 0, none⟩) z0.out).trans ((cell_of_row W _ 0 _ _ (0, 0) b0.out).trans rfl)
  have c1 : w1.cell? ⟨w.heap.size, 1, none⟩ = some (.int .i64 ms) := (hb1.cell (p := ⟨w.heap.size, 1, none⟩) z0.out).trans ((cell_of_row W _ 1 _ _ (0, 0) b0.out).trans rfl)
  have c2 : w1.cell? ⟨w.heap.size, 2, none⟩ = some (.slice A' ps.length c') := (hb1.cell (p := ⟨w.heap.size, 2, none⟩) z0.out).trans ((cell_of_row W _ 2 _ _ (0, 0) b0.out).trans rfl)
  have z1 := Nat.lt_of_lt_of_le z0.out hb1.size
  have ib := Lib.hid (hb.out.trans (hb1.mono hb.out.size))
  clear hb hb1 b0 z0
  by_cases hz : E = 0
  · subst hz
    have hm2 := HM.out
    unfold addR at hm2
    rw [if_neg (by rw [← HE.out]; decide)] at hm2
    have HM2 := Lib.hid hm2
    clear hm2 HM HE
    go_upto_region 4 with fail
    refine region_tree (C := fun w' => ∃ x, w' = grow w1 x) [0, 2] (.two 1 (.one 3 (OT.seq [4, 5, 6])) 3 (.one 1 (OT.seq [4, 5, 6]))) (by kernel_rfl) (by kernel_rfl) (grow_start w1) ?_
    simp only [pickL, List.getElem?_cons_zero, List.getElem?_cons_succ]
    repeat (go_big_quiet_step (fail))
    refine wpQuiet_nil ?_
    rintro w2 ⟨xg, hxg⟩
    have hb2 := below_grow w1 xg
    rw [← hxg] at hb2
    simp only [treeS, OT.seq, atOp, List.getElem?_cons_zero, List.getElem?_cons_succ]
    refine ⟨⟨xg, hxg⟩, ?_, ?_⟩
    · refine s_call 72 #[.slice A l.length c] rfl (by go_simp) ?_
      refine (copied_any l (by omega) HPS.out A c w2 ((HL.out.below ib.out).below hb2)).mono ?_
      rintro e w3 ⟨v1, rfl, o1, hb3⟩
      have hb3' := hb2.trans (hb3.mono hb2.size)
      refine ⟨_, rfl, ?_⟩
      refine ⟨grow_of_below hb3', ?_⟩
      refine s_val (.slice (some ⟨w3.heap.size, 0, none⟩) 1 1) (w3.alloc (.cells (lotC kd ms (.slice A' ps.length c')) 37)) rfl (by go_simp; rfl) ?_
      have hx4 := lotsIn_one w3 ⟨kd, ms, ps⟩ A' c' HI.out hc ((HP.out.below ib.out).below hb3')
      have hal := (Below.refl w3.heap.size w3).alloc (Nat.le_refl _) (.cells (lotC kd ms (.slice A' ps.length c')) 37)
      have hb4 := hb3'.trans (hal.mono hb3'.size)
      replace o1 := o1.below hal
      have hB0 := hb2.size
      have hB4 : w2.heap.size ≤ (w3.alloc (.cells (lotC kd ms (.slice A' ps.length c')) 37)).heap.size := Nat.le_trans hb3.size hal.size
      simp only at hx4
      obtain ⟨gx, hgx⟩ : ∃ gx, gx = w3.heap.size := ⟨_, rfl⟩
      obtain ⟨w4, hw4⟩ : ∃ w4, w4 = w3.alloc (.cells (lotC kd ms (.slice A' ps.length c')) 37) := ⟨_, rfl⟩
      rw [← hw4] at hx4 hb4 o1 hB4 ⊢
      rw [← hgx] at hx4 ⊢
      clear hgx hw4 hal hb3 hb3' hxg
      refine ⟨grow_of_below hb4, ?_⟩
      refine s_call 72 #[.slice (some ⟨gx, 0, none⟩) 1 1] rfl (by go_simp) ?_
      refine (copied_any [⟨kd, ms, ps⟩] (by simp) (by intro y hy; simp at hy; subst hy; exact HPL.out) (some ⟨gx, 0, none⟩) 1 w4 hx4).mono ?_
      rintro e w5 ⟨v2, rfl, o2, hb5⟩
      have hb5' := hb4.trans (hb5.mono hb4.size)
      refine ⟨_, rfl, ?_⟩
      obtain ⟨v, w6, r1, r2, r3⟩ := (o1.below hb5).join o2 hB4 (fun g hg => (o1.lt g hg).2) (by simp; omega) (Nat.le_trans hB4 hb5.size) 22
      have hb6 := hb5'.grown r3 hb5'.size (fun g hg => Nat.le_trans hB0 ((o1.below hb5).lt g hg).1)
      refine ⟨grow_of_below hb5', ?_⟩
      refine s_val v w6 rfl (exec_append (.tmp 15) (.tmp 18) 22 rfl v1 v2 v w6 rfl rfl r1) ?_
      refine ⟨grow_of_below hb6, ?_⟩
      refine s_assign (.tmp 19) rfl rfl v rfl ?_
      refine ⟨grow_of_below hb6, ?_⟩
      have H6 := Lib.hid (And.intro (r2.down (Nat.le_trans ib.out.size hB0)) (ib.out.trans (hb6.mono ib.out.size)))
      clear r1 r2 r3 o1 o2 hb5 hb5' hb6 hb4 hx4 hB4 hB0
      obtain ⟨A2, c2, hv2, -, hL2⟩ := H6.out.1.lots
      have hval := validate_any (l ++ [⟨kd, ms, ps⟩]) (by simp; omega) (by intro y hy; rcases List.mem_append.1 hy with h | h; exact HPS.out y h; simp at h; subst h; exact HPL.out) A2 c2 w6 hL2
      rw [← hv2] at hval
      obtain ⟨E2, hE2⟩ : ∃ E2, E2 = valE (l ++ [⟨kd, ms, ps⟩]) := ⟨_, rfl⟩
      rw [← hE2] at hval
      have HE2 := Lib.hid hE2
      have HVAL := Lib.hid hval
      clear hE2 hval hv2 hL2
      go_simp
      go_wp2_with fail
      refine HVAL.out.mono ?_
      rintro e w7 ⟨rfl, hb7⟩
      have H7 := Lib.hid (And.intro (H6.out.1.below hb7) (H6.out.2.trans (hb7.mono H6.out.2.size)))
      clear hb7 H6 HVAL
      by_cases hz2 : E2 = 0
      · subst hz2
        have hm3 := HM2.out
        rw [if_neg (by rw [← HE2.out]; decide)] at hm3
        have HM3 := Lib.hid hm3
        clear hm3 HM2 HE2
        go_wp2
        go_ret2
        obtain ⟨rfl, rfl⟩ := Prod.mk.inj HM3.out
        exact ⟨v, rfl, H7.out⟩
      · have hm3 := HM2.out
        rw [if_pos (by rw [← HE2.out]; exact hz2), ← HE2.out] at hm3
        have HM3 := Lib.hid hm3
        have d1 : (E2 == 0) = false := by rw [beq_eq_false_iff_ne]; exact hz2
        have d2 : (E2 != 0) = true := by rw [bne_iff_ne]; exact hz2
        clear hm3 HM2 HE2 hz2
        go_wp2
        go_ret2
        exact OutL.no HM3.out H7.out.2
    · refine s_val (.slice (some ⟨w2.heap.size, 0, none⟩) 1 1) (w2.alloc (.cells (lotC kd ms (.slice A' ps.length c')) 37)) rfl (by go_simp; rfl) ?_
      have hx3 := lotsIn_one w2 ⟨kd, ms, ps⟩ A' c' HI.out hc ((HP.out.below ib.out).below hb2)
      have hal := (Below.refl w2.heap.size w2).alloc (Nat.le_refl _) (.cells (lotC kd ms (.slice A' ps.length c')) 37)
      have hb3' := hb2.trans (hal.mono hb2.size)
      simp only at hx3
      obtain ⟨gx, hgx⟩ : ∃ gx, gx = w2.heap.size := ⟨_, rfl⟩
      obtain ⟨w3, hw3⟩ : ∃ w3, w3 = w2.alloc (.cells (lotC kd ms (.slice A' ps.length c')) 37) := ⟨_, rfl⟩
      rw [← hw3] at hx3 hb3' ⊢
      rw [← hgx] at hx3 ⊢
      clear hgx hw3 hal hxg
      refine ⟨grow_of_below hb3', ?_⟩
      refine s_call 72 #[.slice A l.length c] rfl (by go_simp) ?_
      refine (copied_any l (by omega) HPS.out A c w3 ((HL.out.below ib.out).below hb3')).mono ?_
      rintro e w4 ⟨v1, rfl, o1, hb3⟩
      have hb4 := hb3'.trans (hb3.mono hb3'.size)
      have hx4 := hx3.below hb3
      have hB0 := hb3'.size
      have hB4 := hb3.size
      refine ⟨_, rfl, ?_⟩
      clear hb3 hb3' hx3
      refine ⟨grow_of_below hb4, ?_⟩
      refine s_call 72 #[.slice (some ⟨gx, 0, none⟩) 1 1] rfl (by go_simp) ?_
      refine (copied_any [⟨kd, ms, ps⟩] (by simp) (by intro y hy; simp at hy; subst hy; exact HPL.out) (some ⟨gx, 0, none⟩) 1 w4 hx4).mono ?_
      rintro e w5 ⟨v2, rfl, o2, hb5⟩
      have hb5' := hb4.trans (hb5.mono hb4.size)
      refine ⟨_, rfl, ?_⟩
      obtain ⟨v, w6, r1, r2, r3⟩ := (o1.below hb5).join o2 hB4 (fun g hg => (o1.lt g hg).2) (by simp; omega) (Nat.le_trans hB4 hb5.size) 22
      have hb6 := hb5'.grown r3 hb5'.size (fun g hg => Nat.le_trans hB0 ((o1.below hb5).lt g hg).1)
      refine ⟨grow_of_below hb5', ?_⟩
      refine s_val v w6 rfl (exec_append (.tmp 15) (.tmp 18) 22 rfl v1 v2 v w6 rfl rfl r1) ?_
      refine ⟨grow_of_below hb6, ?_⟩
      refine s_assign (.tmp 19) rfl rfl v rfl ?_
      refine ⟨grow_of_below hb6, ?_⟩
      have H6 := Lib.hid (And.intro (r2.down (Nat.le_trans ib.out.size hB0)) (ib.out.trans (hb6.mono ib.out.size)))
      clear r1 r2 r3 o1 o2 hb5 hb5' hb6 hb4 hx4 hB4 hB0
      obtain ⟨A2, c2, hv2, -, hL2⟩ := H6.out.1.lots
      have hval := validate_any (l ++ [⟨kd, ms, ps⟩]) (by simp; omega) (by intro y hy; rcases List.mem_append.1 hy with h | h; exact HPS.out y h; simp at h; subst h; exact HPL.out) A2 c2 w6 hL2
      rw [← hv2] at hval
      obtain ⟨E2, hE2⟩ : ∃ E2, E2 = valE (l ++ [⟨kd, ms, ps⟩]) := ⟨_, rfl⟩
      rw [← hE2] at hval
      have HE2 := Lib.hid hE2
      have HVAL := Lib.hid hval
      clear hE2 hval hv2 hL2
      go_simp
      go_wp2_with fail
      refine HVAL.out.mono ?_
      rintro e w7 ⟨rfl, hb7⟩
      have H7 := Lib.hid (And.intro (H6.out.1.below hb7) (H6.out.2.trans (hb7.mono H6.out.2.size)))
      clear hb7 H6 HVAL
      by_cases hz2 : E2 = 0
      · subst hz2
        have hm3 := HM2.out
        rw [if_neg (by rw [← HE2.out]; decide)] at hm3
        have HM3 := Lib.hid hm3
        clear hm3 HM2 HE2
        go_wp2
        go_ret2
        obtain ⟨rfl, rfl⟩ := Prod.mk.inj HM3.out
        exact ⟨v, rfl, H7.out⟩
      · have hm3 := HM2.out
        rw [if_pos (by rw [← HE2.out]; exact hz2), ← HE2.out] at hm3
        have HM3 := Lib.hid hm3
        have d1 : (E2 == 0) = false := by rw [beq_eq_false_iff_ne]; exact hz2
        have d2 : (E2 != 0) = true := by rw [bne_iff_ne]; exact hz2
        clear hm3 HM2 HE2 hz2
        go_wp2
        go_ret2
        exact OutL.no HM3.out H7.out.2
  · have hm2 := HM.out
    unfold addR at hm2
    rw [if_pos (by rw [← HE.out]; exact hz), ← HE.out] at hm2
    have HM2 := Lib.hid hm2
    have d1 : (E == 0) = false := by rw [beq_eq_false_iff_ne]; exact hz
    have d2 : (E != 0) = true := by rw [bne_iff_ne]; exact hz
    clear hm2 hz
    go_wp2
    go_ret2
    exact OutL.no HM2.out ib.out
end Go.Proofs.Ytdgmpaijpjkeoaa
