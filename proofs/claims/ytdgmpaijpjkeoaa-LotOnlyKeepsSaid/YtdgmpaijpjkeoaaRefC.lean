/-
  THE REFERENCE: one, Share.
-/
import Derived.Test.YtdgmpaijpjkeoaaMixB
namespace Go.Proofs.Ytdgmpaijpjkeoaa
open Go.RowKit
theorem boolInfo : (Try.prog.info? 4).map (fun i => (i.zero, i.size, i.bytes)) = some (some (.bool false), 1, 1) := by kernel_rfl
def fcells (n : Nat) : Array Value := (List.replicate n (Value.bool false)).toArray
theorem fcells_made (n : Nat) : madeCells (Value.bool false).cells (n * 1) = fcells n := by
  apply Array.ext
  · simp [madeCells, fcells]
  · intro i h1 h2
    simp [madeCells, fcells, Value.cells, Nat.mod_one]
theorem make_b (n : Nat) (hn : n ≤ 1000000) (w : World) : (Instr.makeSlice 83 (.int .i64 (n : Int)) (.int .i64 (n : Int))).run Try.prog w = .ok (.slice (some ⟨w.heap.size, 0, none⟩) n n) (w.alloc (.cells (fcells n) 4)) := by
  obtain ⟨i0, hi, hz0, hz1, hz2⟩ := info_parts boolInfo
  have hr := run_make (P := Try.prog) w 83 4 i0 (.bool false) Try.underlying83 hi hz0 .i64 .i64 n n (by omega) (Int.le_refl _) (by rw [hz2]; omega) (by omega)
  rw [hz1] at hr
  simp only [Int.toNat_natCast, fcells_made] at hr
  exact hr
/-- A row of truth values. -/
def RowB (w : World) (g : Nat) (bs : List Bool) : Prop := Row w g (bs.map Value.bool)
theorem RowB.isB {w : World} {g : Nat} {bs : List Bool} (h : RowB w g bs) : IsB w (some ⟨g, 0, none⟩) bs.length bs :=
  ⟨rfl, fun _ => ⟨g, 0, rfl, Row.lt h, fun i hi => by
    rw [Nat.zero_add, Row.get h i (by simpa using hi)]
    simp [hi]⟩⟩
theorem RowB.start (w : World) (n : Nat) : RowB (w.alloc (.cells (fcells n) 4)) w.heap.size (List.replicate n false) := by
  have := Row.new w (fcells n) 4
  unfold RowB
  rw [List.map_replicate]
  exact this
theorem RowB.set {g : Nat} {w : World} {bs : List Bool} (h : RowB w g bs) (i : Nat) (x : Bool) : RowB (w.setCell ⟨g, i, none⟩ (.bool x)) g (bs.set i x) := by
  have := Row.set h i (.bool x)
  rwa [← List.map_set] at this
def oneB (n i : Nat) : List Bool := (List.replicate n false).set i true
theorem oneB_length (n i : Nat) : (oneB n i).length = n := by simp [oneB]
theorem oneB_at {n i : Nat} (hi : i < n) (j : Nat) : (oneB n i).getD j false = decide (j = i) := by
  unfold oneB
  rw [List.getD_eq_getElem?_getD, List.getElem?_set]
  by_cases h : i = j
  · subst h; rw [if_pos rfl, List.length_replicate, if_pos hi]; simp
  · rw [if_neg h, List.getElem?_replicate]
    have : decide (j = i) = false := decide_eq_false (fun e => h e.symm)
    rw [this]
    split <;> rfl
set_option maxRecDepth 100000 in
theorem one_any (l : List LotD) (hl : l.length ≤ 1000) (i : Nat) (hi : i < l.length) (A : Option Addr) (c : Nat) (w : World) :
    Calls Try.prog 63 #[.slice A l.length c, .int .i64 i] w fun e w' => e = .returned (.slice (some ⟨w.heap.size, 0, none⟩) l.length l.length) ∧ RowB w' w.heap.size (oneB l.length i) ∧ Below w.heap.size w w' := by
  have hmk := fun w => make_b l.length (by omega) w
  go_enter Try.func63, Try.ntmps63
  go_upto_region 2 with fail
  obtain ⟨W, hW⟩ : ∃ W, W = w.alloc (.cells (fcells l.length) 4) := ⟨_, rfl⟩
  rw [← hW]
  have H0 := Lib.hid (show RowB W w.heap.size (List.replicate l.length false) ∧ Below w.heap.size w W by rw [hW]; exact ⟨RowB.start _ _, (by repeat' (first | (with_reducible exact Below.refl _ _) | (with_reducible assumption) | (with_reducible refine below_drewN ?_ _) | (with_reducible refine below_step (by assumption) ?_ ?_) | (with_reducible refine Below.alloc ?_ ?_ _) | (with_reducible refine Below.setCell ?_ ?_ _) | (with_reducible refine Below.drew ?_) | go_size | (exact Below.size (by assumption)) | (refine Nat.le_trans (Below.size (by assumption)) ?_)))⟩)
  clear hW hmk
  have q0 := Row.get H0.out.1 i (by simpa using hi)
  have q1 : W.frozen? ⟨w.heap.size, i, none⟩ = false := Row.free H0.out.1 i
  have q2 := Row.lt H0.out.1
  obtain ⟨z, hz⟩ : ∃ z, W.cell? ⟨w.heap.size, i, none⟩ = some z := ⟨_, q0⟩
  clear q0
  go_wp2
  go_ret
  exact ⟨rfl, H0.out.1.set i true, H0.out.2.setCell (by simp) _⟩
set_option maxRecDepth 100000 in
set_option maxHeartbeats 1000000 in
theorem rshare_any (l : List LotD) (hl : l.length ≤ 1000) (hps : ∀ x ∈ l, x.parts.length ≤ 1000) (of i p q z : Int) (hm : shE l of i = (p, q, z)) (hof : -9223372036854775808 ≤ of) (kof : of ≤ 9223372036854775807) (hi : -9223372036854775808 ≤ i) (ki : i ≤ 9223372036854775807) (A : Option Addr) (c : Nat) (w : World) (hL : LotsIn w A l) :
    Calls Try.prog 18 #[.slice A l.length c, .int .i64 of, .int .i64 i] w fun e w' => e = .returned (.tuple #[.agg #[.int .i64 p, .int .i64 q], .int .i64 z]) ∧ Below w.heap.size w w' := by
  have HM := Lib.hid hm
  have HL := Lib.hid hL
  have HPS := Lib.hid hps
  clear hm hL hps
  go_enter Try.func18, Try.ntmps18
  go_wp2_with fail
  obtain ⟨W, hW⟩ : ∃ W, W = w.alloc (.cells #[.int .i64 0, .int .i64 0] 28) := ⟨_, rfl⟩
  rw [← hW]
  have hb := Lib.hid (show Below w.heap.size w W by rw [hW]; exact (by repeat' (first | (with_reducible exact Below.refl _ _) | (with_reducible assumption) | (with_reducible refine below_drewN ?_ _) | (with_reducible refine below_step (by assumption) ?_ ?_) | (with_reducible refine Below.alloc ?_ ?_ _) | (with_reducible refine Below.setCell ?_ ?_ _) | (with_reducible refine Below.drew ?_) | go_size | (exact Below.size (by assumption)) | (refine Nat.le_trans (Below.size (by assumption)) ?_))))
  have hx : Box2 W w.heap.size (.int .i64 0) (.int .i64 0) := by rw [hW]; exact Box2.new _ _ _ _
  clear hW
  obtain ⟨E, hE⟩ : ∃ E, E = chkE l [of, i] := ⟨_, rfl⟩
  have HE := Lib.hid hE
  clear hE
  refine (named_any l hl HPS.out of i A c W (HL.out.below hb.out)).mono ?_
  rw [← HE.out]
  rintro e w1 ⟨rfl, hb1⟩
  have ib := Lib.hid (hb.out.trans (hb1.mono hb.out.size))
  have ix := hx.keep hb1
  clear hb1 hx hb
  by_cases hz : E = 0
  · subst hz
    have hm2 := HM.out
    unfold shE at hm2
    rw [if_neg (by rw [← HE.out]; decide)] at hm2
    obtain ⟨hgl, hin⟩ := chk_zero HE.out.symm
    have h1 := hin of (by simp)
    have h2 := hin i (by simp)
    obtain ⟨of, rfl⟩ : ∃ n : Nat, of = n := ⟨of.toNat, by omega⟩
    obtain ⟨i, rfl⟩ : ∃ n : Nat, i = n := ⟨i.toNat, by omega⟩
    rw [Int.toNat_natCast, Int.toNat_natCast] at hm2
    have HM2 := Lib.hid hm2
    have HG := Lib.hid hgl.lot
    have hl24 := hgl.len
    have hi : i < l.length := by omega
    have hof : of < l.length := by omega
    clear hm2 hgl hin h1 h2
    go_wp2_with fail
    refine (one_any l hl of hof A c w1).mono ?_
    rintro e w2 ⟨rfl, hrow, hb2⟩
    have hisb := hrow.isB
    rw [oneB_length] at hisb
    have HB := Lib.hid hisb
    have jb := Lib.hid (ib.out.trans (hb2.mono ib.out.size))
    have jx := ix.keep hb2
    clear hrow hb2 ix ib hisb
    have hf : ∀ j, j ≤ i → fN l of j * Pr (tN l) (j + 1) (i + 1) = stepR (t := tN l) (ps := psN l) (fun j => (oneB l.length of).getD j false) (Pr (tN l) 0 (i + 1)) j (fun j => fN l of j * Pr (tN l) (j + 1) (i + 1)) := fun j hj => by
      rw [show (fun j => (oneB l.length of).getD j false) = (fun j => decide (j = of)) from funext (oneB_at hof)]
      exact (stepR_one (psN_lt HG.out) (tN_pos HG.out) hj).symm
    have hfb : ∀ j, j ≤ i → fN l of j * Pr (tN l) (j + 1) (i + 1) ≤ Pr (tN l) 0 (i + 1) := fun j hj => by
      rw [← Pr_mul (t := tN l) (a := 0) (b := j + 1) (c := i + 1) (by omega) (by omega)]
      exact Nat.mul_le_mul_right _ (fN_le HG.out of j)
    have hmix := mixture_any l hl24 HG.out A c (some ⟨w1.heap.size, 0, none⟩) l.length l.length (oneB l.length of) i hi hi hl (fun j => fN l of j * Pr (tN l) (j + 1) (i + 1)) hf hfb w2 (HL.out.below jb.out) HB.out
    simp only [Pr_self, Nat.mul_one] at hmix
    have HMX := Lib.hid hmix
    clear hf hfb hmix
    go_wp2_with fail
    refine HMX.out.mono ?_
    rintro e w3 ⟨A3, n3, c3, B3, n4, c4, rfl, hw1, hw2, hb3⟩
    have H3 := Lib.hid (show IsW w3 A3 n3 (fN l of i) ∧ IsW w3 B3 n4 (Pr (tN l) 0 (i + 1)) ∧ Below w.heap.size w w3 from ⟨hw1, hw2, jb.out.trans (hb3.mono jb.out.size)⟩)
    have kx := jx.keep hb3
    clear hw1 hw2 hb3 jx jb HMX HB
    go_wp2_with fail
    refine (rfraction_any A3 n3 c3 _ B3 n4 c4 _ p q z HM2.out (fN_le HG.out of i) (by have := pr_top HG.out hl24 (a := 0) (b := i + 1) (by omega); omega) _ H3.out.1 H3.out.2.1).mono ?_
    rintro e w4 ⟨rfl, hb4⟩
    have lb := Lib.hid (H3.out.2.2.trans (hb4.mono H3.out.2.2.size))
    obtain ⟨x0, x1, x2, x3, x4⟩ := kx.keep hb4
    clear hb4 kx H3
    by_cases hzz : z = 0
    · subst hzz
      go_wp2
      refine bodyPost_ret (v := .tuple #[.agg #[.int .i64 (p), .int .i64 (q)], .int .i64 (0)]) (by simp only [results, Try.results18]; go_simp) rfl ⟨?_, ?_⟩
      · rfl
      · have lb' := lb.out
        exact (by repeat' (first | (with_reducible exact Below.refl _ _) | (with_reducible assumption) | (with_reducible refine below_drewN ?_ _) | (with_reducible refine below_step (by assumption) ?_ ?_) | (with_reducible refine Below.alloc ?_ ?_ _) | (with_reducible refine Below.setCell ?_ ?_ _) | (with_reducible refine Below.drew ?_) | go_size | (exact Below.size (by assumption)) | (refine Nat.le_trans (Below.size (by assumption)) ?_)))
    · have hpq : p = 0 ∧ q = 0 ∧ z = 4 := by
        have := HM2.out
        unfold frE at this
        split at this
        · simp only [Prod.mk.injEq] at this; omega
        · split at this
          · simp only [Prod.mk.injEq] at this; omega
          · simp only [Prod.mk.injEq] at this; omega
      obtain ⟨rfl, rfl, rfl⟩ := hpq
      go_wp2
      refine bodyPost_ret (v := .tuple #[.agg #[.int .i64 (0), .int .i64 (0)], .int .i64 (4)]) (by simp only [results, Try.results18]; go_simp) rfl ⟨?_, ?_⟩
      · rfl
      · have lb' := lb.out
        exact (by repeat' (first | (with_reducible exact Below.refl _ _) | (with_reducible assumption) | (with_reducible refine below_drewN ?_ _) | (with_reducible refine below_step (by assumption) ?_ ?_) | (with_reducible refine Below.alloc ?_ ?_ _) | (with_reducible refine Below.setCell ?_ ?_ _) | (with_reducible refine Below.drew ?_) | go_size | (exact Below.size (by assumption)) | (refine Nat.le_trans (Below.size (by assumption)) ?_)))
  · have hm2 := HM.out
    unfold shE at hm2
    rw [if_pos (by rw [← HE.out]; exact hz), ← HE.out] at hm2
    have HM2 := Lib.hid hm2
    obtain ⟨x0, x1, x2, x3, x4⟩ := ix
    have d1 : (E == 0) = false := by rw [beq_eq_false_iff_ne]; exact hz
    have d2 : (E != 0) = true := by rw [bne_iff_ne]; exact hz
    clear hm2 hz
    go_wp2
    refine bodyPost_ret (v := .tuple #[.agg #[.int .i64 (0), .int .i64 (0)], .int .i64 (E)]) (by simp only [results, Try.results18]; go_simp) rfl ⟨?_, ?_⟩
    · exact ret_rat HM2.out
    · exact (ib.out.setCell (by simp) _).setCell (by simp) _
end Go.Proofs.Ytdgmpaijpjkeoaa
