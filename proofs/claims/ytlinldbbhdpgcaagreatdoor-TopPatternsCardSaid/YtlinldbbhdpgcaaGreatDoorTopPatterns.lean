/-
  TopPatterns returns true for every two patterns and moves.
-/
import Derived.Test.YtlinldbbhdpgcaaGreatDoorTopC
import Derived.Test.YtlinldbbhdpgcaaGreatDoorTopN
import Derived.Test.YtlinldbbhdpgcaaGreatDoorFmtD
import Derived.Test.YtlinldbbhdpgcaaGreatDoorAlgB
import Derived.Test.YtlinldbbhdpgcaaGreatDoorTxtC
import Derived.Deep.DeepCutAuto
namespace Go.Proofs.YtlinldbbhdpgcaaGreatDoor
open Go.RowKit
theorem fmt_snd (p : PatD) : (fmtT p).2 = valP p := by
  unfold fmtT
  split
  · rename_i h; rw [h]
  · rfl
theorem fmt_fst {p : PatD} (h : valP p = 0) : (fmtT p).1 = ⟨(formT (lstO p)).toArray⟩ := by unfold fmtT; rw [if_pos h]
theorem chk_small {p : PatD} (h : valP p = 0) {x y : Int} (h0 : -100000 ≤ x) (h1 : x ≤ 100000) (h2 : -100000 ≤ y) (h3 : y ≤ 100000) : chkP p [x, y] = 0 := by
  unfold chkP
  rw [if_neg (by simp [h]), if_neg]
  simp only [List.any_cons, List.any_nil, Bool.or_false, Bool.or_eq_true, farC, decide_eq_true_eq]
  omega
theorem cat_list (a : List UInt8) (b : List UInt8) (c : List UInt8) : (((⟨a.toArray⟩ : ByteArray) ++ ⟨b.toArray⟩) ++ ⟨c.toArray⟩).data.toList = a ++ (b ++ c) := by simp
theorem top_turn {p : PatD} (h : valP p = 0) {S : ByteArray} (hS : S = ⟨(formT (lstO p)).toArray⟩) : prsT ((⟨#[116, 117, 114, 110, 32, 40, 32]⟩ ++ S) ++ ⟨#[32, 41]⟩) = (turnT p, 0) ∧ S.size ≤ 1000 := by
  have hz : S.size ≤ 1000 := by
    have h1 := form_size (lstO_good h)
    have h2 : S.size = (formT (lstO p)).length := by rw [hS]; exact List.size_toArray
    omega
  refine ⟨turn_text h (by simp only [ByteArray.size_append]; have e1 : (⟨#[116, 117, 114, 110, 32, 40, 32]⟩ : ByteArray).size = 7 := rfl; have e2 : (⟨#[32, 41]⟩ : ByteArray).size = 2 := rfl; omega) ?_ (lst_again h), hz⟩
  rw [hS]
  refine (cat_list [116, 117, 114, 110, 32, 40, 32] _ [32, 41]).trans ?_
  simp [parT]
theorem top_mir {p : PatD} (h : valP p = 0) {S : ByteArray} (hS : S = ⟨(formT (lstO p)).toArray⟩) (hz : S.size ≤ 1000) : prsT ((⟨#[109, 105, 114, 114, 111, 114, 32, 40, 32]⟩ ++ S) ++ ⟨#[32, 41]⟩) = (mirT p, 0) := by
  refine mir_text h (by simp only [ByteArray.size_append]; have e1 : (⟨#[109, 105, 114, 114, 111, 114, 32, 40, 32]⟩ : ByteArray).size = 9 := rfl; have e2 : (⟨#[32, 41]⟩ : ByteArray).size = 2 := rfl; omega) ?_ (lst_again h)
  rw [hS]
  refine (cat_list [109, 105, 114, 114, 111, 114, 32, 40, 32] _ [32, 41]).trans ?_
  simp [parT]
theorem top_over {p q : PatD} (h : valP p = 0) (k : valP q = 0) {S R : ByteArray} (hS : S = ⟨(formT (lstO p)).toArray⟩) (hR : R = ⟨(formT (lstO q)).toArray⟩) (hz : S.size ≤ 1000) (hy : R.size ≤ 1000) : prsT ((((⟨#[111, 118, 101, 114, 32, 40, 32]⟩ ++ S) ++ ⟨#[32, 41, 32, 40, 32]⟩) ++ R) ++ ⟨#[32, 41]⟩) = (oveT p q, oveZ p q) := by
  refine over_text h k (by simp only [ByteArray.size_append]; have e1 : (⟨#[111, 118, 101, 114, 32, 40, 32]⟩ : ByteArray).size = 7 := rfl; have e2 : (⟨#[32, 41]⟩ : ByteArray).size = 2 := rfl; have e3 : (⟨#[32, 41, 32, 40, 32]⟩ : ByteArray).size = 5 := rfl; omega) ?_ (lst_again h) (lst_again k)
  rw [hS, hR]
  simp [parT]
theorem top_swell {p : PatD} (h : valP p = 0) {t : Int} (t0 : 1 ≤ t) (t1 : t ≤ 9) {S : ByteArray} (hS : S = ⟨(formT (lstO p)).toArray⟩) (hz : S.size ≤ 1000) : ∃ b : UInt8, (48 + t : Int) = (b.toNat : Int) ∧ prsT ((((⟨#[115, 119, 101, 108, 108, 32]⟩ ++ ⟨[b].toArray⟩) ++ ⟨#[32, 40, 32]⟩) ++ S) ++ ⟨#[32, 41]⟩) = (sweT p t, sweE p t) := by
  obtain ⟨b, hb, hi⟩ : ∃ b : UInt8, (48 + t : Int) = (b.toNat : Int) ∧ Lib.itoa t = [b] := by
    have : t = 1 ∨ t = 2 ∨ t = 3 ∨ t = 4 ∨ t = 5 ∨ t = 6 ∨ t = 7 ∨ t = 8 ∨ t = 9 := by omega
    rcases this with rfl | rfl | rfl | rfl | rfl | rfl | rfl | rfl | rfl
    · exact ⟨49, rfl, by kernel_rfl⟩
    · exact ⟨50, rfl, by kernel_rfl⟩
    · exact ⟨51, rfl, by kernel_rfl⟩
    · exact ⟨52, rfl, by kernel_rfl⟩
    · exact ⟨53, rfl, by kernel_rfl⟩
    · exact ⟨54, rfl, by kernel_rfl⟩
    · exact ⟨55, rfl, by kernel_rfl⟩
    · exact ⟨56, rfl, by kernel_rfl⟩
    · exact ⟨57, rfl, by kernel_rfl⟩
  refine ⟨b, hb, swell_text h t0 t1 ?_ ?_ (lst_again h)⟩
  · have e1 : (⟨#[115, 119, 101, 108, 108, 32]⟩ : ByteArray).size = 6 := rfl
    have e2 : (⟨#[32, 41]⟩ : ByteArray).size = 2 := rfl
    have e3 : (⟨#[32, 40, 32]⟩ : ByteArray).size = 3 := rfl
    have e4 : (⟨[b].toArray⟩ : ByteArray).size = 1 := rfl
    simp only [ByteArray.size_append]
    omega
  · rw [hS, hi]
    simp [parT]
theorem swe_cell {p : PatD} {t : Int} (t0 : 1 ≤ t) (x y : Int) (h : sweE p t = 0) : colF (sweT p t) (x * t) (y * t) = colF p x y := by
  rcases oSwe p t with ⟨-, -, -, -, -, e⟩ | ⟨e, -⟩
  · rw [e]
    unfold sweF
    rw [Int.mul_ediv_cancel _ (by omega), Int.mul_ediv_cancel _ (by omega)]
  · exact absurd h e
theorem swe_small {t x : Int} (t0 : 1 ≤ t) (t1 : t ≤ 9) (h0 : -1000 < x) (h1 : x < 1000) : -9000 ≤ x * t ∧ x * t ≤ 9000 := by
  have : t = 1 ∨ t = 2 ∨ t = 3 ∨ t = 4 ∨ t = 5 ∨ t = 6 ∨ t = 7 ∨ t = 8 ∨ t = 9 := by omega
  rcases this with rfl | rfl | rfl | rfl | rfl | rfl | rfl | rfl | rfl <;> omega
/-- The box of the moves. -/
def MBox (w : World) (b : Nat) (x y t u v : Int) : Prop := w.heap[b]? = some (.cells #[.int .i64 x, .int .i64 y, .int .i64 t, .int .i64 u, .int .i64 v] 26 (0, 0))
theorem MBox.keep {w w' : World} {b : Nat} {x y t u v : Int} (h : MBox w b x y t u v) (hb : Below w.heap.size w w') : MBox w' b x y t u v := (hb.block _ (Array.getElem?_eq_some_iff.1 h).1).trans h
theorem MBox.cells {w : World} {b : Nat} {x y t u v : Int} (h : MBox w b x y t u v) : w.cell? ⟨b, 0, none⟩ = some (.int .i64 x) ∧ w.cell? ⟨b, 1, none⟩ = some (.int .i64 y) ∧ w.cell? ⟨b, 2, none⟩ = some (.int .i64 t) ∧ w.cell? ⟨b, 3, none⟩ = some (.int .i64 u) ∧ w.cell? ⟨b, 4, none⟩ = some (.int .i64 v) ∧ b < w.heap.size :=
  ⟨(cell_of_row w b 0 _ _ (0, 0) h).trans rfl, (cell_of_row w b 1 _ _ (0, 0) h).trans rfl, (cell_of_row w b 2 _ _ (0, 0) h).trans rfl, (cell_of_row w b 3 _ _ (0, 0) h).trans rfl, (cell_of_row w b 4 _ _ (0, 0) h).trans rfl, (Array.getElem?_eq_some_iff.1 h).1⟩
set_option maxRecDepth 100000 in
set_option maxHeartbeats 4000000 in
theorem topPatterns_walk (p : PatD) (A : Option Addr) (k : Nat) (q : PatD) (D : Option Addr) (m : Nat) (DX DY T X Y : Int) (w : World) (hi : PatIn w p A) (hq : PatIn w q D) (hw : LibOK w) :
    Calls Tryz.prog 3 #[.agg #[.int .i64 p.a, .int .i64 p.b, .int .i64 p.c, .slice A p.xs.length k], .agg #[.int .i64 q.a, .int .i64 q.b, .int .i64 q.c, .slice D q.xs.length m], .agg #[.int .i64 DX, .int .i64 DY, .int .i64 T, .int .i64 X, .int .i64 Y]] w fun e w' => e = .returned (.bool true) ∧ Below w.heap.size w w' := by
  have HI := Lib.hid (And.intro (And.intro hi hq) hw)
  have CK := Lib.hid (fun w hw => pparse_any topK (by decide) w hw)
  have HK := Lib.hid top_known
  obtain ⟨Q, hQ⟩ : ∃ Q, Q = (prsT topK).1 := ⟨_, rfl⟩
  obtain ⟨Z, hZ⟩ : ∃ Z, Z = (prsT topK).2 := ⟨_, rfl⟩
  rw [← hQ, ← hZ] at CK HK
  have h1 := fun (hl : p.xs.length ≤ 1000000) A cap w hi hw => pfmt_any p hl A cap w hi hw
  have h2 := fun (hl : q.xs.length ≤ 1000000) A cap w hi hw => pfmt_any q hl A cap w hi hw
  obtain ⟨S, hS⟩ : ∃ F, F = (fmtT p).1 := ⟨_, rfl⟩
  obtain ⟨R, hR⟩ : ∃ F, F = (fmtT q).1 := ⟨_, rfl⟩
  obtain ⟨E1, hE1⟩ : ∃ E, E = (fmtT p).2 := ⟨_, rfl⟩
  obtain ⟨E2, hE2⟩ : ∃ E, E = (fmtT q).2 := ⟨_, rfl⟩
  rw [← hS, ← hE1] at h1
  rw [← hR, ← hE2] at h2
  have CF1 := Lib.hid h1
  have CF2 := Lib.hid h2
  have HSR := Lib.hid (And.intro (And.intro hS hE1) (And.intro hR hE2))
  clear hi hq hw hQ hZ h1 h2 hS hR hE1 hE2
  go_enter Tryz.func3, Tryz.ntmps3
  go_wp2_with fail
  have hJ0 := ((Js.start w).add (k := k) HI.out.1.1).add (k := m) (HI.out.1.2.below (below_new w _))
  have hsz0 : (w.alloc (.cells #[.int .i64 p.a, .int .i64 p.b, .int .i64 p.c, .slice A p.xs.length k] 24)).heap.size = w.heap.size + 1 := by simp
  rw [hsz0] at hJ0
  obtain ⟨V0, hV0⟩ : ∃ V, V = (w.alloc (.cells #[.int .i64 p.a, .int .i64 p.b, .int .i64 p.c, .slice A p.xs.length k] 24)).alloc (.cells #[.int .i64 q.a, .int .i64 q.b, .int .i64 q.c, .slice D q.xs.length m] 24) := ⟨_, rfl⟩
  rw [← hV0] at hJ0 ⊢
  have hs0 : V0.heap.size = w.heap.size + 2 := by rw [hV0]; simp
  have hbn := below_new V0 (.cells #[.int .i64 DX, .int .i64 DY, .int .i64 T, .int .i64 X, .int .i64 Y] 26)
  have hm0 : MBox (V0.alloc (.cells #[.int .i64 DX, .int .i64 DY, .int .i64 T, .int .i64 X, .int .i64 Y] 26)) V0.heap.size DX DY T X Y := heap_alloc_new V0 _
  obtain ⟨w0, hw0⟩ : ∃ V, V = V0.alloc (.cells #[.int .i64 DX, .int .i64 DY, .int .i64 T, .int .i64 X, .int .i64 Y] 26) := ⟨_, rfl⟩
  rw [← hw0] at hbn hm0 ⊢
  rw [hs0] at hm0
  have hJ1 := hJ0.keep hbn
  have K0 := Lib.hid hJ1
  have M0 := Lib.hid hm0
  have hca := CK.out w0 (HI.out.2.below hJ1.o)
  clear hJ0 hsz0 hV0 hs0 hbn hm0 hw0 hJ1
  refine (hca).mono ?_
  intro e w1 h1
  obtain ⟨B1, b1, rfl, -, hi1, hb1⟩ := h1.open
  have K1 := Lib.hid (K0.out.keep hb1)
  have M1 := Lib.hid (M0.out.keep hb1)
  have I1 := Lib.hid hi1
  clear h1 hb1 hi1 K0 M0
  obtain ⟨hz, ha, hx⟩ := HK.out
  subst hz
  have dQ : (Q.a != 1) = false := by rw [ha]; rfl
  have dQ2 : ((Q.xs.length : Int) != 1) = false := by rw [hx]; rfl
  clear ha hx HK hca CK
  obtain ⟨q0, q1, q2, q3, q4⟩ := (K1.out.b (w.heap.size, p, A, k) (by simp)).b.cells
  go_wp2_with fail
  have hJ1 := K1.out.add (k := b1) I1.out
  have hM1 := M1.out.keep (below_new w1 (.cells #[.int .i64 (Q).a, .int .i64 (Q).b, .int .i64 (Q).c, .slice B1 (Q).xs.length b1] 24))
  obtain ⟨V1, hV1⟩ : ∃ V, V = (w1).alloc (.cells #[.int .i64 (Q).a, .int .i64 (Q).b, .int .i64 (Q).c, .slice B1 (Q).xs.length b1] 24) := ⟨_, rfl⟩
  rw [← hV1] at hJ1 hM1 ⊢
  have J1 := Lib.hid hJ1
  have N1 := Lib.hid hM1
  clear hJ1 hV1 hM1 K1 M1 I1
  clear q0 q1 q2 q3 q4 dQ dQ2
  refine (long_any p A k V1).mono ?_
  rintro e w2 ⟨rfl, hb2⟩
  have K2 := Lib.hid (J1.out.keep hb2)
  have M2 := Lib.hid (N1.out.keep hb2)
  clear hb2 J1 N1
  by_cases h4 : 400 < p.xs.length
  · rw [decide_eq_true h4]
    clear h4
    go_wp2
    go_ret
    exact ⟨rfl, K2.out.o⟩
  rw [decide_eq_false h4]
  have HL := Lib.hid (show p.xs.length ≤ 1000000 by omega)
  clear h4
  obtain ⟨q0, q1, q2, q3, q4⟩ := (K2.out.b (w.heap.size + 1, q, D, m) (by simp)).b.cells
  go_wp2_with fail
  refine (long_any q D m w2).mono ?_
  rintro e w3 ⟨rfl, hb3⟩
  have K3 := Lib.hid (K2.out.keep hb3)
  have M3 := Lib.hid (M2.out.keep hb3)
  clear hb3 K2 M2
  clear q0 q1 q2 q3 q4
  by_cases h4 : 400 < q.xs.length
  · rw [decide_eq_true h4]
    clear h4
    go_wp2
    go_ret
    exact ⟨rfl, K3.out.o⟩
  rw [decide_eq_false h4]
  have HL2 := Lib.hid (show q.xs.length ≤ 1000000 by omega)
  clear h4
  obtain ⟨q0, q1, q2, q3, q4⟩ := (K3.out.b (w.heap.size, p, A, k) (by simp)).b.cells
  go_wp2_with fail
  refine (CF1.out HL.out A k w3 (K3.out.b (w.heap.size, p, A, k) (by simp)).i (HI.out.2.below K3.out.o)).mono ?_
  rintro e w4 ⟨rfl, hb4⟩
  have K4 := Lib.hid (K3.out.keep hb4)
  have M4 := Lib.hid (M3.out.keep hb4)
  clear hb4 K3 M3
  clear q0 q1 q2 q3 q4
  obtain ⟨q0, q1, q2, q3, q4⟩ := (K4.out.b (w.heap.size + 1, q, D, m) (by simp)).b.cells
  go_wp2_with fail
  refine (CF2.out HL2.out D m w4 (K4.out.b (w.heap.size + 1, q, D, m) (by simp)).i (HI.out.2.below K4.out.o)).mono ?_
  rintro e w5 ⟨rfl, hb5⟩
  have K5 := Lib.hid (K4.out.keep hb5)
  have M5 := Lib.hid (M4.out.keep hb5)
  clear hb5 K4 M4
  clear q0 q1 q2 q3 q4
  by_cases hz1 : E1 = 0
  · by_cases hz2 : E2 = 0
    · have hv1 : valP p = 0 := by rw [← fmt_snd, ← HSR.out.1.2]; exact hz1
      have hv2 : valP q = 0 := by rw [← fmt_snd, ← HSR.out.2.2]; exact hz2
      have HVL := Lib.hid (show valP p = 0 ∧ valP q = 0 ∧ S = ⟨(formT (lstO p)).toArray⟩ ∧ R = ⟨(formT (lstO q)).toArray⟩ from ⟨hv1, hv2, by rw [HSR.out.1.1, fmt_fst hv1], by rw [HSR.out.2.1, fmt_fst hv2]⟩)
      subst hz1 hz2
      clear hv1 hv2 HSR CF1 CF2
      obtain ⟨m0, m1, m2, m3, m4, m5⟩ := M5.out.cells
      go_upto_region 10 with fail
      go_quiet (fail)
      go_wp2
      go_quiet (fail)
      have bx1 := tmod_gt X (show (0 : Int) < 1000 by omega)
      have bx2 := Int.tmod_lt_of_pos X (show (0 : Int) < 1000 by omega)
      have by1 := tmod_gt Y (show (0 : Int) < 1000 by omega)
      have by2 := Int.tmod_lt_of_pos Y (show (0 : Int) < 1000 by omega)
      have bdx1 := tmod_gt DX (show (0 : Int) < 1000 by omega)
      have bdx2 := Int.tmod_lt_of_pos DX (show (0 : Int) < 1000 by omega)
      have bdy1 := tmod_gt DY (show (0 : Int) < 1000 by omega)
      have bdy2 := Int.tmod_lt_of_pos DY (show (0 : Int) < 1000 by omega)
      obtain ⟨x, hx⟩ : ∃ x, x = X.tmod 1000 := ⟨_, rfl⟩
      obtain ⟨y, hy⟩ : ∃ x, x = Y.tmod 1000 := ⟨_, rfl⟩
      obtain ⟨dx, hdx⟩ : ∃ x, x = DX.tmod 1000 := ⟨_, rfl⟩
      obtain ⟨dy, hdy⟩ : ∃ x, x = DY.tmod 1000 := ⟨_, rfl⟩
      rw [← hx] at bx1 bx2
      rw [← hy] at by1 by2
      rw [← hdx] at bdx1 bdx2
      rw [← hdy] at bdy1 bdy2
      rw [← hx, ← hy, ← hdx, ← hdy]
      clear hx hy hdx hdy
      generalize hw6 : World.drewN (World.drewN w5 _) _ = w6
      have hb6 : Below w5.heap.size w5 w6 := by rw [← hw6]; exact below_drewN (below_drewN (Below.refl _ _) _) _
      have K6 := Lib.hid (K5.out.keep hb6)
      have M6 := Lib.hid (M5.out.keep hb6)
      clear hw6 hb6 K5 M5 m0 m1 m2 m3 m4 m5
      have hs1 := pshift_any p HL.out dx dy A k w6 (K6.out.b (w.heap.size, p, A, k) (by simp)).i
      have hs2 := fun w hi => pturn_any p HL.out A k w hi
      have hs3 := fun w hi => pmirror_any p HL.out A k w hi
      have hs4 := fun w hi hq => pover_any p q HL.out HL2.out A k D m w hi hq
      have ht1 := oShift_len p dx dy
      have ht2 := oTurn_len p
      have ht3 := oMir_len p
      have ht4 := oOve_len p q
      have hf1 := (oShift (chk_small HVL.out.1 (x := dx) (y := dy) (by omega) (by omega) (by omega) (by omega))).2
      have hf2 := (oTurn HVL.out.1).2
      have hf3 := (oMir HVL.out.1).2
      have hf4 := oOve p q
      rw [chk_small HVL.out.1 (by omega) (by omega) (by omega) (by omega)] at hs1
      rw [HVL.out.1] at hs2 hs3
      obtain ⟨T1, hT1⟩ : ∃ T, T = shiftT p dx dy := ⟨_, rfl⟩
      obtain ⟨T2, hT2⟩ : ∃ T, T = turnT p := ⟨_, rfl⟩
      obtain ⟨T3, hT3⟩ : ∃ T, T = mirT p := ⟨_, rfl⟩
      obtain ⟨T4, hT4⟩ : ∃ T, T = oveT p q := ⟨_, rfl⟩
      obtain ⟨E4, hE4⟩ : ∃ T, T = oveZ p q := ⟨_, rfl⟩
      rw [← hT1] at hs1 ht1 hf1
      rw [← hT2] at hs2 ht2 hf2
      rw [← hT3] at hs3 ht3 hf3
      rw [← hT4] at hs4 ht4 hf4
      rw [← hE4] at hs4 hf4
      have HS2 := Lib.hid hs2
      have HS3 := Lib.hid hs3
      have HS4 := Lib.hid hs4
      have HF := Lib.hid (And.intro hf1 (And.intro hf2 (And.intro hf3 hf4)))
      have HT := Lib.hid (And.intro hT2 (And.intro hT3 (And.intro hT4 hE4)))
      clear hs2 hs3 hs4 hf1 hf2 hf3 hf4 hT1 hT2 hT3 hT4 hE4
      obtain ⟨q0, q1, q2, q3, q4⟩ := (K6.out.b (w.heap.size, p, A, k) (by simp)).b.cells
      go_wp2_with fail
      refine (hs1).mono ?_
      intro e w7 h7
      obtain ⟨B7, b7, rfl, -, hi7, hb7⟩ := h7.open
      have K7 := Lib.hid (K6.out.keep hb7)
      have M7 := Lib.hid (M6.out.keep hb7)
      have I7 := Lib.hid hi7
      clear h7 hb7 hi7 K6 M6
      clear q0 q1 q2 q3 q4 hs1
      obtain ⟨q0, q1, q2, q3, q4⟩ := (K7.out.b (w.heap.size, p, A, k) (by simp)).b.cells
      go_wp2_with fail
      have hJ7 := K7.out.add (k := b7) I7.out
      have hM7 := M7.out.keep (below_new w7 (.cells #[.int .i64 (T1).a, .int .i64 (T1).b, .int .i64 (T1).c, .slice B7 (T1).xs.length b7] 24))
      obtain ⟨V7, hV7⟩ : ∃ V, V = (w7).alloc (.cells #[.int .i64 (T1).a, .int .i64 (T1).b, .int .i64 (T1).c, .slice B7 (T1).xs.length b7] 24) := ⟨_, rfl⟩
      rw [← hV7] at hJ7 hM7 ⊢
      have J7 := Lib.hid hJ7
      have N7 := Lib.hid hM7
      clear hJ7 hV7 hM7 K7 M7 I7
      refine (HS2.out V7 (J7.out.b (w.heap.size, p, A, k) (by simp)).i).mono ?_
      intro e w8 h8
      obtain ⟨B8, b8, rfl, -, hi8, hb8⟩ := h8.open
      have K8 := Lib.hid (J7.out.keep hb8)
      have M8 := Lib.hid (N7.out.keep hb8)
      have I8 := Lib.hid hi8
      clear h8 hb8 hi8 J7 N7
      clear q0 q1 q2 q3 q4 HS2
      obtain ⟨q0, q1, q2, q3, q4⟩ := (K8.out.b (w.heap.size, p, A, k) (by simp)).b.cells
      go_wp2_with fail
      have hJ8 := K8.out.add (k := b8) I8.out
      have hM8 := M8.out.keep (below_new w8 (.cells #[.int .i64 (T2).a, .int .i64 (T2).b, .int .i64 (T2).c, .slice B8 (T2).xs.length b8] 24))
      obtain ⟨V8, hV8⟩ : ∃ V, V = (w8).alloc (.cells #[.int .i64 (T2).a, .int .i64 (T2).b, .int .i64 (T2).c, .slice B8 (T2).xs.length b8] 24) := ⟨_, rfl⟩
      rw [← hV8] at hJ8 hM8 ⊢
      have J8 := Lib.hid hJ8
      have N8 := Lib.hid hM8
      clear hJ8 hV8 hM8 K8 M8 I8
      refine (HS3.out V8 (J8.out.b (w.heap.size, p, A, k) (by simp)).i).mono ?_
      intro e w9 h9
      obtain ⟨B9, b9, rfl, -, hi9, hb9⟩ := h9.open
      have K9 := Lib.hid (J8.out.keep hb9)
      have M9 := Lib.hid (N8.out.keep hb9)
      have I9 := Lib.hid hi9
      clear h9 hb9 hi9 J8 N8
      clear q0 q1 q2 q3 q4 HS3
      obtain ⟨q0, q1, q2, q3, q4⟩ := (K9.out.b (w.heap.size, p, A, k) (by simp)).b.cells
      obtain ⟨z0, z1, z2, z3, z4⟩ := (K9.out.b (w.heap.size + 1, q, D, m) (by simp)).b.cells
      go_wp2_with fail
      have hJ9 := K9.out.add (k := b9) I9.out
      have hM9 := M9.out.keep (below_new w9 (.cells #[.int .i64 (T3).a, .int .i64 (T3).b, .int .i64 (T3).c, .slice B9 (T3).xs.length b9] 24))
      obtain ⟨V9, hV9⟩ : ∃ V, V = (w9).alloc (.cells #[.int .i64 (T3).a, .int .i64 (T3).b, .int .i64 (T3).c, .slice B9 (T3).xs.length b9] 24) := ⟨_, rfl⟩
      rw [← hV9] at hJ9 hM9 ⊢
      have J9 := Lib.hid hJ9
      have N9 := Lib.hid hM9
      clear hJ9 hV9 hM9 K9 M9 I9
      refine (HS4.out V9 (J9.out.b (w.heap.size, p, A, k) (by simp)).i (J9.out.b (w.heap.size + 1, q, D, m) (by simp)).i).mono ?_
      intro e w10 h10
      obtain ⟨B10, b10, rfl, -, hi10, hb10⟩ := h10.open
      have K10 := Lib.hid (J9.out.keep hb10)
      have M10 := Lib.hid (N9.out.keep hb10)
      have I10 := Lib.hid hi10
      clear h10 hb10 hi10 J9 N9
      clear q0 q1 q2 q3 q4 z0 z1 z2 z3 z4 HS4
      obtain ⟨q0, q1, q2, q3, q4⟩ := (K10.out.b (w.heap.size, p, A, k) (by simp)).b.cells
      obtain ⟨z0, z1, z2, z3, z4⟩ := (K10.out.b (w7.heap.size, T1, B7, b7) (by simp)).b.cells
      go_wp2_with fail
      have hJ10 := K10.out.add (k := b10) I10.out
      have hM10 := M10.out.keep (below_new w10 (.cells #[.int .i64 (T4).a, .int .i64 (T4).b, .int .i64 (T4).c, .slice B10 (T4).xs.length b10] 24))
      obtain ⟨V10, hV10⟩ : ∃ V, V = (w10).alloc (.cells #[.int .i64 (T4).a, .int .i64 (T4).b, .int .i64 (T4).c, .slice B10 (T4).xs.length b10] 24) := ⟨_, rfl⟩
      rw [← hV10] at hJ10 hM10 ⊢
      have J10 := Lib.hid hJ10
      have N10 := Lib.hid hM10
      clear hJ10 hV10 hM10 K10 M10 I10
      refine (cell_any T1 p (by omega) HL.out 0 x y (x - dx) (y - dy) (fun _ _ _ => by rw [HF.out.1]; rfl) B7 b7 A k V10 (J10.out.b (w7.heap.size, T1, B7, b7) (by simp)).i (J10.out.b (w.heap.size, p, A, k) (by simp)).i).mono ?_
      rintro e w11 ⟨rfl, hb11⟩
      have K11 := Lib.hid (J10.out.keep hb11)
      have M11 := Lib.hid (N10.out.keep hb11)
      clear hb11 J10 N10
      clear q0 q1 q2 q3 q4 z0 z1 z2 z3 z4
      obtain ⟨q0, q1, q2, q3, q4⟩ := (K11.out.b (w.heap.size, p, A, k) (by simp)).b.cells
      obtain ⟨z0, z1, z2, z3, z4⟩ := (K11.out.b (w8.heap.size, T2, B8, b8) (by simp)).b.cells
      go_wp2_with fail
      refine (cell_any T2 p (by omega) HL.out 0 x y y (-x) (fun _ _ _ => by rw [HF.out.2.1]; rfl) B8 b8 A k w11 (K11.out.b (w8.heap.size, T2, B8, b8) (by simp)).i (K11.out.b (w.heap.size, p, A, k) (by simp)).i).mono ?_
      rintro e w12 ⟨rfl, hb12⟩
      have K12 := Lib.hid (K11.out.keep hb12)
      have M12 := Lib.hid (M11.out.keep hb12)
      clear hb12 K11 M11
      clear q0 q1 q2 q3 q4 z0 z1 z2 z3 z4
      obtain ⟨q0, q1, q2, q3, q4⟩ := (K12.out.b (w.heap.size, p, A, k) (by simp)).b.cells
      obtain ⟨z0, z1, z2, z3, z4⟩ := (K12.out.b (w9.heap.size, T3, B9, b9) (by simp)).b.cells
      go_wp2_with fail
      refine (cell_any T3 p (by omega) HL.out 0 x y (-x) y (fun _ _ _ => by rw [HF.out.2.2.1]; rfl) B9 b9 A k w12 (K12.out.b (w9.heap.size, T3, B9, b9) (by simp)).i (K12.out.b (w.heap.size, p, A, k) (by simp)).i).mono ?_
      rintro e w13 ⟨rfl, hb13⟩
      have K13 := Lib.hid (K12.out.keep hb13)
      have M13 := Lib.hid (M12.out.keep hb13)
      clear hb13 K12 M12
      clear q0 q1 q2 q3 q4 z0 z1 z2 z3 z4
      obtain ⟨q0, q1, q2, q3, q4⟩ := (K13.out.b (w.heap.size, p, A, k) (by simp)).b.cells
      go_wp2_with fail
      have hat := pat_any p HL.out x y A k w13 (K13.out.b (w.heap.size, p, A, k) (by simp)).i
      have hch : chkP p [x, y] = 0 := chk_small HVL.out.1 (by omega) (by omega) (by omega) (by omega)
      have hatc : atT p x y = colF p x y := by unfold atT; rw [if_neg (by simp [hch])]
      rw [hch, hatc] at hat
      obtain ⟨c, hc⟩ : ∃ c, c = colF p x y := ⟨_, rfl⟩
      rw [← hc] at hat
      have HC := Lib.hid hc
      clear hch hatc hc
      refine (hat).mono ?_
      rintro e w14 ⟨rfl, hb14⟩
      have K14 := Lib.hid (K13.out.keep hb14)
      have M14 := Lib.hid (M13.out.keep hb14)
      clear hb14 K13 M13
      clear q0 q1 q2 q3 q4 hat
      obtain ⟨q0, q1, q2, q3, q4⟩ := (K14.out.b (w.heap.size, p, A, k) (by simp)).b.cells
      obtain ⟨z0, z1, z2, z3, z4⟩ := (K14.out.b (w.heap.size + 1, q, D, m) (by simp)).b.cells
      obtain ⟨v0, v1, v2, v3, v4⟩ := (K14.out.b (w10.heap.size, T4, B10, b10) (by simp)).b.cells
      have K14' := Lib.hid (show Js w w14 [(w10.heap.size, T4, B10, b10), (w9.heap.size, T3, B9, b9), (w8.heap.size, T2, B8, b8), (w7.heap.size, T1, B7, b7), (w1.heap.size, Q, B1, b1), (w.heap.size + 1, q, D, m), (w.heap.size, p, A, k)] from K14.out)
      clear K14
      go_upto_if 168 with fail
      go_cut [] (fun wx => Hid (Js w wx [(w10.heap.size, T4, B10, b10), (w9.heap.size, T3, B9, b9), (w8.heap.size, T2, B8, b8), (w7.heap.size, T1, B7, b7), (w1.heap.size, Q, B1, b1), (w.heap.size + 1, q, D, m), (w.heap.size, p, A, k)] ∧ MBox wx (w.heap.size + 1 + 1) DX DY T X Y))
      case first =>
        as_aux_lemma =>
          by_cases hc0 : c = 0
          · have hca := cell_any T4 q (by omega) HL2.out E4 x y x y (fun e _ _ => by
              rcases HF.out.2.2.2 with ⟨-, -, -, -, e2⟩ | ⟨e2, -⟩
              · rw [e2]; unfold overF; rw [if_neg (by rw [← HC.out]; simp [hc0])]
              · exact absurd e e2) B10 b10 D m w14 (K14'.out.b (w10.heap.size, T4, B10, b10) (by simp)).i (K14'.out.b (w.heap.size + 1, q, D, m) (by simp)).i
            subst hc0
            go_wp2_with fail
            refine hca.mono ?_
            rintro e w15 ⟨rfl, hb15⟩
            have HH := Lib.hid (And.intro (K14'.out.keep hb15) (M14.out.keep hb15))
            clear hb15 hca K14' M14 q0 q1 q2 q3 q4 z0 z1 z2 z3 z4 v0 v1 v2 v3 v4
            go_wp2_with fail
            go_meet
            exact HH
          · have hca := cell_any T4 p (by omega) HL.out E4 x y x y (fun e _ _ => by
              rcases HF.out.2.2.2 with ⟨-, -, -, -, e2⟩ | ⟨e2, -⟩
              · rw [e2]; unfold overF; rw [if_pos (by rw [← HC.out]; exact hc0)]
              · exact absurd e e2) B10 b10 A k w14 (K14'.out.b (w10.heap.size, T4, B10, b10) (by simp)).i (K14'.out.b (w.heap.size, p, A, k) (by simp)).i
            have dc : (c == 0) = false := beq_eq_false_iff_ne.2 hc0
            clear hc0
            go_wp2_with fail
            refine hca.mono ?_
            rintro e w15 ⟨rfl, hb15⟩
            have HH := Lib.hid (And.intro (K14'.out.keep hb15) (M14.out.keep hb15))
            clear hb15 hca K14' M14 q0 q1 q2 q3 q4 z0 z1 z2 z3 z4 v0 v1 v2 v3 v4
            go_wp2_with fail
            go_meet
            exact HH
      case rest =>
        as_aux_lemma =>
          clear K14' M14 q0 q1 q2 q3 q4 z0 z1 z2 z3 z4 v0 v1 v2 v3 v4 HC
          obtain ⟨w15, hw15⟩ : ∃ w15, w15 = wc := ⟨_, rfl⟩
          rw [← hw15] at hcut ⊢
          have K15 := Lib.hid hcut.out.1
          have M15 := Lib.hid hcut.out.2
          clear hcut hw15
          obtain ⟨g1, gS⟩ := top_turn HVL.out.1 HVL.out.2.2.1
          obtain ⟨-, gR⟩ := top_turn HVL.out.2.1 HVL.out.2.2.2
          have g2 := top_mir HVL.out.1 HVL.out.2.2.1 gS
          have g3 := top_over HVL.out.1 HVL.out.2.1 HVL.out.2.2.1 HVL.out.2.2.2 gS gR
          rw [← HT.out.1] at g1
          rw [← HT.out.2.1] at g2
          rw [← HT.out.2.2.1, ← HT.out.2.2.2] at g3
          have r1 := read_any _ (by simp only [ByteArray.size_append]; have e1 : (⟨#[116, 117, 114, 110, 32, 40, 32]⟩ : ByteArray).size = 7 := rfl; have e2 : (⟨#[32, 41]⟩ : ByteArray).size = 2 := rfl; omega) T2 0 g1 B8 b8 w15 (K15.out.b (w8.heap.size, T2, B8, b8) (by simp)).i (HI.out.2.below K15.out.o)
          have r2 := fun w hi hw => read_any _ (by simp only [ByteArray.size_append]; have e1 : (⟨#[109, 105, 114, 114, 111, 114, 32, 40, 32]⟩ : ByteArray).size = 9 := rfl; have e2 : (⟨#[32, 41]⟩ : ByteArray).size = 2 := rfl; omega) T3 0 g2 B9 b9 w hi hw
          have r3 := fun w hi hw => read_any _ (by simp only [ByteArray.size_append]; have e1 : (⟨#[111, 118, 101, 114, 32, 40, 32]⟩ : ByteArray).size = 7 := rfl; have e2 : (⟨#[32, 41]⟩ : ByteArray).size = 2 := rfl; have e3 : (⟨#[32, 41, 32, 40, 32]⟩ : ByteArray).size = 5 := rfl; omega) T4 E4 g3 B10 b10 w hi hw
          have HR2 := Lib.hid r2
          have HR3 := Lib.hid r3
          clear g1 g2 g3 r2 r3
          obtain ⟨q0, q1, q2, q3, q4⟩ := (K15.out.b (w8.heap.size, T2, B8, b8) (by simp)).b.cells
          go_wp2_with fail
          refine (r1).mono ?_
          rintro e w16 ⟨rfl, hb16⟩
          have K16 := Lib.hid (K15.out.keep hb16)
          have M16 := Lib.hid (M15.out.keep hb16)
          clear hb16 K15 M15
          clear q0 q1 q2 q3 q4 r1
          obtain ⟨q0, q1, q2, q3, q4⟩ := (K16.out.b (w9.heap.size, T3, B9, b9) (by simp)).b.cells
          go_wp2_with fail
          refine (HR2.out w16 (K16.out.b (w9.heap.size, T3, B9, b9) (by simp)).i (HI.out.2.below K16.out.o)).mono ?_
          rintro e w17 ⟨rfl, hb17⟩
          have K17 := Lib.hid (K16.out.keep hb17)
          have M17 := Lib.hid (M16.out.keep hb17)
          clear hb17 K16 M16
          clear q0 q1 q2 q3 q4 HR2
          obtain ⟨q0, q1, q2, q3, q4⟩ := (K17.out.b (w10.heap.size, T4, B10, b10) (by simp)).b.cells
          go_wp2_with fail
          refine (HR3.out w17 (K17.out.b (w10.heap.size, T4, B10, b10) (by simp)).i (HI.out.2.below K17.out.o)).mono ?_
          rintro e w18 ⟨rfl, hb18⟩
          have K18 := Lib.hid (K17.out.keep hb18)
          have M18 := Lib.hid (M17.out.keep hb18)
          clear hb18 K17 M17
          clear q0 q1 q2 q3 q4 HR3
          obtain ⟨ax, ay, f, hal⟩ := AlS.some p q
          obtain ⟨t1, t2, t3, t4, t5⟩ := top_final HVL.out.1 HVL.out.2.1 hal HVL.out.2.2.1 HVL.out.2.2.2
          have hz : twoZ p q = 0 := by unfold twoZ; rw [if_neg (by simp [HVL.out.1]), HVL.out.2.1]
          have a1 := fun w hi hq => psame_any p q HL.out HL2.out A k D m w hi hq
          have a2 := fun w hi hq => palign_any p q HL.out HL2.out ax ay f hal A k D m w hi hq
          have a3 := fun w hi => pshift_any p HL.out ax ay A k w hi
          have l6 := oShift_len p ax ay
          have a4 := fun A cap w hi hw => pfmt_any (shiftT p ax ay) (by omega) A cap w hi hw
          rw [hz] at a1 a2
          rw [t3] at a3
          rw [t4] at a4
          obtain ⟨sb, hsb⟩ : ∃ s, s = samT p q := ⟨_, rfl⟩
          obtain ⟨T6, hT6⟩ : ∃ s, s = shiftT p ax ay := ⟨_, rfl⟩
          rw [← hsb] at a1 t1 t2
          rw [← hT6] at a3 a4 t5 l6
          obtain ⟨U, hU⟩ : ∃ s, s = (fmtT T6).1 := ⟨_, rfl⟩
          rw [← hU] at a4 t5
          have A1 := Lib.hid a1
          have A2 := Lib.hid a2
          have A3 := Lib.hid a3
          have A4 := Lib.hid a4
          have AF := Lib.hid (And.intro t1 (And.intro t2 t5))
          clear a1 a2 a3 a4 t1 t2 t3 t4 t5 hal hz hsb hT6 hU HF HT
          obtain ⟨m0, m1, m2, m3, m4, m5⟩ := M18.out.cells
          by_cases hT1 : T < 1
          · clear gS gR
            go_upto_region 30 with fail
            as_aux_lemma =>
              obtain ⟨q0, q1, q2, q3, q4⟩ := (K18.out.b (w.heap.size, p, A, k) (by simp)).b.cells
              obtain ⟨z0, z1, z2, z3, z4⟩ := (K18.out.b (w.heap.size + 1, q, D, m) (by simp)).b.cells
              go_wp2_with fail
              refine (A1.out w18 (K18.out.b (w.heap.size, p, A, k) (by simp)).i (K18.out.b (w.heap.size + 1, q, D, m) (by simp)).i).mono ?_
              rintro e w31 ⟨rfl, hb31⟩
              have K31 := Lib.hid (K18.out.keep hb31)
              clear hb31 K18
              clear q0 q1 q2 q3 q4 z0 z1 z2 z3 z4 A1 M18
              obtain ⟨q0, q1, q2, q3, q4⟩ := (K31.out.b (w.heap.size, p, A, k) (by simp)).b.cells
              obtain ⟨z0, z1, z2, z3, z4⟩ := (K31.out.b (w.heap.size + 1, q, D, m) (by simp)).b.cells
              go_wp2_with fail
              refine (A2.out w31 (K31.out.b (w.heap.size, p, A, k) (by simp)).i (K31.out.b (w.heap.size + 1, q, D, m) (by simp)).i).mono ?_
              rintro e w32 ⟨rfl, hb32⟩
              have K32 := Lib.hid (K31.out.keep hb32)
              clear hb32 K31
              clear q0 q1 q2 q3 q4 z0 z1 z2 z3 z4 A2
              obtain ⟨q0, q1, q2, q3, q4⟩ := (K32.out.b (w.heap.size, p, A, k) (by simp)).b.cells
              go_wp2_with fail
              refine (A3.out w32 (K32.out.b (w.heap.size, p, A, k) (by simp)).i).mono ?_
              intro e w33 h33
              obtain ⟨B33, b33, rfl, -, hi33, hb33⟩ := h33.open
              have K33 := Lib.hid (K32.out.keep hb33)
              have I33 := Lib.hid hi33
              clear h33 hb33 hi33 K32
              clear q0 q1 q2 q3 q4 A3
              go_wp2_with fail
              have hJ33 := K33.out.add (k := b33) I33.out
              obtain ⟨V33, hV33⟩ : ∃ V, V = (w33).alloc (.cells #[.int .i64 (T6).a, .int .i64 (T6).b, .int .i64 (T6).c, .slice B33 (T6).xs.length b33] 24) := ⟨_, rfl⟩
              rw [← hV33] at hJ33 ⊢
              have J33 := Lib.hid hJ33
              clear hJ33 hV33 K33 I33
              refine (A4.out B33 b33 V33 (J33.out.b (w33.heap.size, T6, B33, b33) (by simp)).i (HI.out.2.below J33.out.o)).mono ?_
              rintro e w34 ⟨rfl, hb34⟩
              have K34 := Lib.hid (J33.out.keep hb34)
              clear hb34 J33
              clear A4
              obtain ⟨t1, t2, t5⟩ := AF.out
              clear AF
              cases sb with
              | true =>
                obtain rfl := t2 rfl
                obtain rfl := t5 rfl
                have dU : (U.toList == U.toList) = true := beq_self_eq_true _
                clear t2 t5
                go_wp2
                go_ret
                exact ⟨rfl, K34.out.o⟩
              | false =>
                cases f with
                | true =>
                  obtain rfl := t5 rfl
                  have dU : (U.toList == U.toList) = true := beq_self_eq_true _
                  clear t2 t5
                  go_wp2
                  go_ret
                  exact ⟨rfl, K34.out.o⟩
                | false =>
                  clear t2 t5
                  go_wp2
                  go_ret
                  exact ⟨rfl, K34.out.o⟩
          · by_cases hT9 : 9 < T
            · clear gS gR
              go_upto_region 30 with fail
              as_aux_lemma =>
                obtain ⟨q0, q1, q2, q3, q4⟩ := (K18.out.b (w.heap.size, p, A, k) (by simp)).b.cells
                obtain ⟨z0, z1, z2, z3, z4⟩ := (K18.out.b (w.heap.size + 1, q, D, m) (by simp)).b.cells
                go_wp2_with fail
                refine (A1.out w18 (K18.out.b (w.heap.size, p, A, k) (by simp)).i (K18.out.b (w.heap.size + 1, q, D, m) (by simp)).i).mono ?_
                rintro e w31 ⟨rfl, hb31⟩
                have K31 := Lib.hid (K18.out.keep hb31)
                clear hb31 K18
                clear q0 q1 q2 q3 q4 z0 z1 z2 z3 z4 A1 M18
                obtain ⟨q0, q1, q2, q3, q4⟩ := (K31.out.b (w.heap.size, p, A, k) (by simp)).b.cells
                obtain ⟨z0, z1, z2, z3, z4⟩ := (K31.out.b (w.heap.size + 1, q, D, m) (by simp)).b.cells
                go_wp2_with fail
                refine (A2.out w31 (K31.out.b (w.heap.size, p, A, k) (by simp)).i (K31.out.b (w.heap.size + 1, q, D, m) (by simp)).i).mono ?_
                rintro e w32 ⟨rfl, hb32⟩
                have K32 := Lib.hid (K31.out.keep hb32)
                clear hb32 K31
                clear q0 q1 q2 q3 q4 z0 z1 z2 z3 z4 A2
                obtain ⟨q0, q1, q2, q3, q4⟩ := (K32.out.b (w.heap.size, p, A, k) (by simp)).b.cells
                go_wp2_with fail
                refine (A3.out w32 (K32.out.b (w.heap.size, p, A, k) (by simp)).i).mono ?_
                intro e w33 h33
                obtain ⟨B33, b33, rfl, -, hi33, hb33⟩ := h33.open
                have K33 := Lib.hid (K32.out.keep hb33)
                have I33 := Lib.hid hi33
                clear h33 hb33 hi33 K32
                clear q0 q1 q2 q3 q4 A3
                go_wp2_with fail
                have hJ33 := K33.out.add (k := b33) I33.out
                obtain ⟨V33, hV33⟩ : ∃ V, V = (w33).alloc (.cells #[.int .i64 (T6).a, .int .i64 (T6).b, .int .i64 (T6).c, .slice B33 (T6).xs.length b33] 24) := ⟨_, rfl⟩
                rw [← hV33] at hJ33 ⊢
                have J33 := Lib.hid hJ33
                clear hJ33 hV33 K33 I33
                refine (A4.out B33 b33 V33 (J33.out.b (w33.heap.size, T6, B33, b33) (by simp)).i (HI.out.2.below J33.out.o)).mono ?_
                rintro e w34 ⟨rfl, hb34⟩
                have K34 := Lib.hid (J33.out.keep hb34)
                clear hb34 J33
                clear A4
                obtain ⟨t1, t2, t5⟩ := AF.out
                clear AF
                cases sb with
                | true =>
                  obtain rfl := t2 rfl
                  obtain rfl := t5 rfl
                  have dU : (U.toList == U.toList) = true := beq_self_eq_true _
                  clear t2 t5
                  go_wp2
                  go_ret
                  exact ⟨rfl, K34.out.o⟩
                | false =>
                  cases f with
                  | true =>
                    obtain rfl := t5 rfl
                    have dU : (U.toList == U.toList) = true := beq_self_eq_true _
                    clear t2 t5
                    go_wp2
                    go_ret
                    exact ⟨rfl, K34.out.o⟩
                  | false =>
                    clear t2 t5
                    go_wp2
                    go_ret
                    exact ⟨rfl, K34.out.o⟩
            · obtain ⟨b, hb, gt⟩ := top_swell HVL.out.1 (t := T) (by omega) (by omega) HVL.out.2.2.1 gS
              have hcv := fun W => conv_one (48 + T) b hb W
              obtain ⟨xt0, xt1⟩ := swe_small (show 1 ≤ T by omega) (show T ≤ 9 by omega) bx1 bx2
              obtain ⟨yt0, yt1⟩ := swe_small (show 1 ≤ T by omega) (show T ≤ 9 by omega) by1 by2
              have hc1 := fun h => swe_cell (p := p) (show 1 ≤ T by omega) x y h
              have hs5 := pswell_any p HL.out T A k w18 (K18.out.b (w.heap.size, p, A, k) (by simp)).i
              have ht5 := oSwe_len p T
              have hr5 := fun E h A k w hi hw => read_any ((((⟨#[115, 119, 101, 108, 108, 32]⟩ ++ ⟨[b].toArray⟩) ++ ⟨#[32, 40, 32]⟩) ++ S) ++ ⟨#[32, 41]⟩) (by have e1 : (⟨#[115, 119, 101, 108, 108, 32]⟩ : ByteArray).size = 6 := rfl; have e2 : (⟨#[32, 41]⟩ : ByteArray).size = 2 := rfl; have e3 : (⟨#[32, 40, 32]⟩ : ByteArray).size = 3 := rfl; have e4 : (⟨[b].toArray⟩ : ByteArray).size = 1 := rfl; simp only [ByteArray.size_append]; omega) (sweT p T) E h A k w hi hw
              obtain ⟨E5, hE5⟩ : ∃ s, s = sweE p T := ⟨_, rfl⟩
              rw [← hE5] at hs5 hc1 gt
              have hr5 := hr5 E5 gt
              obtain ⟨T5, hT5⟩ : ∃ s, s = sweT p T := ⟨_, rfl⟩
              rw [← hT5] at hs5 ht5 hr5 hc1
              have HR5 := Lib.hid hr5
              have HC5 := Lib.hid hc1
              clear hr5 hc1 gt hE5 hT5 gR hb
              obtain ⟨q0, q1, q2, q3, q4⟩ := (K18.out.b (w.heap.size, p, A, k) (by simp)).b.cells
              go_upto_region 27 with fail
              go_wp2_with fail
              refine (hs5).mono ?_
              intro e w20 h20
              obtain ⟨B20, b20, rfl, -, hi20, hb20⟩ := h20.open
              have K20 := Lib.hid (K18.out.keep hb20)
              have M20 := Lib.hid (M18.out.keep hb20)
              have I20 := Lib.hid hi20
              clear h20 hb20 hi20 K18 M18
              clear q0 q1 q2 q3 q4 hs5 m0 m1 m2 m3 m4 m5
              obtain ⟨m0, m1, m2, m3, m4, m5⟩ := M20.out.cells
              obtain ⟨q0, q1, q2, q3, q4⟩ := (K20.out.b (w.heap.size, p, A, k) (by simp)).b.cells
              go_wp2_with fail
              have hJ20 := K20.out.add (k := b20) I20.out
              have hM20 := M20.out.keep (below_new w20 (.cells #[.int .i64 (T5).a, .int .i64 (T5).b, .int .i64 (T5).c, .slice B20 (T5).xs.length b20] 24))
              obtain ⟨V20, hV20⟩ : ∃ V, V = (w20).alloc (.cells #[.int .i64 (T5).a, .int .i64 (T5).b, .int .i64 (T5).c, .slice B20 (T5).xs.length b20] 24) := ⟨_, rfl⟩
              rw [← hV20] at hJ20 hM20 ⊢
              have J20 := Lib.hid hJ20
              have N20 := Lib.hid hM20
              clear hJ20 hV20 hM20 K20 M20 I20
              refine (cell_any T5 p (by omega) HL.out E5 (x * T) (y * T) x y (fun e _ _ => HC5.out e) B20 b20 A k V20 (J20.out.b (w20.heap.size, T5, B20, b20) (by simp)).i (J20.out.b (w.heap.size, p, A, k) (by simp)).i).mono ?_
              rintro e w21 ⟨rfl, hb21⟩
              have K21 := Lib.hid (J20.out.keep hb21)
              have M21 := Lib.hid (N20.out.keep hb21)
              clear hb21 J20 N20
              clear q0 q1 q2 q3 q4 m0 m1 m2 m3 m4 m5
              obtain ⟨m0, m1, m2, m3, m4, m5⟩ := M21.out.cells
              obtain ⟨z0, z1, z2, z3, z4⟩ := (K21.out.b (w20.heap.size, T5, B20, b20) (by simp)).b.cells
              go_wp2_with fail
              have hJ21 := K21.out.keep (below_new w21 (.cells #[.int .u8 (48 + T)] 5))
              have hM21 := M21.out.keep (below_new w21 (.cells #[.int .u8 (48 + T)] 5))
              obtain ⟨V21, hV21⟩ : ∃ V, V = w21.alloc (.cells #[.int .u8 (48 + T)] 5) := ⟨_, rfl⟩
              rw [← hV21] at hJ21 hM21 ⊢
              have J21 := Lib.hid hJ21
              have N21 := Lib.hid hM21
              clear hJ21 hM21 hV21
              refine (HR5.out B20 b20 V21 (J21.out.b (w20.heap.size, T5, B20, b20) (by simp)).i (HI.out.2.below J21.out.o)).mono ?_
              rintro e w22 ⟨rfl, hb22⟩
              have K22 := Lib.hid (J21.out.keep hb22)
              have M22 := Lib.hid (N21.out.keep hb22)
              clear hb22 J21 N21
              clear z0 z1 z2 z3 z4 m0 m1 m2 m3 m4 m5 hcv HR5 HC5 gS
              go_upto_region 30 with fail
              as_aux_lemma =>
                obtain ⟨q0, q1, q2, q3, q4⟩ := (K22.out.b (w.heap.size, p, A, k) (by simp)).b.cells
                obtain ⟨z0, z1, z2, z3, z4⟩ := (K22.out.b (w.heap.size + 1, q, D, m) (by simp)).b.cells
                go_wp2_with fail
                refine (A1.out w22 (K22.out.b (w.heap.size, p, A, k) (by simp)).i (K22.out.b (w.heap.size + 1, q, D, m) (by simp)).i).mono ?_
                rintro e w31 ⟨rfl, hb31⟩
                have K31 := Lib.hid (K22.out.keep hb31)
                clear hb31 K22
                clear q0 q1 q2 q3 q4 z0 z1 z2 z3 z4 A1 M22
                obtain ⟨q0, q1, q2, q3, q4⟩ := (K31.out.b (w.heap.size, p, A, k) (by simp)).b.cells
                obtain ⟨z0, z1, z2, z3, z4⟩ := (K31.out.b (w.heap.size + 1, q, D, m) (by simp)).b.cells
                go_wp2_with fail
                refine (A2.out w31 (K31.out.b (w.heap.size, p, A, k) (by simp)).i (K31.out.b (w.heap.size + 1, q, D, m) (by simp)).i).mono ?_
                rintro e w32 ⟨rfl, hb32⟩
                have K32 := Lib.hid (K31.out.keep hb32)
                clear hb32 K31
                clear q0 q1 q2 q3 q4 z0 z1 z2 z3 z4 A2
                obtain ⟨q0, q1, q2, q3, q4⟩ := (K32.out.b (w.heap.size, p, A, k) (by simp)).b.cells
                go_wp2_with fail
                refine (A3.out w32 (K32.out.b (w.heap.size, p, A, k) (by simp)).i).mono ?_
                intro e w33 h33
                obtain ⟨B33, b33, rfl, -, hi33, hb33⟩ := h33.open
                have K33 := Lib.hid (K32.out.keep hb33)
                have I33 := Lib.hid hi33
                clear h33 hb33 hi33 K32
                clear q0 q1 q2 q3 q4 A3
                go_wp2_with fail
                have hJ33 := K33.out.add (k := b33) I33.out
                obtain ⟨V33, hV33⟩ : ∃ V, V = (w33).alloc (.cells #[.int .i64 (T6).a, .int .i64 (T6).b, .int .i64 (T6).c, .slice B33 (T6).xs.length b33] 24) := ⟨_, rfl⟩
                rw [← hV33] at hJ33 ⊢
                have J33 := Lib.hid hJ33
                clear hJ33 hV33 K33 I33
                refine (A4.out B33 b33 V33 (J33.out.b (w33.heap.size, T6, B33, b33) (by simp)).i (HI.out.2.below J33.out.o)).mono ?_
                rintro e w34 ⟨rfl, hb34⟩
                have K34 := Lib.hid (J33.out.keep hb34)
                clear hb34 J33
                clear A4
                obtain ⟨t1, t2, t5⟩ := AF.out
                clear AF
                cases sb with
                | true =>
                  obtain rfl := t2 rfl
                  obtain rfl := t5 rfl
                  have dU : (U.toList == U.toList) = true := beq_self_eq_true _
                  clear t2 t5
                  go_wp2
                  go_ret
                  exact ⟨rfl, K34.out.o⟩
                | false =>
                  cases f with
                  | true =>
                    obtain rfl := t5 rfl
                    have dU : (U.toList == U.toList) = true := beq_self_eq_true _
                    clear t2 t5
                    go_wp2
                    go_ret
                    exact ⟨rfl, K34.out.o⟩
                  | false =>
                    clear t2 t5
                    go_wp2
                    go_ret
                    exact ⟨rfl, K34.out.o⟩
    · clear CF1 CF2 HSR
      have d1 : (E2 != 0) = true := by rw [bne_iff_ne]; exact hz2
      subst hz1
      clear hz2
      go_wp2
      go_ret
      exact ⟨rfl, K5.out.o⟩
  · clear CF1 CF2 HSR
    have d1 : (E1 != 0) = true := by rw [bne_iff_ne]; exact hz1
    clear hz1
    go_wp2
    go_ret
    exact ⟨rfl, K5.out.o⟩
end Go.Proofs.YtlinldbbhdpgcaaGreatDoor