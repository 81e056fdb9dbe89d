/-
  The law PatternFormats returns true for every pattern.
-/
import Derived.Test.YtlinldbbhdpgcaaGreatDoorLawP
import Derived.Test.YtlinldbbhdpgcaaGreatDoorFmtD
import Derived.Test.YtlinldbbhdpgcaaGreatDoorPrsA
import Derived.Test.YtlinldbbhdpgcaaGreatDoorRegQ
namespace Go.Proofs.YtlinldbbhdpgcaaGreatDoor
open Go.RowKit
set_option maxRecDepth 100000 in
set_option maxHeartbeats 2000000 in
theorem patternFormats_walk (p : PatD) (A : Option Addr) (k : Nat) (w : World) (hi : PatIn w p A) (hw : LibOK w) :
    Calls Tryz.prog 5 #[.agg #[.int .i64 p.a, .int .i64 p.b, .int .i64 p.c, .slice A p.xs.length k]] w fun e w' => e = .returned (.bool true) ∧ Below w.heap.size w w' := by
  have HI := Lib.hid (And.intro hi hw)
  have h1 := fun (hl : p.xs.length ≤ 1000000) A cap w hi hw => pfmt_any p hl A cap w hi hw
  have h2 := fun (hl : p.xs.length ≤ 1000000) A cap w hi => rfmt_any p hl A cap w hi
  have h3 := fun (hl : p.xs.length ≤ 1000000) A cap w hi => least_lst p hl A cap w hi
  have l3 := lstO_len p
  obtain ⟨F, hF⟩ : ∃ F, F = (fmtT p).1 := ⟨_, rfl⟩
  obtain ⟨E, hE⟩ : ∃ E, E = (fmtT p).2 := ⟨_, rfl⟩
  obtain ⟨L, hL⟩ : ∃ L, L = lstO p := ⟨_, rfl⟩
  have hEv : E = valP p := by
    rw [hE]
    unfold fmtT
    split
    · rename_i h; rw [h]
    · rfl
  have hFs : F.size ≤ 1000 := by
    rw [hF]
    unfold fmtT
    split
    · rename_i h
      have h1 := form_size (lstO_good h)
      have h2 : (⟨(formT (lstO p)).toArray⟩ : ByteArray).size = (formT (lstO p)).length := List.size_toArray
      show (⟨(formT (lstO p)).toArray⟩ : ByteArray).size ≤ 1000
      omega
    · show 0 ≤ 1000; omega
  have hP : E = 0 → prsT F = (L, 0) := fun h => by
    have hv : valP p = 0 := by rw [← hEv]; exact h
    have e : F = ⟨(formT (lstO p)).toArray⟩ := by rw [hF]; unfold fmtT; rw [if_pos hv]
    rw [e, hL]
    exact prs_form (lstO_good hv) (lst_again hv)
  rw [← hF, ← hE] at h1 h2
  rw [← hL, ← hEv] at h3
  rw [← hL] at l3
  have C1 := Lib.hid h1
  have C2 := Lib.hid h2
  have C3 := Lib.hid h3
  have C4 := Lib.hid (fun w hw => pparse_any F (by omega) w hw)
  have l4 := prsT_len F
  obtain ⟨Q, hQ⟩ : ∃ Q, Q = (prsT F).1 := ⟨_, rfl⟩
  obtain ⟨Z, hZ⟩ : ∃ Z, Z = (prsT F).2 := ⟨_, rfl⟩
  rw [← hQ, ← hZ] at C4
  rw [← hQ] at l4
  have HP := Lib.hid (show E = 0 → Q = L ∧ Z = 0 from fun h => by rw [hQ, hZ, hP h]; exact ⟨rfl, rfl⟩)
  clear hi hw h1 h2 h3 hF hE hL hEv hFs hP hQ hZ
  go_enter Tryz.func5, Tryz.ntmps5
  go_wp2_with fail
  have hJ0 := (Js.start w).add (k := k) HI.out.1
  obtain ⟨V0, hV0⟩ : ∃ V, V = w.alloc (.cells #[.int .i64 p.a, .int .i64 p.b, .int .i64 p.c, .slice A p.xs.length k] 24) := ⟨_, rfl⟩
  rw [← hV0] at hJ0 ⊢
  have J0 := Lib.hid hJ0
  clear hJ0 hV0
  refine (long_any p A k V0).mono ?_
  rintro e w1 ⟨rfl, hb1⟩
  have K1 := Lib.hid (J0.out.keep hb1)
  clear hb1 J0
  by_cases h4 : 400 < p.xs.length
  · rw [decide_eq_true h4]
    have hk2 := Lib.hid (known_any w1 (HI.out.2.below K1.out.o))
    clear h4
    go_wp2_with fail
    refine (hk2.out).mono ?_
    rintro e w2 ⟨rfl, hb2⟩
    have K2 := Lib.hid (K1.out.keep hb2)
    clear hb2 K1
    go_wp2
    go_ret
    exact ⟨rfl, K2.out.o⟩
  rw [decide_eq_false h4]
  have HL := Lib.hid (show p.xs.length ≤ 1000000 by omega)
  clear h4
  obtain ⟨q0, q1, q2, q3, q4⟩ := (K1.out.b (w.heap.size, p, A, k) (by simp)).b.cells
  go_wp2_with fail
  refine (C1.out HL.out A k w1 (K1.out.b (w.heap.size, p, A, k) (by simp)).i (HI.out.2.below K1.out.o)).mono ?_
  rintro e w2 ⟨rfl, hb2⟩
  have K2 := Lib.hid (K1.out.keep hb2)
  clear hb2 K1 q0 q1 q2 q3 q4
  obtain ⟨q0, q1, q2, q3, q4⟩ := (K2.out.b (w.heap.size, p, A, k) (by simp)).b.cells
  go_wp2_with fail
  refine (C2.out HL.out A k w2 (K2.out.b (w.heap.size, p, A, k) (by simp)).i).mono ?_
  rintro e w3 ⟨rfl, hb3⟩
  have K3 := Lib.hid (K2.out.keep hb3)
  clear hb3 K2 q0 q1 q2 q3 q4
  have dF : (F.toList != F.toList) = false := by rw [bne, beq_self_eq_true]; rfl
  have dE : (E != E) = false := by rw [bne, beq_self_eq_true]; rfl
  have hca := C4.out w3 (HI.out.2.below K3.out.o)
  go_wp2_with fail
  refine (hca).mono ?_
  intro e w4 h4
  obtain ⟨B4, b4, rfl, -, hi4, hb4⟩ := h4.open
  have K4 := Lib.hid (K3.out.keep hb4)
  have I4 := Lib.hid hi4
  clear h4 hb4 hi4 K3
  obtain ⟨q0, q1, q2, q3, q4⟩ := (K4.out.b (w.heap.size, p, A, k) (by simp)).b.cells
  go_wp2_with fail
  have hJ4 := K4.out.add (k := b4) I4.out
  obtain ⟨V4, hV4⟩ : ∃ V, V = (w4).alloc (.cells #[.int .i64 (Q).a, .int .i64 (Q).b, .int .i64 (Q).c, .slice B4 (Q).xs.length b4] 24) := ⟨_, rfl⟩
  rw [← hV4] at hJ4 ⊢
  have J4 := Lib.hid hJ4
  clear hJ4 hV4 K4 I4
  refine (C3.out HL.out A k V4 (J4.out.b (w.heap.size, p, A, k) (by simp)).i).mono ?_
  intro e w5 h5
  obtain ⟨B5, b5, rfl, -, hi5, hb5⟩ := h5.open
  have K5 := Lib.hid (J4.out.keep hb5)
  have I5 := Lib.hid hi5
  clear h5 hb5 hi5 J4
  clear q0 q1 q2 q3 q4 hca
  by_cases hz : E = 0
  · obtain ⟨rfl, rfl⟩ := HP.out hz
    subst hz
    obtain ⟨q0, q1, q2, q3, q4⟩ := (K5.out.b (w4.heap.size, Q, B4, b4) (by simp)).b.cells
    go_wp2_with fail
    have hJ5 := K5.out.add (k := b5) I5.out
    obtain ⟨V5, hV5⟩ : ∃ V, V = (w5).alloc (.cells #[.int .i64 (Q).a, .int .i64 (Q).b, .int .i64 (Q).c, .slice B5 (Q).xs.length b5] 24) := ⟨_, rfl⟩
    rw [← hV5] at hJ5 ⊢
    have J5 := Lib.hid hJ5
    clear hJ5 hV5 K5 I5
    refine (equalP_any Q Q (by omega) (by omega) true (by simp) B4 b4 B5 b5 V5 (J5.out.b (w4.heap.size, Q, B4, b4) (by simp)).i (J5.out.b (w5.heap.size, Q, B5, b5) (by simp)).i).mono ?_
    rintro e w6 ⟨rfl, hb6⟩
    have K6 := Lib.hid (J5.out.keep hb6)
    clear hb6 J5
    have hk7 := Lib.hid (known_any w6 (HI.out.2.below K6.out.o))
    clear q0
    go_wp2_with fail
    refine (hk7.out).mono ?_
    rintro e w7 ⟨rfl, hb7⟩
    have K7 := Lib.hid (K6.out.keep hb7)
    clear hb7 K6
    go_wp2
    go_ret
    exact ⟨rfl, K7.out.o⟩
  · have d1 : (E == 0) = false := by rw [beq_eq_false_iff_ne]; exact hz
    have d2 : (E != 0) = true := by rw [bne_iff_ne]; exact hz
    clear hz
    go_wp2_with fail
    have hJ5 := K5.out.add (k := b5) I5.out
    obtain ⟨V5, hV5⟩ : ∃ V, V = (w5).alloc (.cells #[.int .i64 (L).a, .int .i64 (L).b, .int .i64 (L).c, .slice B5 (L).xs.length b5] 24) := ⟨_, rfl⟩
    rw [← hV5] at hJ5 ⊢
    have J5 := Lib.hid hJ5
    clear hJ5 hV5 K5 I5
    refine (known_any V5 (HI.out.2.below J5.out.o)).mono ?_
    rintro e w6 ⟨rfl, hb6⟩
    have K6 := Lib.hid (J5.out.keep hb6)
    clear hb6 J5
    go_wp2
    go_ret
    exact ⟨rfl, K6.out.o⟩
end Go.Proofs.YtlinldbbhdpgcaaGreatDoor
