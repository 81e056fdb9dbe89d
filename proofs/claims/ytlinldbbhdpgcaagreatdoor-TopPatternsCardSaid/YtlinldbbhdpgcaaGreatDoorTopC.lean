/-
  TopPatterns: cell, read.
-/
import Derived.Test.YtlinldbbhdpgcaaGreatDoorTopM
import Derived.Test.YtlinldbbhdpgcaaGreatDoorLawP
namespace Go.Proofs.YtlinldbbhdpgcaaGreatDoor
open Go.RowKit
set_option maxRecDepth 100000 in
set_option maxHeartbeats 2000000 in
theorem read_any (s : ByteArray) (hs : s.size ≤ 4000) (p : PatD) (E : Int) (hE : prsT s = (p, E)) (A : Option Addr) (k : Nat) (w : World) (hi : PatIn w p A) (hw : LibOK w) :
    Calls Tryz.prog 15 #[.string s, .agg #[.int .i64 p.a, .int .i64 p.b, .int .i64 p.c, .slice A p.xs.length k], .int .i64 E] w fun e w' => e = .returned (.bool true) ∧ Below w.heap.size w w' := by
  have l1 := prsT_len s
  have h1 := fun w hw => pparse_any s (by omega) w hw
  rw [hE] at h1 l1
  simp only at h1 l1
  have C1 := Lib.hid h1
  have HI := Lib.hid (And.intro hi hw)
  clear hi hw h1 hE
  go_enter Tryz.func15, Tryz.ntmps15
  go_wp2_with fail
  have hJ0 := (Js.start w).add (k := k) HI.out.1
  obtain ⟨V0, hV0⟩ : ∃ V, V = w.alloc (.cells #[.int .i64 p.a, .int .i64 p.b, .int .i64 p.c, .slice A p.xs.length k] 24) := ⟨_, rfl⟩
  rw [← hV0] at hJ0 ⊢
  have K0 := Lib.hid hJ0
  have hca := C1.out V0 (HI.out.2.below hJ0.o)
  clear hJ0 hV0
  refine (hca).mono ?_
  intro e w1 h1
  obtain ⟨B1, b1, rfl, -, hi1, hb1⟩ := h1.open
  have K1 := Lib.hid (K0.out.keep hb1)
  have I1 := Lib.hid hi1
  clear h1 hb1 hi1 K0
  obtain ⟨q0, q1, q2, q3, q4⟩ := (K1.out.b (w.heap.size, p, A, k) (by simp)).b.cells
  have dE : (E == E) = true := beq_self_eq_true E
  clear hca
  go_wp2_with fail
  have hJ1 := K1.out.add (k := b1) I1.out
  obtain ⟨V1, hV1⟩ : ∃ V, V = (w1).alloc (.cells #[.int .i64 (p).a, .int .i64 (p).b, .int .i64 (p).c, .slice B1 (p).xs.length b1] 24) := ⟨_, rfl⟩
  rw [← hV1] at hJ1 ⊢
  have J1 := Lib.hid hJ1
  clear hJ1 hV1 K1 I1
  refine (equalP_any p p (by omega) (by omega) true (by simp) A k B1 b1 V1 (J1.out.b (w.heap.size, p, A, k) (by simp)).i (J1.out.b (w1.heap.size, p, B1, b1) (by simp)).i).mono ?_
  rintro e w2 ⟨rfl, hb2⟩
  have K2 := Lib.hid (J1.out.keep hb2)
  clear hb2 J1
  clear q0 q1 q2 q3 q4
  go_wp2
  go_ret
  exact ⟨rfl, K2.out.o⟩
set_option maxRecDepth 100000 in
set_option maxHeartbeats 2000000 in
theorem cell_any (p q : PatD) (hl : p.xs.length ≤ 1000000) (hl2 : q.xs.length ≤ 1000000) (E x y u v : Int) (h : E = 0 → chkP p [x, y] = 0 → chkP q [u, v] = 0 → colF p x y = colF q u v) (A : Option Addr) (k : Nat) (D : Option Addr) (m : Nat) (w : World) (hi : PatIn w p A) (hq : PatIn w q D) :
    Calls Tryz.prog 13 #[.agg #[.int .i64 p.a, .int .i64 p.b, .int .i64 p.c, .slice A p.xs.length k], .int .i64 E, .int .i64 x, .int .i64 y, .agg #[.int .i64 q.a, .int .i64 q.b, .int .i64 q.c, .slice D q.xs.length m], .int .i64 u, .int .i64 v] w fun e w' => e = .returned (.bool true) ∧ Below w.heap.size w w' := by
  have h1 := fun w hi => pat_any p hl x y A k w hi
  have h2 := fun w hi => pat_any q hl2 u v D m w hi
  obtain ⟨z1, hz1⟩ : ∃ z, z = chkP p [x, y] := ⟨_, rfl⟩
  obtain ⟨z2, hz2⟩ : ∃ z, z = chkP q [u, v] := ⟨_, rfl⟩
  obtain ⟨c1, hc1⟩ : ∃ z, z = atT p x y := ⟨_, rfl⟩
  obtain ⟨c2, hc2⟩ : ∃ z, z = atT q u v := ⟨_, rfl⟩
  rw [← hz1, ← hc1] at h1
  rw [← hz2, ← hc2] at h2
  have HC := Lib.hid (show E = 0 → z1 = 0 → z2 = 0 → c1 = c2 from fun e1 e2 e3 => by
    have := h e1 (by rw [← hz1]; exact e2) (by rw [← hz2]; exact e3)
    rw [hc1, hc2]
    unfold atT
    rw [← hz1, ← hz2, e2, e3]
    simpa using this)
  have C1 := Lib.hid h1
  have C2 := Lib.hid h2
  have HI := Lib.hid (And.intro hi hq)
  clear hi hq h1 h2 h hz1 hz2 hc1 hc2
  go_enter Tryz.func13, Tryz.ntmps13
  by_cases hE : E = 0
  · subst hE
    go_wp2_with fail
    have hJ0 := ((Js.start w).add (k := k) HI.out.1).add (k := m) (HI.out.2.below (below_new w _))
    have hsz0 : (w.alloc (.cells #[.int .i64 p.a, .int .i64 p.b, .int .i64 p.c, .slice A p.xs.length k] 24)).heap.size = w.heap.size + 1 := by simp
    rw [hsz0] at hJ0
    obtain ⟨V0, hV0⟩ : ∃ V, V = (w.alloc (.cells #[.int .i64 p.a, .int .i64 p.b, .int .i64 p.c, .slice A p.xs.length k] 24)).alloc (.cells #[.int .i64 q.a, .int .i64 q.b, .int .i64 q.c, .slice D q.xs.length m] 24) := ⟨_, rfl⟩
    rw [← hV0] at hJ0 ⊢
    have K0 := Lib.hid hJ0
    clear hJ0 hV0 hsz0
    refine (C1.out V0 (K0.out.b (w.heap.size, p, A, k) (by simp)).i).mono ?_
    rintro e w1 ⟨rfl, hb1⟩
    have K1 := Lib.hid (K0.out.keep hb1)
    clear hb1 K0
    obtain ⟨q0, q1, q2, q3, q4⟩ := (K1.out.b (w.heap.size + 1, q, D, m) (by simp)).b.cells
    go_wp2_with fail
    refine (C2.out w1 (K1.out.b (w.heap.size + 1, q, D, m) (by simp)).i).mono ?_
    rintro e w2 ⟨rfl, hb2⟩
    have K2 := Lib.hid (K1.out.keep hb2)
    clear hb2 K1 q0 q1 q2 q3 q4
    by_cases e1 : z1 = 0
    · by_cases e2 : z2 = 0
      · obtain rfl := HC.out (by simp) e1 e2
        subst e1 e2
        have dc : (c1 == c1) = true := beq_self_eq_true c1
        go_wp2
        go_ret
        exact ⟨rfl, K2.out.o⟩
      · subst e1
        have d2 : (z2 != 0) = true := by rw [bne_iff_ne]; exact e2
        clear e2
        go_wp2
        go_ret
        exact ⟨rfl, K2.out.o⟩
    · have d1 : (z1 != 0) = true := by rw [bne_iff_ne]; exact e1
      clear e1
      go_wp2
      go_ret
      exact ⟨rfl, K2.out.o⟩
  · have d1 : (E != 0) = true := by rw [bne_iff_ne]; exact hE
    clear hE
    go_wp2
    go_ret
    exact ⟨rfl, (by repeat' (first | (with_reducible exact Below.refl _ _) | (with_reducible assumption) | (with_reducible refine below_drewN ?_ _) | (with_reducible refine below_step (by assumption) ?_ ?_) | (with_reducible refine Below.alloc ?_ ?_ _) | (with_reducible refine Below.setCell ?_ ?_ _) | (with_reducible refine Below.drew ?_) | go_size | (exact Below.size (by assumption)) | (refine Nat.le_trans (Below.size (by assumption)) ?_)))⟩
end Go.Proofs.YtlinldbbhdpgcaaGreatDoor
