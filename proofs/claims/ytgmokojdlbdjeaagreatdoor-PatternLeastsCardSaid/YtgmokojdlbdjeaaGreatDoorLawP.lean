/-
  LAWS OVER PATTERNS: what stays; the answers by the least pattern.
-/
import Derived.Test.YtgmokojdlbdjeaaGreatDoorKnwP
import Derived.Test.YtgmokojdlbdjeaaGreatDoorPatL
import Derived.Test.YtgmokojdlbdjeaaGreatDoorPrfE
namespace Go.Proofs.YtgmokojdlbdjeaaGreatDoor
open Go.RowKit
/-- A pattern in memory that calls leave alone: its box, and its cells where the slice says. -/
structure PB (w : World) (bx : Nat) (p : PatD) (A : Option Addr) (k : Nat) : Prop where
  b : PBox w bx p.a p.b p.c (.slice A p.xs.length k)
  i : PatIn w p A
theorem PB.keep {w w' : World} {bx : Nat} {p : PatD} {A : Option Addr} {k : Nat} (h : PB w bx p A k) (hb : Below w.heap.size w w') : PB w' bx p A k := ⟨h.b.keep hb, h.i.below hb⟩
theorem PB.new {w : World} {p : PatD} {A : Option Addr} {k : Nat} (h : PatIn w p A) : PB (w.alloc (.cells #[.int .i64 p.a, .int .i64 p.b, .int .i64 p.c, .slice A p.xs.length k] 24)) w.heap.size p A k :=
  ⟨PBox.new w _ _ _ _, h.below ((Below.refl _ w).alloc (Nat.le_refl _) _)⟩
theorem below_new (w : World) (o : Obj) : Below w.heap.size w (w.alloc o) := (Below.refl _ w).alloc (Nat.le_refl _) o
/-- What a call answers, in new memory. -/
theorem OutP.open {w w' : World} {p : PatD} {z : Value} {e : Ending} (h : OutP w p z e w') : ∃ A k, e = .returned (.tuple #[.agg #[.int .i64 p.a, .int .i64 p.b, .int .i64 p.c, .slice A p.xs.length k], z]) ∧ OwnI w' w.heap.size (.slice A p.xs.length k) p.xs ∧ PatIn w' p A ∧ Below w.heap.size w w' := by
  obtain ⟨v, rfl, ho, hb⟩ := h
  obtain ⟨A, k, rfl, hl⟩ := ho.isL
  exact ⟨A, k, rfl, ho, hl, hb⟩
set_option maxRecDepth 100000 in
theorem long_any (p : PatD) (A : Option Addr) (k : Nat) (w : World) :
    Calls Tryz.prog 15 #[.agg #[.int .i64 p.a, .int .i64 p.b, .int .i64 p.c, .slice A p.xs.length k]] w fun e w' => e = .returned (.bool (decide (400 < p.xs.length))) ∧ Below w.heap.size w w' := by
  obtain ⟨n, hn⟩ : ∃ n, n = p.xs.length := ⟨_, rfl⟩
  rw [← hn]
  obtain ⟨r, hr⟩ : ∃ r, r = decide (400 < n) := ⟨_, rfl⟩
  rw [← hr]
  have d1 : decide ((400 : Int) < (n : Int)) = r := by
    rw [hr]
    by_cases h : 400 < n
    · rw [decide_eq_true h, decide_eq_true (by omega)]
    · rw [decide_eq_false h, decide_eq_false (by omega)]
  have HR := Lib.hid hr
  clear hn hr
  go_enter Tryz.func15, Tryz.ntmps15
  go_wp2
  go_ret
  first
  | exact ⟨rfl, below_new _ _⟩
  | (refine ⟨?_, below_new _ _⟩; simp [d1])
theorem lstO_zero {p : PatD} (h : valP p = 0) : lstO p = lst (colF p) := by unfold lstO; rw [if_neg (by simp [h])]
theorem lstO_bad {p : PatD} (h : ¬ valP p = 0) : lstO p = zeroP := by unfold lstO; rw [if_pos h]
/-- Least, and the document's answer. -/
theorem least_lst (p : PatD) (hl : p.xs.length ≤ 1000000) (A : Option Addr) (cap : Nat) (w : World) (hi : PatIn w p A) :
    Calls Tryz.prog 18 #[.agg #[.int .i64 p.a, .int .i64 p.b, .int .i64 p.c, .slice A p.xs.length cap]] w (OutP w (lstO p) (.int .i64 (valP p))) := by
  obtain ⟨a1, b1, c1, h⟩ := LeastOf.some p
  have := least_any p hl a1 b1 c1 h A cap w hi
  rwa [leastO_lst h] at this
theorem rleast_lst (p : PatD) (hl : p.xs.length ≤ 1000000) (A : Option Addr) (cap : Nat) (w : World) (hi : PatIn w p A) :
    Calls Tryz.prog 19 #[.agg #[.int .i64 p.a, .int .i64 p.b, .int .i64 p.c, .slice A p.xs.length cap]] w (OutP w (lstO p) (.int .i64 (valP p))) := by
  obtain ⟨a1, b1, c1, h⟩ := LeastOf.some p
  have := rleastP_any p hl a1 b1 c1 h A cap w hi
  rwa [leastO_lst h] at this
theorem lst_len {F : Int → Int → Int} {a b c : Int} (h : Base F a b c) (hac : a * c ≤ 1000000) : (lst F).xs.length ≤ 1000000 := by
  have h1 := h.lst_cells
  obtain ⟨h2, h3⟩ := h.lst
  have h4 := leastP_len (F := F) (a := (lst F).a) (b := (lst F).b) (c := (lst F).c) h2.a0 h2.c0
  rw [← h3] at h4
  omega
theorem lstO_len (p : PatD) : (lstO p).xs.length ≤ 144 := by
  by_cases h : valP p = 0
  · rw [lstO_zero h]
    have hg := valP_zero h
    have hb := col_base hg.ok
    have h1 := hb.lst_cells
    obtain ⟨h2, h3⟩ := hb.lst
    have h4 := leastP_len (F := colF p) (a := (lst (colF p)).a) (b := (lst (colF p)).b) (c := (lst (colF p)).c) h2.a0 h2.c0
    rw [← h3] at h4
    have := hg.ac
    omega
  · rw [lstO_bad h]; show 0 ≤ 144; omega
end Go.Proofs.YtgmokojdlbdjeaaGreatDoor
