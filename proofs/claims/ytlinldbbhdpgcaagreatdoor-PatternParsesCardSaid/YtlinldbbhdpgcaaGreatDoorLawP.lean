/-
  THE LAWS' OWN CHECK: known.
-/
import Derived.Test.YtlinldbbhdpgcaaGreatDoorParJ
import Derived.Test.YtlinldbbhdpgcaaGreatDoorPatL
import Derived.Test.YtlinldbbhdpgcaaGreatDoorPrfE
namespace Go.Proofs.YtlinldbbhdpgcaaGreatDoor
open Go.RowKit
set_option maxRecDepth 100000 in
set_option maxHeartbeats 2000000 in
theorem known_any (w : World) (hw : LibOK w) :
    Calls Tryz.prog 19 #[] w fun e w' => e = .returned (.bool true) ∧ Below w.heap.size w w' := by
  have HK := Lib.hid (parse_known w hw)
  clear hw
  go_enter Tryz.func19, Tryz.ntmps19
  go_wp2_with fail
  refine HK.out.mono ?_
  rintro e w1 ⟨v, rfl, hown, hb1⟩
  obtain ⟨A, c, rfl, hl1, hl2⟩ := hown.isL
  obtain ⟨b, o, rfl, hb, hc⟩ := hl2 (by decide)
  have y0 := hc 0 (by decide)
  have y1 := hc 1 (by decide)
  simp only [List.getD_cons_zero, List.getD_cons_succ, Nat.add_zero] at y0 y1
  have HB := Lib.hid hb1
  clear hown hl1 hl2 hc hb1 HK
  simp only [List.length_cons, List.length_nil]
  go_wp2
  go_ret
  exact ⟨rfl, Below.alloc HB.out HB.out.size _⟩
end Go.Proofs.YtlinldbbhdpgcaaGreatDoor
/-
  LAWS OVER PATTERNS: what stays; the answers by the least pattern.
-/
namespace Go.Proofs.YtlinldbbhdpgcaaGreatDoor
open Go.RowKit
/-- A pattern in memory that calls leave alone: its box, and its cells where the slice says. -/
structure PB (w : World) (bx : Nat) (p : PatD) (A : Option Addr) (k : Nat) : Prop where
  b : PBox w bx p.a p.b p.c (.slice A p.xs.length k)
  i : PatIn w p A
theorem PB.keep {w w' : World} {bx : Nat} {p : PatD} {A : Option Addr} {k : Nat} (h : PB w bx p A k) (hb : Below w.heap.size w w') : PB w' bx p A k := ⟨h.b.keep hb, h.i.below hb⟩
theorem PB.new {w : World} {p : PatD} {A : Option Addr} {k : Nat} (h : PatIn w p A) : PB (w.alloc (.cells #[.int .i64 p.a, .int .i64 p.b, .int .i64 p.c, .slice A p.xs.length k] 24)) w.heap.size p A k :=
  ⟨PBox.new w _ _ _ _, h.below ((Below.refl _ w).alloc (Nat.le_refl _) _)⟩
theorem below_new (w : World) (o : Obj) : Below w.heap.size w (w.alloc o) := (Below.refl _ w).alloc (Nat.le_refl _) o
/-- What a call answers, in new memory. -/
theorem OutP.open {w w' : World} {p : PatD} {z : Value} {e : Ending} (h : OutP w p z e w') : ∃ A k, e = .returned (.tuple #[.agg #[.int .i64 p.a, .int .i64 p.b, .int .i64 p.c, .slice A p.xs.length k], z]) ∧ OwnI w' w.heap.size (.slice A p.xs.length k) p.xs ∧ PatIn w' p A ∧ Below w.heap.size w w' := by
  obtain ⟨v, rfl, ho, hb⟩ := h
  obtain ⟨A, k, rfl, hl⟩ := ho.isL
  exact ⟨A, k, rfl, ho, hl, hb⟩
set_option maxRecDepth 100000 in
theorem long_any (p : PatD) (A : Option Addr) (k : Nat) (w : World) :
    Calls Tryz.prog 7 #[.agg #[.int .i64 p.a, .int .i64 p.b, .int .i64 p.c, .slice A p.xs.length k]] w fun e w' => e = .returned (.bool (decide (400 < p.xs.length))) ∧ Below w.heap.size w w' := by
  obtain ⟨n, hn⟩ : ∃ n, n = p.xs.length := ⟨_, rfl⟩
  rw [← hn]
  obtain ⟨r, hr⟩ : ∃ r, r = decide (400 < n) := ⟨_, rfl⟩
  rw [← hr]
  have d1 : decide ((400 : Int) < (n : Int)) = r := by
    rw [hr]
    by_cases h : 400 < n
    · rw [decide_eq_true h, decide_eq_true (by omega)]
    · rw [decide_eq_false h, decide_eq_false (by omega)]
  have HR := Lib.hid hr
  clear hn hr
  go_enter Tryz.func7, Tryz.ntmps7
  go_wp2
  go_ret
  first
  | exact ⟨rfl, below_new _ _⟩
  | (refine ⟨?_, below_new _ _⟩; simp [d1])
theorem lstO_zero {p : PatD} (h : valP p = 0) : lstO p = lst (colF p) := by unfold lstO; rw [if_neg (by simp [h])]
theorem lstO_bad {p : PatD} (h : ¬ valP p = 0) : lstO p = zeroP := by unfold lstO; rw [if_pos h]
/-- Least, and the document's answer. -/
theorem least_lst (p : PatD) (hl : p.xs.length ≤ 1000000) (A : Option Addr) (cap : Nat) (w : World) (hi : PatIn w p A) :
    Calls Tryz.prog 23 #[.agg #[.int .i64 p.a, .int .i64 p.b, .int .i64 p.c, .slice A p.xs.length cap]] w (OutP w (lstO p) (.int .i64 (valP p))) := by
  obtain ⟨a1, b1, c1, h⟩ := LeastOf.some p
  have := least_any p hl a1 b1 c1 h A cap w hi
  rwa [leastO_lst h] at this
theorem rleast_lst (p : PatD) (hl : p.xs.length ≤ 1000000) (A : Option Addr) (cap : Nat) (w : World) (hi : PatIn w p A) :
    Calls Tryz.prog 50 #[.agg #[.int .i64 p.a, .int .i64 p.b, .int .i64 p.c, .slice A p.xs.length cap]] w (OutP w (lstO p) (.int .i64 (valP p))) := by
  obtain ⟨a1, b1, c1, h⟩ := LeastOf.some p
  have := rleastP_any p hl a1 b1 c1 h A cap w hi
  rwa [leastO_lst h] at this
theorem lst_len {F : Int → Int → Int} {a b c : Int} (h : Base F a b c) (hac : a * c ≤ 1000000) : (lst F).xs.length ≤ 1000000 := by
  have h1 := h.lst_cells
  obtain ⟨h2, h3⟩ := h.lst
  have h4 := leastP_len (F := F) (a := (lst F).a) (b := (lst F).b) (c := (lst F).c) h2.a0 h2.c0
  rw [← h3] at h4
  omega
theorem lstO_len (p : PatD) : (lstO p).xs.length ≤ 144 := by
  by_cases h : valP p = 0
  · rw [lstO_zero h]
    have hg := valP_zero h
    have hb := col_base hg.ok
    have h1 := hb.lst_cells
    obtain ⟨h2, h3⟩ := hb.lst
    have h4 := leastP_len (F := colF p) (a := (lst (colF p)).a) (b := (lst (colF p)).b) (c := (lst (colF p)).c) h2.a0 h2.c0
    rw [← h3] at h4
    have := hg.ac
    omega
  · rw [lstO_bad h]; show 0 ≤ 144; omega
/-- The boxes of patterns that a law has laid, and that what was there before is as it was. -/
structure Js (w0 w : World) (l : List (Nat × PatD × Option Addr × Nat)) : Prop where
  b : ∀ x ∈ l, PB w x.1 x.2.1 x.2.2.1 x.2.2.2
  o : Below w0.heap.size w0 w
theorem Js.keep {w0 w w' : World} {l : List (Nat × PatD × Option Addr × Nat)} (h : Js w0 w l) (hb : Below w.heap.size w w') : Js w0 w' l := ⟨fun x hx => (h.b x hx).keep hb, h.o.trans (hb.mono h.o.size)⟩
theorem Js.add {w0 w : World} {l : List (Nat × PatD × Option Addr × Nat)} {p : PatD} {A : Option Addr} {k : Nat} (h : Js w0 w l) (hi : PatIn w p A) : Js w0 (w.alloc (.cells #[.int .i64 p.a, .int .i64 p.b, .int .i64 p.c, .slice A p.xs.length k] 24)) ((w.heap.size, p, A, k) :: l) :=
  ⟨fun x hx => by
    rcases List.mem_cons.1 hx with rfl | hx
    · exact PB.new hi
    · exact (h.b x hx).keep (below_new w _), h.o.trans ((below_new w _).mono h.o.size)⟩
theorem Js.start (w : World) : Js w w [] := ⟨fun x hx => by simp at hx, Below.refl _ w⟩
end Go.Proofs.YtlinldbbhdpgcaaGreatDoor
