/-
  THE WALKS OF Valid AND Make, THE PROGRAM'S AND THE REFERENCE'S.
-/
import Derived.Test.YtlinldbbhdpgcaaGreatDoorNumA
namespace Go.Proofs.YtlinldbbhdpgcaaGreatDoor
open Go.RowKit
theorem bcell {B : Nat} {W w1 : World} (hb : Below B W w1) : (∀ b o, b < B → w1.cell? ⟨b, o, none⟩ = W.cell? ⟨b, o, none⟩) ∧ (∀ b o, b < B → w1.frozen? ⟨b, o, none⟩ = W.frozen? ⟨b, o, none⟩) :=
  ⟨fun b o h => hb.cell (p := ⟨b, o, none⟩) h, fun b o h => hb.frozen (p := ⟨b, o, none⟩) h⟩
theorem below_step {B B1 : Nat} {w W w1 : World} (h1 : Below B1 W w1) (h : Below B w W) (hB : B ≤ B1) : Below B w w1 := h.trans (h1.mono hB)
/-- Block b holds two cells, x and y, and may be written. -/
def Box2 (w : World) (b : Nat) (x y : Value) : Prop :=
  w.cell? ⟨b, 0, none⟩ = some x ∧ w.cell? ⟨b, 1, none⟩ = some y ∧ w.frozen? ⟨b, 0, none⟩ = false ∧ w.frozen? ⟨b, 1, none⟩ = false ∧ b < w.heap.size
theorem Box2.below {B b : Nat} {W w1 : World} {x y : Value} (hb : Below B W w1) (hB : b < B) (h : Box2 W b x y) : Box2 w1 b x y := by
  obtain ⟨h1, h2, h3, h4, h5⟩ := h
  exact ⟨(hb.cell (p := ⟨b, 0, none⟩) hB).trans h1, (hb.cell (p := ⟨b, 1, none⟩) hB).trans h2, (hb.frozen (p := ⟨b, 0, none⟩) hB).trans h3, (hb.frozen (p := ⟨b, 1, none⟩) hB).trans h4, Nat.lt_of_lt_of_le h5 hb.size⟩
theorem Box2.keep {b : Nat} {W w1 : World} {x y : Value} (hb : Below W.heap.size W w1) (h : Box2 W b x y) : Box2 w1 b x y := h.below hb h.2.2.2.2
theorem Box2.drewN {b : Nat} {w : World} {x y : Value} (h : Box2 w b x y) (n : Nat) : Box2 (w.drewN n) b x y := h
theorem Box2.drew {b : Nat} {w : World} {x y : Value} (h : Box2 w b x y) : Box2 w.drew b x y := h
theorem Box2.alloc {b : Nat} {w : World} {x y : Value} (h : Box2 w b x y) (o : Obj) : Box2 (w.alloc o) b x y :=
  h.below ((Below.refl w.heap.size w).alloc (Nat.le_refl _) o) h.2.2.2.2
theorem Box2.new (w : World) (x y : Value) (t : TypeId) : Box2 (w.alloc (.cells #[x, y] t)) w.heap.size x y := by
  refine ⟨by simp, by simp, by simp, by simp, by simp⟩
theorem Box2.new1 (w : World) (o : Obj) (x y : Value) (t : TypeId) : Box2 ((w.alloc o).alloc (.cells #[x, y] t)) (w.heap.size + 1) x y := by
  have := Box2.new (w.alloc o) x y t
  rwa [World.size_alloc] at this
theorem Box2.new2 (w : World) (o o' : Obj) (x y : Value) (t : TypeId) : Box2 (((w.alloc o).alloc o').alloc (.cells #[x, y] t)) (w.heap.size + 1 + 1) x y := by
  have := Box2.new1 (w.alloc o) o' x y t
  rwa [World.size_alloc] at this
theorem Box2.setCell {b : Nat} {w : World} {x y : Value} (h : Box2 w b x y) {p : Addr} (hp : b ≠ p.block) (u : Value) : Box2 (w.setCell p u) b x y := by
  obtain ⟨h1, h2, h3, h4, h5⟩ := h
  have hh := Below.heap_setCell w p u b hp
  exact ⟨(World.cell?_of_block (a := ⟨b, 0, none⟩) hh).trans h1, (World.cell?_of_block (a := ⟨b, 1, none⟩) hh).trans h2, (World.frozen?_of_block (a := ⟨b, 0, none⟩) hh).trans h3, (World.frozen?_of_block (a := ⟨b, 1, none⟩) hh).trans h4, by simpa [World.setCell] using h5⟩
theorem below_lt {B : Nat} {W w1 : World} (hb : Below B W w1) (n : Nat) (h : W.heap.size = n) : n ≤ w1.heap.size := by rw [← h]; exact hb.size
theorem below_drewN {B : Nat} {a w : World} (h : Below B a w) (n : Nat) : Below B a (w.drewN n) := ⟨h.os, h.tape, h.output, h.size, h.block⟩
theorem vld_false {n d : Int} (h : ¬ (1 ≤ d ∧ d ≤ 1048576 ∧ -1099511627776 ≤ n ∧ n ≤ 1099511627776 ∧ Nat.gcd n.natAbs d.natAbs = 1)) : vld n d = false := decide_eq_false h
theorem ret_bool {a b : Bool} (h : a = b) : Ending.returned (.bool a) = .returned (.bool b) := by rw [h]
theorem vld_last {n d : Int} (c1 : 1 ≤ d) (c2 : d ≤ 1048576) (c3 : -1099511627776 ≤ n) (c4 : n ≤ 1099511627776) : (((Nat.gcd n.natAbs d.natAbs : Nat) : Int) == 1) = vld n d := by
  rw [Bool.eq_iff_iff, vld_iff, beq_iff_eq]
  constructor
  · intro h; exact ⟨c1, c2, c3, c4, by omega⟩
  · rintro ⟨-, -, -, -, h⟩; omega
theorem ret_rat {a b c d e f : Int} (h : (a, b, c) = (d, e, f)) : Ending.returned (.tuple #[.agg #[.int .i64 a, .int .i64 b], .int .i64 c]) = .returned (.tuple #[.agg #[.int .i64 d, .int .i64 e], .int .i64 f]) := by
  simp only [Prod.mk.injEq] at h
  obtain ⟨rfl, rfl, rfl⟩ := h
  rfl
theorem bne_not_beq (a b : Bool) : (a != b) = (!(a == b)) := rfl
theorem mk_int {n d : Int} (hd : d ≠ 0) : mk n d = if 1099511627776 < (n.natAbs : Int) / ((Nat.gcd n.natAbs d.natAbs : Nat) : Int) ∨ 1048576 < (d.natAbs : Int) / ((Nat.gcd n.natAbs d.natAbs : Nat) : Int) then (0, 0, 4)
    else if (decide (n < 0) != decide (d < 0)) = true then (-((n.natAbs : Int) / ((Nat.gcd n.natAbs d.natAbs : Nat) : Int)), (d.natAbs : Int) / ((Nat.gcd n.natAbs d.natAbs : Nat) : Int), 0)
    else ((n.natAbs : Int) / ((Nat.gcd n.natAbs d.natAbs : Nat) : Int), (d.natAbs : Int) / ((Nat.gcd n.natAbs d.natAbs : Nat) : Int), 0) := by
  unfold mk
  rw [if_neg hd]
  generalize Nat.gcd n.natAbs d.natAbs = g
  rw [← Int.natCast_ediv, ← Int.natCast_ediv]
  generalize n.natAbs / g = a
  generalize d.natAbs / g = b
  by_cases h : 1099511627776 < a ∨ 1048576 < b
  · have h' : 1099511627776 < (a : Int) ∨ 1048576 < (b : Int) := by omega
    rw [if_pos h, if_pos h']
  · have h' : ¬ (1099511627776 < (a : Int) ∨ 1048576 < (b : Int)) := by omega
    rw [if_neg h, if_neg h']
end Go.Proofs.YtlinldbbhdpgcaaGreatDoor
