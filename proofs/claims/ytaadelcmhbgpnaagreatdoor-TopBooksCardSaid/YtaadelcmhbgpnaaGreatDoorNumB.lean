/-
  THE WALKS OF Valid AND Make, THE PROGRAM'S AND THE REFERENCE'S.
-/
import Derived.Test.YtaadelcmhbgpnaaGreatDoorNumA
namespace Go.Proofs.YtaadelcmhbgpnaaGreatDoor
open Go.RowKit
theorem bcell {B : Nat} {W w1 : World} (hb : Below B W w1) : (∀ b o, b < B → w1.cell? ⟨b, o, none⟩ = W.cell? ⟨b, o, none⟩) ∧ (∀ b o, b < B → w1.frozen? ⟨b, o, none⟩ = W.frozen? ⟨b, o, none⟩) :=
  ⟨fun b o h => hb.cell (p := ⟨b, o, none⟩) h, fun b o h => hb.frozen (p := ⟨b, o, none⟩) h⟩
theorem below_step {B B1 : Nat} {w W w1 : World} (h1 : Below B1 W w1) (h : Below B w W) (hB : B ≤ B1) : Below B w w1 := h.trans (h1.mono hB)
/-- Block b holds two cells, x and y, and may be written. -/
def Box2 (w : World) (b : Nat) (x y : Value) : Prop :=
  w.cell? ⟨b, 0, none⟩ = some x ∧ w.cell? ⟨b, 1, none⟩ = some y ∧ w.frozen? ⟨b, 0, none⟩ = false ∧ w.frozen? ⟨b, 1, none⟩ = false ∧ b < w.heap.size
theorem Box2.below {B b : Nat} {W w1 : World} {x y : Value} (hb : Below B W w1) (hB : b < B) (h : Box2 W b x y) : Box2 w1 b x y := by
  obtain ⟨h1, h2, h3, h4, h5⟩ := h
  exact ⟨(hb.cell (p := ⟨b, 0, none⟩) hB).trans h1, (hb.cell (p := ⟨b, 1, none⟩) hB).trans h2, (hb.frozen (p := ⟨b, 0, none⟩) hB).trans h3, (hb.frozen (p := ⟨b, 1, none⟩) hB).trans h4, Nat.lt_of_lt_of_le h5 hb.size⟩
theorem Box2.keep {b : Nat} {W w1 : World} {x y : Value} (hb : Below W.heap.size W w1) (h : Box2 W b x y) : Box2 w1 b x y := h.below hb h.2.2.2.2
theorem Box2.drewN {b : Nat} {w : World} {x y : Value} (h : Box2 w b x y) (n : Nat) : Box2 (w.drewN n) b x y := h
theorem Box2.drew {b : Nat} {w : World} {x y : Value} (h : Box2 w b x y) : Box2 w.drew b x y := h
theorem Box2.alloc {b : Nat} {w : World} {x y : Value} (h : Box2 w b x y) (o : Obj) : Box2 (w.alloc o) b x y :=
  h.below ((Below.refl w.heap.size w).alloc (Nat.le_refl _) o) h.2.2.2.2
theorem Box2.new (w : World) (x y : Value) (t : TypeId) : Box2 (w.alloc (.cells #[x, y] t)) w.heap.size x y := by
  refine ⟨by simp, by simp, by simp, by simp, by simp⟩
theorem Box2.new1 (w : World) (o : Obj) (x y : Value) (t : TypeId) : Box2 ((w.alloc o).alloc (.cells #[x, y] t)) (w.heap.size + 1) x y := by
  have := Box2.new (w.alloc o) x y t
  rwa [World.size_alloc] at this
theorem Box2.new2 (w : World) (o o' : Obj) (x y : Value) (t : TypeId) : Box2 (((w.alloc o).alloc o').alloc (.cells #[x, y] t)) (w.heap.size + 1 + 1) x y := by
  have := Box2.new1 (w.alloc o) o' x y t
  rwa [World.size_alloc] at this
theorem Box2.setCell {b : Nat} {w : World} {x y : Value} (h : Box2 w b x y) {p : Addr} (hp : b ≠ p.block) (u : Value) : Box2 (w.setCell p u) b x y := by
  obtain ⟨h1, h2, h3, h4, h5⟩ := h
  have hh := Below.heap_setCell w p u b hp
  exact ⟨(World.cell?_of_block (a := ⟨b, 0, none⟩) hh).trans h1, (World.cell?_of_block (a := ⟨b, 1, none⟩) hh).trans h2, (World.frozen?_of_block (a := ⟨b, 0, none⟩) hh).trans h3, (World.frozen?_of_block (a := ⟨b, 1, none⟩) hh).trans h4, by simpa [World.setCell] using h5⟩
theorem below_lt {B : Nat} {W w1 : World} (hb : Below B W w1) (n : Nat) (h : W.heap.size = n) : n ≤ w1.heap.size := by rw [← h]; exact hb.size
theorem below_drewN {B : Nat} {a w : World} (h : Below B a w) (n : Nat) : Below B a (w.drewN n) := ⟨h.os, h.tape, h.output, h.size, h.block⟩
theorem vld_false {n d : Int} (h : ¬ (1 ≤ d ∧ d ≤ 1048576 ∧ -1099511627776 ≤ n ∧ n ≤ 1099511627776 ∧ Nat.gcd n.natAbs d.natAbs = 1)) : vld n d = false := decide_eq_false h
theorem ret_bool {a b : Bool} (h : a = b) : Ending.returned (.bool a) = .returned (.bool b) := by rw [h]
theorem vld_last {n d : Int} (c1 : 1 ≤ d) (c2 : d ≤ 1048576) (c3 : -1099511627776 ≤ n) (c4 : n ≤ 1099511627776) : (((Nat.gcd n.natAbs d.natAbs : Nat) : Int) == 1) = vld n d := by
  rw [Bool.eq_iff_iff, vld_iff, beq_iff_eq]
  constructor
  · intro h; exact ⟨c1, c2, c3, c4, by omega⟩
  · rintro ⟨-, -, -, -, h⟩; omega
theorem valid_any (n d : Int) (h1 : -9223372036854775808 ≤ n) (h2 : n ≤ 9223372036854775807) (h3 : -9223372036854775808 ≤ d) (h4 : d ≤ 9223372036854775807) (w : World) :
    Calls Tryz.prog 62 #[.agg #[.int .i64 n, .int .i64 d]] w fun e w' => e = .returned (.bool (vld n d)) ∧ Below w.heap.size w w' := by
  by_cases c1 : 1 ≤ d
  · by_cases c2 : d ≤ 1048576
    · by_cases c3 : -1099511627776 ≤ n
      · by_cases c4 : n ≤ 1099511627776
        · go_enter Tryz.func62, Tryz.ntmps62
          go_wp2
          go_quiet ((first | (go_at_call 83; exact Calls.quiet_of_same ((abs_any _ (by omega) (by omega) _).mono fun _ _ h => ⟨h.1, h.2.symm⟩)) | (go_at_call 82; exact Calls.quiet_of (gcd_any _ _ _ (by omega) (by omega)))))
          go_wp2
          go_ret
          exact ⟨ret_bool (vld_last c1 c2 c3 c4), below_drewN ((Below.refl _ _).alloc (Nat.le_refl _) _) _⟩
        · have e2 : decide (n ≤ 1099511627776) = false := decide_eq_false c4
          go_enter Tryz.func62, Tryz.ntmps62
          go_wp2
          go_quiet (fail)
          go_wp2
          go_ret
          exact ⟨by rw [vld_false (by omega)]; rfl, below_drewN ((Below.refl _ _).alloc (Nat.le_refl _) _) _⟩
      · have e2 : decide (-1099511627776 ≤ n) = false := decide_eq_false c3
        go_enter Tryz.func62, Tryz.ntmps62
        go_wp2
        go_quiet (fail)
        go_wp2
        go_ret
        exact ⟨by rw [vld_false (by omega)]; rfl, below_drewN ((Below.refl _ _).alloc (Nat.le_refl _) _) _⟩
    · have e2 : decide (d ≤ 1048576) = false := decide_eq_false c2
      go_enter Tryz.func62, Tryz.ntmps62
      go_wp2
      go_quiet (fail)
      go_wp2
      go_ret
      exact ⟨by rw [vld_false (by omega)]; rfl, below_drewN ((Below.refl _ _).alloc (Nat.le_refl _) _) _⟩
  · have e2 : decide (1 ≤ d) = false := decide_eq_false c1
    go_enter Tryz.func62, Tryz.ntmps62
    go_wp2
    go_quiet (fail)
    go_wp2
    go_ret
    exact ⟨by rw [vld_false (by omega)]; rfl, below_drewN ((Below.refl _ _).alloc (Nat.le_refl _) _) _⟩
theorem ret_rat {a b c d e f : Int} (h : (a, b, c) = (d, e, f)) : Ending.returned (.tuple #[.agg #[.int .i64 a, .int .i64 b], .int .i64 c]) = .returned (.tuple #[.agg #[.int .i64 d, .int .i64 e], .int .i64 f]) := by
  simp only [Prod.mk.injEq] at h
  obtain ⟨rfl, rfl, rfl⟩ := h
  rfl
theorem bne_not_beq (a b : Bool) : (a != b) = (!(a == b)) := rfl
theorem mk_int {n d : Int} (hd : d ≠ 0) : mk n d = if 1099511627776 < (n.natAbs : Int) / ((Nat.gcd n.natAbs d.natAbs : Nat) : Int) ∨ 1048576 < (d.natAbs : Int) / ((Nat.gcd n.natAbs d.natAbs : Nat) : Int) then (0, 0, 4)
    else if (decide (n < 0) != decide (d < 0)) = true then (-((n.natAbs : Int) / ((Nat.gcd n.natAbs d.natAbs : Nat) : Int)), (d.natAbs : Int) / ((Nat.gcd n.natAbs d.natAbs : Nat) : Int), 0)
    else ((n.natAbs : Int) / ((Nat.gcd n.natAbs d.natAbs : Nat) : Int), (d.natAbs : Int) / ((Nat.gcd n.natAbs d.natAbs : Nat) : Int), 0) := by
  unfold mk
  rw [if_neg hd]
  generalize Nat.gcd n.natAbs d.natAbs = g
  rw [← Int.natCast_ediv, ← Int.natCast_ediv]
  generalize n.natAbs / g = a
  generalize d.natAbs / g = b
  by_cases h : 1099511627776 < a ∨ 1048576 < b
  · have h' : 1099511627776 < (a : Int) ∨ 1048576 < (b : Int) := by omega
    rw [if_pos h, if_pos h']
  · have h' : ¬ (1099511627776 < (a : Int) ∨ 1048576 < (b : Int)) := by omega
    rw [if_neg h, if_neg h']
set_option maxHeartbeats 2000000 in
theorem make_any (n d p q z : Int) (hm : mk n d = (p, q, z)) (h1 : -9223372036854775808 ≤ n) (h2 : n ≤ 9223372036854775807) (h3 : -9223372036854775808 ≤ d) (h4 : d ≤ 9223372036854775807) (w : World) :
    Calls Tryz.prog 84 #[.int .i64 n, .int .i64 d] w fun e w' => e = .returned (.tuple #[.agg #[.int .i64 p, .int .i64 q], .int .i64 z]) ∧ Below w.heap.size w w' := by
  have H := Lib.hid hm
  clear hm
  by_cases c0 : d = 0
  · subst c0
    go_enter Tryz.func84, Tryz.ntmps84
    go_wp2
    go_returns
    exact ⟨ret_rat (by rw [← H.out]; rfl), (by repeat' (first | (with_reducible exact Below.refl _ _) | (with_reducible assumption) | (with_reducible refine below_drewN ?_ _) | (with_reducible refine below_step (by assumption) ?_ ?_) | (with_reducible refine Below.alloc ?_ ?_ _) | (with_reducible refine Below.setCell ?_ ?_ _) | (with_reducible refine Below.drew ?_) | go_size | (exact Below.size (by assumption)) | (refine Nat.le_trans (Below.size (by assumption)) ?_)))⟩
  · have hg : 0 < Nat.gcd n.natAbs d.natAbs := Nat.gcd_pos_of_pos_right _ (by omega)
    have e0 : (d == 0) = false := by rw [beq_eq_false_iff_ne]; exact c0
    have hn : n.natAbs < 18446744073709551616 := by omega
    have hd : d.natAbs < 18446744073709551616 := by omega
    have hmk := mk_int (n := n) c0
    obtain ⟨g, hG⟩ : ∃ g, Nat.gcd n.natAbs d.natAbs = g := ⟨_, rfl⟩
    rw [hG] at hg hmk
    have HG := Lib.hid hG
    clear hG
    rw [H.out] at hmk
    have HM := Lib.hid hmk
    clear hmk
    have g0 : ¬ (g : Int) = 0 := by omega
    have ga : 0 ≤ (n.natAbs : Int) / (g : Int) := Int.ediv_nonneg (by omega) (by omega)
    have gb : 0 ≤ (d.natAbs : Int) / (g : Int) := Int.ediv_nonneg (by omega) (by omega)
    have la : (n.natAbs : Int) / (g : Int) ≤ n.natAbs := Int.ediv_le_self _ (by omega)
    have lb : (d.natAbs : Int) / (g : Int) ≤ d.natAbs := Int.ediv_le_self _ (by omega)
    have wa : IntKind.u64.wrap ((n.natAbs : Int) / (g : Int)) = (n.natAbs : Int) / (g : Int) := IntWalk.u64_in _ ⟨ga, by omega⟩
    have wb : IntKind.u64.wrap ((d.natAbs : Int) / (g : Int)) = (d.natAbs : Int) / (g : Int) := IntWalk.u64_in _ ⟨gb, by omega⟩
    by_cases c1 : 1099511627776 < (n.natAbs : Int) / (g : Int)
    · go_enter Tryz.func84, Tryz.ntmps84
      go_wp2_with (first | (go_at_call 83; refine (abs_any _ (by omega) (by omega) _).mono ?_; rintro e w' ⟨rfl, rfl⟩) | (go_at_call 82; refine (gcd_any _ _ _ (by omega) (by omega)).mono ?_; rintro e w' ⟨rfl, m, rfl⟩; rw [HG.out]))
      go_quiet (fail)
      go_wp2
      go_returns
      exact ⟨ret_rat (by rw [HM.out, if_pos (.inl c1)]), (by repeat' (first | (with_reducible exact Below.refl _ _) | (with_reducible assumption) | (with_reducible refine below_drewN ?_ _) | (with_reducible refine below_step (by assumption) ?_ ?_) | (with_reducible refine Below.alloc ?_ ?_ _) | (with_reducible refine Below.setCell ?_ ?_ _) | (with_reducible refine Below.drew ?_) | go_size | (exact Below.size (by assumption)) | (refine Nat.le_trans (Below.size (by assumption)) ?_)))⟩
    · by_cases c2 : 1048576 < (d.natAbs : Int) / (g : Int)
      · go_enter Tryz.func84, Tryz.ntmps84
        go_wp2_with (first | (go_at_call 83; refine (abs_any _ (by omega) (by omega) _).mono ?_; rintro e w' ⟨rfl, rfl⟩) | (go_at_call 82; refine (gcd_any _ _ _ (by omega) (by omega)).mono ?_; rintro e w' ⟨rfl, m, rfl⟩; rw [HG.out]))
        go_quiet (fail)
        go_wp2
        go_returns
        exact ⟨ret_rat (by rw [HM.out, if_pos (.inr c2)]), (by repeat' (first | (with_reducible exact Below.refl _ _) | (with_reducible assumption) | (with_reducible refine below_drewN ?_ _) | (with_reducible refine below_step (by assumption) ?_ ?_) | (with_reducible refine Below.alloc ?_ ?_ _) | (with_reducible refine Below.setCell ?_ ?_ _) | (with_reducible refine Below.drew ?_) | go_size | (exact Below.size (by assumption)) | (refine Nat.le_trans (Below.size (by assumption)) ?_)))⟩
      · have hno : ¬ (1099511627776 < (n.natAbs : Int) / (g : Int) ∨ 1048576 < (d.natAbs : Int) / (g : Int)) := by omega
        rw [if_neg hno] at HM
        cases hc : (!(decide (n < 0) == decide (d < 0)))
        · rw [if_neg (by rw [bne_not_beq, hc]; decide)] at HM
          go_enter Tryz.func84, Tryz.ntmps84
          go_wp2_with (first | (go_at_call 83; refine (abs_any _ (by omega) (by omega) _).mono ?_; rintro e w' ⟨rfl, rfl⟩) | (go_at_call 82; refine (gcd_any _ _ _ (by omega) (by omega)).mono ?_; rintro e w' ⟨rfl, m, rfl⟩; rw [HG.out]))
          go_quiet (fail)
          go_wp2
          go_returns
          exact ⟨ret_rat HM.out.symm, (by repeat' (first | (with_reducible exact Below.refl _ _) | (with_reducible assumption) | (with_reducible refine below_drewN ?_ _) | (with_reducible refine below_step (by assumption) ?_ ?_) | (with_reducible refine Below.alloc ?_ ?_ _) | (with_reducible refine Below.setCell ?_ ?_ _) | (with_reducible refine Below.drew ?_) | go_size | (exact Below.size (by assumption)) | (refine Nat.le_trans (Below.size (by assumption)) ?_)))⟩
        · rw [if_pos (by rw [bne_not_beq, hc])] at HM
          go_enter Tryz.func84, Tryz.ntmps84
          go_wp2_with (first | (go_at_call 83; refine (abs_any _ (by omega) (by omega) _).mono ?_; rintro e w' ⟨rfl, rfl⟩) | (go_at_call 82; refine (gcd_any _ _ _ (by omega) (by omega)).mono ?_; rintro e w' ⟨rfl, m, rfl⟩; rw [HG.out]))
          go_quiet (fail)
          go_wp2
          go_returns
          exact ⟨ret_rat HM.out.symm, (by repeat' (first | (with_reducible exact Below.refl _ _) | (with_reducible assumption) | (with_reducible refine below_drewN ?_ _) | (with_reducible refine below_step (by assumption) ?_ ?_) | (with_reducible refine Below.alloc ?_ ?_ _) | (with_reducible refine Below.setCell ?_ ?_ _) | (with_reducible refine Below.drew ?_) | go_size | (exact Below.size (by assumption)) | (refine Nat.le_trans (Below.size (by assumption)) ?_)))⟩
end Go.Proofs.YtaadelcmhbgpnaaGreatDoor
