/-
  THE REFERENCE: within, modulo, color, Validate.
-/
import Derived.Test.YtgmokojdlbdjeaaDoorPatG
namespace Go.Proofs.YtgmokojdlbdjeaaDoor
open Go.RowKit
attribute [local go_sem] grow_cell grow_frozen
theorem mod_once {x n : Int} : (x.tmod n + n) % n = x % n := by
  rw [Int.add_emod_right]
  have h2 := Int.mul_tdiv_add_tmod x n
  rw [show x.tmod n = x - n * x.tdiv n by omega, Int.sub_mul_emod_self_left]
theorem mod_twice {x n : Int} (hn : 0 < n) : (x.tmod n + n).tmod n = x % n := by
  have h1 := tmod_gt x hn
  rw [Int.tmod_eq_emod_of_nonneg (by omega), Int.add_emod_right]
  have h2 := Int.mul_tdiv_add_tmod x n
  rw [show x.tmod n = x - n * x.tdiv n by omega, Int.sub_mul_emod_self_left]
/-- A pattern of any size. -/
structure PatW (p : PatD) : Prop where
  a0 : 0 < p.a
  a1 : p.a ≤ 30000000
  b0 : 0 ≤ p.b
  b1 : p.b ≤ 30000000
  c0 : 0 < p.c
  c1 : p.c ≤ 30000000
  len : p.a * p.c = p.xs.length
  sz : p.xs.length ≤ 1000000000
theorem PatOK.wide {p : PatD} (h : PatOK p) : PatW p := by
  obtain ⟨a0, a1, b0, b1, c0, c1, hl⟩ := h
  have : p.a * p.c ≤ 2000 * 2000 := Int.mul_le_mul a1 c1 (by omega) (by omega)
  exact ⟨a0, by omega, b0, by omega, c0, by omega, hl, by omega⟩
theorem PatW.base {p : PatD} (h : PatW p) : Base (colF p) p.a p.b p.c := by
  obtain ⟨a, b, c, xs⟩ := p
  obtain ⟨a0, -, -, -, c0, -, -, -⟩ := h
  simp only at a0 c0
  refine ⟨a0, c0, fun x y => ?_, fun x y => ?_⟩
  · unfold colF homeX
    simp only [Int.add_zero]
    rw [show x + a - y / c * b = x - y / c * b + a by omega, Int.add_emod_right]
  · unfold colF homeX
    simp only [Int.add_emod_right]
    rw [Int.add_ediv_of_dvd_right (Int.dvd_refl c), Int.ediv_self (show c ≠ 0 by omega), Int.add_mul, Int.one_mul, show x + b - (y / c * b + b) = x - y / c * b by omega]
theorem div_rem {y c : Int} (hc : 0 < c) : (y - y % c).tdiv c = y / c := by
  have e := Int.mul_ediv_add_emod y c
  rw [show y - y % c = c * (y / c) by omega, Int.mul_tdiv_cancel_left _ (by omega)]
end Go.Proofs.YtgmokojdlbdjeaaDoor
/-
  THE REFERENCE: period.
-/
namespace Go.Proofs.YtgmokojdlbdjeaaDoor
open Go.RowKit
attribute [local go_sem] grow_cell grow_frozen
attribute [local irreducible] plainUpon stepC
end Go.Proofs.YtgmokojdlbdjeaaDoor
