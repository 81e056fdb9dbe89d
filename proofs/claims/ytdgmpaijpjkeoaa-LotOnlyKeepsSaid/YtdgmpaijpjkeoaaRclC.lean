/-
  THE LAW'S sameInts, of equal lists.
-/
import Derived.Test.YtdgmpaijpjkeoaaCalB
namespace Go.Proofs.Ytdgmpaijpjkeoaa
open Go.RowKit
set_option maxRecDepth 100000 in
theorem sameInts_any (A : Option Addr) (n c : Nat) (B : Option Addr) (d : Nat) (xs : List Int) (w : World) (hx : IsL w A n xs) (hy : IsL w B n xs) (hn : n ≤ 4611686018427387904) :
    Calls Try.prog 45 #[.slice A n c, .slice B n d] w fun e w' => e = .returned (.bool true) ∧ Below w.heap.size w w' := by
  go_enter Try.func45, Try.ntmps45
  go_wp2
  go_loopw [5] (fun i wr => ∃ (k e : Nat), i = .int .i64 k ∧ wr = w.drewN e ∧ k ≤ n) (fun i _ => n - (intOf i).toNat)
  case atStart => exact ⟨0, 0, rfl, rfl, by omega⟩
  case round =>
    obtain ⟨k, e, rfl, rfl, hk⟩ := hrel
    by_cases hlt : k < n
    · obtain ⟨g1, o1, e1, -, h1⟩ := hx.2 (by omega)
      obtain ⟨g2, o2, e2, -, h2⟩ := hy.2 (by omega)
      have q1 := h1 k hlt
      have q2 := h2 k hlt
      obtain ⟨x, hxx⟩ : ∃ x, xs.getD k 0 = x := ⟨_, rfl⟩
      rw [hxx] at q1 q2
      have hbe : (x != x) = false := by simp
      subst e1 e2
      clear h1 h2 hxx hx hy
      go_wp2
      go_quiet (fail)
      go_wp2
      go_roundw
      case rel => exact ⟨k + 1, _, by go_num, rfl, by omega⟩
      case measure => simp [intOf]; omega
    · obtain rfl : k = n := by omega
      go_wp2
      go_ret
      exact ⟨rfl, below_drewN (Below.refl _ _) e⟩
end Go.Proofs.Ytdgmpaijpjkeoaa
