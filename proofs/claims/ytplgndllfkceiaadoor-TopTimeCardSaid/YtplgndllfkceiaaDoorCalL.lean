/-
  Many: WHETHER A CALENDAR HAS LONG LISTS.
-/
import Derived.Test.YtplgndllfkceiaaDoorCalG
namespace Go.Proofs.YtplgndllfkceiaaDoor
open Go.RowKit
theorem many_any (K : Cal) (w : World) :
    Calls Tryd.prog 5 #[K.v] w fun e w' => e = .returned (.bool (decide (100 < K.n1) || decide (200 < K.n2))) ∧ Below w.heap.size w w' := by
  obtain ⟨s, e, A1, n1, m1, A2, n2, m2, ls, ld⟩ := K
  simp only [Cal.v]
  by_cases c0 : 100 < n1
  · go_enter Tryd.func5, Tryd.ntmps5
    go_wp2
    go_ret
    exact ⟨ret_bool2 (by simp), (by repeat' (first | (with_reducible exact Below.refl _ _) | (with_reducible assumption) | (with_reducible refine below_drewN ?_ _) | (with_reducible refine below_step (by assumption) ?_ ?_) | (with_reducible refine Below.alloc ?_ ?_ _) | (with_reducible refine Below.setCell ?_ ?_ _) | (with_reducible refine Below.drew ?_) | go_size | (exact Below.size (by assumption)) | (refine Nat.le_trans (Below.size (by assumption)) ?_)))⟩
  · have c1 : decide (100 < n1) = false := decide_eq_false c0
    go_enter Tryd.func5, Tryd.ntmps5
    go_wp2
    go_ret
    exact ⟨ret_bool2 (by rw [Bool.eq_iff_iff]; simp; omega), (by repeat' (first | (with_reducible exact Below.refl _ _) | (with_reducible assumption) | (with_reducible refine below_drewN ?_ _) | (with_reducible refine below_step (by assumption) ?_ ?_) | (with_reducible refine Below.alloc ?_ ?_ _) | (with_reducible refine Below.setCell ?_ ?_ _) | (with_reducible refine Below.drew ?_) | go_size | (exact Below.size (by assumption)) | (refine Nat.le_trans (Below.size (by assumption)) ?_)))⟩
/-- What a row knows of a calendar. -/
structure CalPre (w : World) (k : Cal) : Prop where
  l1 : IsL w k.A1 k.n1 k.rs
  l2 : IsL w k.A2 k.n2 k.hs
  s1 : -9223372036854775808 ≤ k.s
  s2 : k.s ≤ 9223372036854775807
  e1 : -9223372036854775808 ≤ k.e
  e2 : k.e ≤ 9223372036854775807
theorem CalPre.ok {w : World} {k : Cal} (h : CalPre w k) (hn : ¬ (100 < k.n1 ∨ 200 < k.n2)) : CalIn w k := ⟨h.l1, h.l2, by omega, by omega, h.s1, h.s2, h.e1, h.e2⟩
end Go.Proofs.YtplgndllfkceiaaDoor
