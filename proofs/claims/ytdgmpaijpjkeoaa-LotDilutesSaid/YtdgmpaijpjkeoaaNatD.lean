/-
  NATURALS OF TWENTY WORDS: compare, length.
-/
import Derived.Test.YtdgmpaijpjkeoaaNatC
namespace Go.Proofs.Ytdgmpaijpjkeoaa
open Go.RowKit
/-- -1, 0 or 1 as a is below, equal to or above b. -/
def cmpN (a b : Nat) : Int := if a < b then -1 else if b < a then 1 else 0
theorem top_zero {a : Nat} (h : a < 4294967296 ^ 20) : a / 4294967296 ^ 20 = 0 := Nat.div_eq_of_lt h
set_option maxRecDepth 100000 in
set_option maxHeartbeats 400000 in
theorem nat_compare (a b : Nat) (ha : a < 4294967296 ^ 20) (hb : b < 4294967296 ^ 20) (w : World) :
    Calls Try.prog 103 #[natV a, natV b] w fun e w' => e = .returned (.int .i64 (cmpN a b)) ∧ Below w.heap.size w w' := by
  unfold natV
  obtain ⟨c, hc⟩ : ∃ c, c = natC a := ⟨_, rfl⟩
  obtain ⟨f, hf⟩ : ∃ e, e = natC b := ⟨_, rfl⟩
  rw [← hc, ← hf]
  have HC := Lib.hid hc
  have HE := Lib.hid hf
  have hcs : c.size = 20 := by rw [hc]; exact natC_size _
  have hfs : f.size = 20 := by rw [hf]; exact natC_size _
  have HT := Lib.hid ((top_zero ha).trans (top_zero hb).symm)
  clear hc hf ha hb
  go_enter Try.func103, Try.ntmps103
  go_wp2
  go_loopw [5] (fun i wr => ∃ k nd : Nat, i = .int .i64 ((k : Int) - 1) ∧ k ≤ 20 ∧ Hid (a / 4294967296 ^ k = b / 4294967296 ^ k) ∧ wr = ((w.alloc (.cells c 77)).alloc (.cells f 77)).drewN nd) (fun i _ => (intOf i + 1).toNat)
  case atStart => exact ⟨20, 0, rfl, by omega, HT, rfl⟩
  case round =>
    obtain ⟨k, nd, rfl, hk, hu, rfl⟩ := hrel
    cases k with
    | zero =>
      have hab : a = b := by have := hu.out; simpa using this
      have HAB := Lib.hid (show cmpN a b = 0 by rw [hab, cmpN, if_neg (by omega), if_neg (by omega)])
      clear hab
      go_wp2
      go_ret
      exact ⟨by rw [HAB.out]; rfl, (by repeat' (first | (with_reducible exact Below.refl _ _) | (with_reducible assumption) | (with_reducible refine below_drewN ?_ _) | (with_reducible refine below_step (by assumption) ?_ ?_) | (with_reducible refine Below.alloc ?_ ?_ _) | (with_reducible refine Below.setCell ?_ ?_ _) | (with_reducible refine Below.drew ?_) | go_size | (exact Below.size (by assumption)) | (refine Nat.le_trans (Below.size (by assumption)) ?_)))⟩
    | succ k =>
      rw [show ((k + 1 : Nat) : Int) - 1 = (k : Int) by omega]
      have hk2 : k < 20 := by omega
      obtain ⟨d, hd⟩ : ∃ d, d = dg a k := ⟨_, rfl⟩
      obtain ⟨x, hx⟩ : ∃ x, x = dg b k := ⟨_, rfl⟩
      have hq : c[k] = .int .u32 d := Option.some.inj ((Array.getElem?_eq_getElem (by omega)).symm.trans (by rw [HC.out, hd]; exact natC_at hk2))
      have hq2 : f[k] = .int .u32 x := Option.some.inj ((Array.getElem?_eq_getElem (by omega)).symm.trans (by rw [HE.out, hx]; exact natC_at hk2))
      have HD := Lib.hid hd
      have HX := Lib.hid hx
      clear hd hx
      rcases Nat.lt_trichotomy d x with h | h | h
      · have HAB := Lib.hid (show cmpN a b = -1 by rw [cmpN, if_pos (cmp_lt hu.out (by rw [← HD.out, ← HX.out]; exact h))])
        have d1 : decide ((d : Int) < (x : Int)) = true := decide_eq_true (by omega)
        go_wp2
        go_quiet (fail)
        go_wp2
        go_ret
        exact ⟨by rw [HAB.out]; rfl, (by repeat' (first | (with_reducible exact Below.refl _ _) | (with_reducible assumption) | (with_reducible refine below_drewN ?_ _) | (with_reducible refine below_step (by assumption) ?_ ?_) | (with_reducible refine Below.alloc ?_ ?_ _) | (with_reducible refine Below.setCell ?_ ?_ _) | (with_reducible refine Below.drew ?_) | go_size | (exact Below.size (by assumption)) | (refine Nat.le_trans (Below.size (by assumption)) ?_)))⟩
      · subst h
        have HU := Lib.hid (up_same hu.out (by rw [← HD.out, ← HX.out]))
        go_wp2
        go_quiet (fail)
        go_wp2
        go_quiet (fail)
        go_wp2
        go_roundw
        case rel => exact ⟨k, _, by go_num, by omega, HU, rfl⟩
        case measure => simp [intOf]
      · have hlt := cmp_lt hu.out.symm (by rw [← HD.out, ← HX.out]; exact h)
        have HAB := Lib.hid (show cmpN a b = 1 by rw [cmpN, if_neg (by omega), if_pos hlt])
        clear hlt
        have d1 : decide ((d : Int) < (x : Int)) = false := decide_eq_false (by omega)
        go_wp2
        go_quiet (fail)
        go_wp2
        go_quiet (fail)
        go_wp2
        go_ret
        exact ⟨by rw [HAB.out]; rfl, (by repeat' (first | (with_reducible exact Below.refl _ _) | (with_reducible assumption) | (with_reducible refine below_drewN ?_ _) | (with_reducible refine below_step (by assumption) ?_ ?_) | (with_reducible refine Below.alloc ?_ ?_ _) | (with_reducible refine Below.setCell ?_ ?_ _) | (with_reducible refine Below.drew ?_) | go_size | (exact Below.size (by assumption)) | (refine Nat.le_trans (Below.size (by assumption)) ?_)))⟩
end Go.Proofs.Ytdgmpaijpjkeoaa
