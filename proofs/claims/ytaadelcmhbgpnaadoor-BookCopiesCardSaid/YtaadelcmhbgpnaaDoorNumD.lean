/-
  THE WALKS OF THE REFERENCE'S build AND Make.
-/
import Derived.Test.YtaadelcmhbgpnaaDoorNumB
namespace Go.Proofs.YtaadelcmhbgpnaaDoor
open Go.RowKit
theorem mkN_int (neg : Bool) (n d : Nat) : mkN neg n d = if 1099511627776 < (n : Int) / ((Nat.gcd n d : Nat) : Int) ∨ 1048576 < (d : Int) / ((Nat.gcd n d : Nat) : Int) then (0, 0, 4)
    else if neg = true then (-((n : Int) / ((Nat.gcd n d : Nat) : Int)), (d : Int) / ((Nat.gcd n d : Nat) : Int), 0)
    else ((n : Int) / ((Nat.gcd n d : Nat) : Int), (d : Int) / ((Nat.gcd n d : Nat) : Int), 0) := by
  unfold mkN
  generalize Nat.gcd n d = g
  rw [← Int.natCast_ediv, ← Int.natCast_ediv]
  generalize n / g = a
  generalize d / g = b
  by_cases h : 1099511627776 < a ∨ 1048576 < b
  · have h' : 1099511627776 < (a : Int) ∨ 1048576 < (b : Int) := by omega
    rw [if_pos h, if_pos h']
  · have h' : ¬ (1099511627776 < (a : Int) ∨ 1048576 < (b : Int)) := by omega
    rw [if_neg h, if_neg h']
theorem ret_ratb {a b z d e z' : Int} {c : Bool} (h : (a, b, z) = (d, e, z')) (hc : c = decide (z = 0)) : Ending.returned (.tuple #[.agg #[.int .i64 a, .int .i64 b], .bool c]) = .returned (.tuple #[.agg #[.int .i64 d, .int .i64 e], .bool (decide (z' = 0))]) := by
  simp only [Prod.mk.injEq] at h
  obtain ⟨rfl, rfl, rfl⟩ := h
  rw [hc]
set_option maxHeartbeats 2000000 in
theorem build_any (neg : Bool) (n d : Nat) (p q z : Int) (hd : 0 < d) (hm : mkN neg n d = (p, q, z)) (h2 : n < 18446744073709551616) (h4 : d < 18446744073709551616) (w : World) :
    Calls Tryd.prog 74 #[.bool neg, .int .u64 n, .int .u64 d] w fun e w' => e = .returned (.tuple #[.agg #[.int .i64 p, .int .i64 q], .bool (decide (z = 0))]) ∧ Below w.heap.size w w' := by
  have hg : 0 < Nat.gcd n d := Nat.gcd_pos_of_pos_right _ hd
  rw [mkN_int] at hm
  obtain ⟨g, hG⟩ : ∃ g, Nat.gcd n d = g := ⟨_, rfl⟩
  rw [hG] at hg hm
  have HG := Lib.hid hG
  clear hG
  have g0 : ¬ (g : Int) = 0 := by omega
  have ga : 0 ≤ (n : Int) / (g : Int) := Int.ediv_nonneg (by omega) (by omega)
  have gb : 0 ≤ (d : Int) / (g : Int) := Int.ediv_nonneg (by omega) (by omega)
  have la : (n : Int) / (g : Int) ≤ n := Int.ediv_le_self _ (by omega)
  have lb : (d : Int) / (g : Int) ≤ d := Int.ediv_le_self _ (by omega)
  have wa : IntKind.u64.wrap ((n : Int) / (g : Int)) = (n : Int) / (g : Int) := IntWalk.u64_in _ ⟨ga, by omega⟩
  have wb : IntKind.u64.wrap ((d : Int) / (g : Int)) = (d : Int) / (g : Int) := IntWalk.u64_in _ ⟨gb, by omega⟩
  by_cases c1 : 1099511627776 < (n : Int) / (g : Int)
  · rw [if_pos (.inl c1)] at hm
    have HM := Lib.hid hm
    clear hm
    go_enter Tryd.func74, Tryd.ntmps74
    go_wp2_with ((go_at_call 72; refine (rgcd_any _ _ _ (by omega) (by omega)).mono ?_; rintro e w' ⟨rfl, m, rfl⟩; rw [HG.out]))
    go_quiet (fail)
    go_wp2
    go_returns
    exact ⟨ret_ratb HM.out (by rfl), (by repeat' (first | (with_reducible exact Below.refl _ _) | (with_reducible assumption) | (with_reducible refine below_drewN ?_ _) | (with_reducible refine below_step (by assumption) ?_ ?_) | (with_reducible refine Below.alloc ?_ ?_ _) | (with_reducible refine Below.setCell ?_ ?_ _) | (with_reducible refine Below.drew ?_) | go_size | (exact Below.size (by assumption)) | (refine Nat.le_trans (Below.size (by assumption)) ?_)))⟩
  · by_cases c2 : 1048576 < (d : Int) / (g : Int)
    · rw [if_pos (.inr c2)] at hm
      have HM := Lib.hid hm
      clear hm
      go_enter Tryd.func74, Tryd.ntmps74
      go_wp2_with ((go_at_call 72; refine (rgcd_any _ _ _ (by omega) (by omega)).mono ?_; rintro e w' ⟨rfl, m, rfl⟩; rw [HG.out]))
      go_quiet (fail)
      go_wp2
      go_returns
      exact ⟨ret_ratb HM.out (by rfl), (by repeat' (first | (with_reducible exact Below.refl _ _) | (with_reducible assumption) | (with_reducible refine below_drewN ?_ _) | (with_reducible refine below_step (by assumption) ?_ ?_) | (with_reducible refine Below.alloc ?_ ?_ _) | (with_reducible refine Below.setCell ?_ ?_ _) | (with_reducible refine Below.drew ?_) | go_size | (exact Below.size (by assumption)) | (refine Nat.le_trans (Below.size (by assumption)) ?_)))⟩
    · have hno : ¬ (1099511627776 < (n : Int) / (g : Int) ∨ 1048576 < (d : Int) / (g : Int)) := by omega
      rw [if_neg hno] at hm
      cases neg
      · rw [if_neg (by decide)] at hm
        have HM := Lib.hid hm
        clear hm
        go_enter Tryd.func74, Tryd.ntmps74
        go_wp2_with ((go_at_call 72; refine (rgcd_any _ _ _ (by omega) (by omega)).mono ?_; rintro e w' ⟨rfl, m, rfl⟩; rw [HG.out]))
        go_quiet (fail)
        go_wp2
        go_returns
        exact ⟨ret_ratb HM.out (by rfl), (by repeat' (first | (with_reducible exact Below.refl _ _) | (with_reducible assumption) | (with_reducible refine below_drewN ?_ _) | (with_reducible refine below_step (by assumption) ?_ ?_) | (with_reducible refine Below.alloc ?_ ?_ _) | (with_reducible refine Below.setCell ?_ ?_ _) | (with_reducible refine Below.drew ?_) | go_size | (exact Below.size (by assumption)) | (refine Nat.le_trans (Below.size (by assumption)) ?_)))⟩
      · rw [if_pos rfl] at hm
        have HM := Lib.hid hm
        clear hm
        go_enter Tryd.func74, Tryd.ntmps74
        go_wp2_with ((go_at_call 72; refine (rgcd_any _ _ _ (by omega) (by omega)).mono ?_; rintro e w' ⟨rfl, m, rfl⟩; rw [HG.out]))
        go_quiet (fail)
        go_wp2
        go_returns
        exact ⟨ret_ratb HM.out (by rfl), (by repeat' (first | (with_reducible exact Below.refl _ _) | (with_reducible assumption) | (with_reducible refine below_drewN ?_ _) | (with_reducible refine below_step (by assumption) ?_ ?_) | (with_reducible refine Below.alloc ?_ ?_ _) | (with_reducible refine Below.setCell ?_ ?_ _) | (with_reducible refine Below.drew ?_) | go_size | (exact Below.size (by assumption)) | (refine Nat.le_trans (Below.size (by assumption)) ?_)))⟩
set_option maxHeartbeats 1000000 in
theorem rmake_any (n d p q z : Int) (hm : mk n d = (p, q, z)) (h1 : -9223372036854775808 ≤ n) (h2 : n ≤ 9223372036854775807) (h3 : -9223372036854775808 ≤ d) (h4 : d ≤ 9223372036854775807) (w : World) :
    Calls Tryd.prog 51 #[.int .i64 n, .int .i64 d] w fun e w' => e = .returned (.tuple #[.agg #[.int .i64 p, .int .i64 q], .int .i64 z]) ∧ Below w.heap.size w w' := by
  by_cases c0 : d = 0
  · subst c0
    have H := Lib.hid hm
    clear hm
    go_enter Tryd.func51, Tryd.ntmps51
    go_wp2
    go_returns
    exact ⟨ret_rat (by rw [← H.out]; rfl), (by repeat' (first | (with_reducible exact Below.refl _ _) | (with_reducible assumption) | (with_reducible refine below_drewN ?_ _) | (with_reducible refine below_step (by assumption) ?_ ?_) | (with_reducible refine Below.alloc ?_ ?_ _) | (with_reducible refine Below.setCell ?_ ?_ _) | (with_reducible refine Below.drew ?_) | go_size | (exact Below.size (by assumption)) | (refine Nat.le_trans (Below.size (by assumption)) ?_)))⟩
  · have e0 : (d == 0) = false := by rw [beq_eq_false_iff_ne]; exact c0
    have hz := mk_cases n d
    rw [mk_mkN c0] at hm
    cases c1 : decide (z = 0)
    · have c2 : mk n d = (0, 0, 4) := by
        rcases mk_cases n d with ⟨h, _⟩ | ⟨_, h⟩ | ⟨p', q', _, h, _⟩
        · exact absurd h c0
        · exact h
        · rw [mk_mkN c0, hm] at h
          simp only [Prod.mk.injEq] at h
          simp [h.2.2] at c1
      rw [mk_mkN c0, hm] at c2
      have H := Lib.hid hm
      have H2 := Lib.hid c2
      clear hm hz c2
      have C1 := Lib.hid c1
      clear c1
      go_enter Tryd.func51, Tryd.ntmps51
      go_wp2_with (first | (go_at_call 73; refine (size_any _ (by omega) (by omega) _).mono ?_; rintro e w' ⟨rfl, rfl⟩) | (go_at_call 74; refine (build_any _ _ _ p q z (by omega) H.out (by omega) (by omega) _).mono ?_; rw [C1.out]; rintro e w1 ⟨rfl, hb1⟩; (have c0a := hb1.cell (p := ⟨w.heap.size, 0, none⟩) (by first | (simp; done) | (simp; omega)); (simp [go_sem] at c0a); have f0a := hb1.frozen (p := ⟨w.heap.size, 0, none⟩) (by first | (simp; done) | (simp; omega)); (simp [go_sem] at f0a); have c1a := hb1.cell (p := ⟨w.heap.size, 1, none⟩) (by first | (simp; done) | (simp; omega)); (simp [go_sem] at c1a); have f1a := hb1.frozen (p := ⟨w.heap.size, 1, none⟩) (by first | (simp; done) | (simp; omega)); (simp [go_sem] at f1a)); have za : w.heap.size < (World.heap w1).size := by (have hs := hb1.size; (try simp at hs); omega)))
      refine bodyPost_ret (v := .tuple #[.agg #[.int .i64 (0), .int .i64 (0)], .int .i64 (4)]) (by simp only [results, Tryd.results51]; go_simp) rfl ⟨?_, ?_⟩
      · exact ret_rat H2.out.symm
      · exact (by repeat' (first | (with_reducible exact Below.refl _ _) | (with_reducible assumption) | (with_reducible refine below_drewN ?_ _) | (with_reducible refine below_step (by assumption) ?_ ?_) | (with_reducible refine Below.alloc ?_ ?_ _) | (with_reducible refine Below.setCell ?_ ?_ _) | (with_reducible refine Below.drew ?_) | go_size | (exact Below.size (by assumption)) | (refine Nat.le_trans (Below.size (by assumption)) ?_)))
    · have H := Lib.hid hm
      clear hm hz
      have C1 := Lib.hid c1
      clear c1
      go_enter Tryd.func51, Tryd.ntmps51
      go_wp2_with (first | (go_at_call 73; refine (size_any _ (by omega) (by omega) _).mono ?_; rintro e w' ⟨rfl, rfl⟩) | (go_at_call 74; refine (build_any _ _ _ p q z (by omega) H.out (by omega) (by omega) _).mono ?_; rw [C1.out]; rintro e w1 ⟨rfl, hb1⟩; (have c0a := hb1.cell (p := ⟨w.heap.size, 0, none⟩) (by first | (simp; done) | (simp; omega)); (simp [go_sem] at c0a); have f0a := hb1.frozen (p := ⟨w.heap.size, 0, none⟩) (by first | (simp; done) | (simp; omega)); (simp [go_sem] at f0a); have c1a := hb1.cell (p := ⟨w.heap.size, 1, none⟩) (by first | (simp; done) | (simp; omega)); (simp [go_sem] at c1a); have f1a := hb1.frozen (p := ⟨w.heap.size, 1, none⟩) (by first | (simp; done) | (simp; omega)); (simp [go_sem] at f1a)); have za : w.heap.size < (World.heap w1).size := by (have hs := hb1.size; (try simp at hs); omega)))


      refine bodyPost_ret (v := .tuple #[.agg #[.int .i64 (p), .int .i64 (q)], .int .i64 (0)]) (by simp only [results, Tryd.results51]; go_simp) rfl ⟨?_, ?_⟩
      · exact ret_rat (by rw [of_decide_eq_true C1.out])
      · exact (by repeat' (first | (with_reducible exact Below.refl _ _) | (with_reducible assumption) | (with_reducible refine below_drewN ?_ _) | (with_reducible refine below_step (by assumption) ?_ ?_) | (with_reducible refine Below.alloc ?_ ?_ _) | (with_reducible refine Below.setCell ?_ ?_ _) | (with_reducible refine Below.drew ?_) | go_size | (exact Below.size (by assumption)) | (refine Nat.le_trans (Below.size (by assumption)) ?_)))
end Go.Proofs.YtaadelcmhbgpnaaDoor
/-
  THE WALKS OF Add AND Sub, THE PROGRAM'S AND THE REFERENCE'S.
-/
namespace Go.Proofs.YtaadelcmhbgpnaaDoor
open Go.RowKit
theorem addM_cases (a1 a2 b1 b2 : Int) : vld a1 a2 = true → vld b1 b2 = true → addM a1 a2 b1 b2 = mk (a1 * b2 + b1 * a2) (a2 * b2) := fun h k => if_pos ⟨h, k⟩
theorem subM_cases (a1 a2 b1 b2 : Int) : vld a1 a2 = true → vld b1 b2 = true → subM a1 a2 b1 b2 = mk (a1 * b2 - b1 * a2) (a2 * b2) := fun h k => if_pos ⟨h, k⟩

end Go.Proofs.YtaadelcmhbgpnaaDoor
