/-
  THE LAWS' Long AND known.
-/
import Derived.Test.YtdgmpaijpjkeoaaLotJ
namespace Go.Proofs.Ytdgmpaijpjkeoaa
open Go.RowKit
def longB (l : List LotD) : Bool := decide (40 < l.length) || l.any fun x => decide (20 < x.parts.length)
theorem long_small {l : List LotD} (h : longB l = false) : l.length ≤ 40 ∧ ∀ x ∈ l, x.parts.length ≤ 20 := by
  unfold longB at h
  simp only [Bool.or_eq_false_iff, decide_eq_false_iff_not, List.any_eq_false, decide_eq_true_eq] at h
  exact ⟨by omega, fun x hx => by have := h.2 x hx; omega⟩
set_option maxRecDepth 100000 in
set_option maxHeartbeats 400000 in
theorem long_any (l : List LotD) (r : Bool) (hr : longB l = r) (A : Option Addr) (c : Nat) (w : World) (hL : LotsIn w A l) (hl : l.length ≤ maxLen) :
    Calls Try.prog 15 #[.slice A l.length c] w fun e w' => e = .returned (.bool r) ∧ w = w' := by
  unfold maxLen at hl
  have HL := Lib.hid hL
  have HR := Lib.hid hr
  clear hL hr
  by_cases h0 : 40 < l.length
  · have H1 := Lib.hid (show true = r by rw [← HR.out, longB, decide_eq_true h0]; rfl)
    go_enter Try.func15, Try.ntmps15
    go_wp2
    go_ret
    exact ⟨by rw [← H1.out]; rfl, rfl⟩
  · have H1 := Lib.hid (show (l.any fun x => decide (20 < x.parts.length)) = r by rw [← HR.out, longB, decide_eq_false h0]; rfl)
    have d0 : decide ((40 : Int) < (l.length : Int)) = false := decide_eq_false (by omega)
    go_enter Try.func15, Try.ntmps15
    go_wp2
    go_loop [3] (fun t => ∃ k : Nat, t = .int .i64 k ∧ k ≤ l.length ∧ Hid ((l.take k).any (fun x => decide (20 < x.parts.length)) = false)) (fun t => l.length - (intOf t).toNat)
    case atStart => exact ⟨0, rfl, by omega, Lib.hid (by simp)⟩
    case round =>
      obtain ⟨k, rfl, hk, hr⟩ := hrel
      by_cases hlt : k < l.length
      · obtain ⟨b, o, rfl, hc⟩ := HL.out (by omega)
        obtain ⟨e1, e2, e3, e4, e5, A', c2, e6, e8, e7⟩ := hc k hlt
        have hat := any_take l (fun x => decide (20 < x.parts.length)) hlt
        have hah := any_hit l (fun x => decide (20 < x.parts.length)) hlt
        rw [hr.out, Bool.false_or] at hat
        obtain ⟨n, hn⟩ : ∃ n, n = l[k].parts.length := ⟨_, rfl⟩
        rw [← hn] at e6 e8 hat hah
        have HAT := Lib.hid hat
        have HAH := Lib.hid hah
        clear hc e1 e2 e4 e5 e7 hat hah hn
        by_cases hb : 20 < n
        · have H2 := Lib.hid (show true = r by rw [← H1.out, HAH.out (decide_eq_true hb)])
          have d1 : decide ((20 : Int) < (n : Int)) = true := decide_eq_true (by omega)
          go_wp2
          go_ret
          exact ⟨by rw [← H2.out]; rfl, rfl⟩
        · have H2 := Lib.hid (HAT.out.trans (decide_eq_false hb))
          have d1 : decide ((20 : Int) < (n : Int)) = false := decide_eq_false (by omega)
          go_wp2
          go_round
          case rel => exact ⟨k + 1, by go_num, by omega, H2⟩
          case measure => simp [intOf]; omega
      · obtain rfl : k = l.length := by omega
        have H2 := Lib.hid (show false = r by
          have := hr.out
          rw [List.take_length] at this
          rw [← H1.out, this])
        go_wp2
        go_ret
        exact ⟨by rw [← H2.out]; rfl, rfl⟩
/-- The document's example. -/
def exL : List LotD := [⟨0, 100, []⟩, ⟨0, 100, []⟩, ⟨5, 110, [(0, 60), (1, 40)]⟩]
theorem exL_share : shE exL 0 2 = (3, 5, 0) := by decide +kernel
set_option maxRecDepth 100000 in
set_option maxHeartbeats 1000000 in
theorem known_any (w : World) :
    Calls Try.prog 16 #[] w fun e w' => e = .returned (.bool true) ∧ Below w.heap.size w w' := by
  go_enter Try.func16, Try.ntmps16
  go_wp2_with fail
  obtain ⟨W, hW⟩ : ∃ W, W = (w.alloc (.cells #[.int .i64 0, .int .i64 60, .int .i64 1, .int .i64 40] 39)).alloc (.cells #[.int .i64 0, .int .i64 100, .slice none 0 0, .int .i64 0, .int .i64 100, .slice none 0 0, .int .i64 5, .int .i64 110, .slice (some ⟨w.heap.size, 0, none⟩) 2 2] 37) := ⟨_, rfl⟩
  rw [← hW]
  have hb := Lib.hid (show Below w.heap.size w W by rw [hW]; exact (by repeat' (first | (with_reducible exact Below.refl _ _) | (with_reducible assumption) | (with_reducible refine below_drewN ?_ _) | (with_reducible refine below_step (by assumption) ?_ ?_) | (with_reducible refine Below.alloc ?_ ?_ _) | (with_reducible refine Below.setCell ?_ ?_ _) | (with_reducible refine Below.drew ?_) | go_size | (exact Below.size (by assumption)) | (refine Nat.le_trans (Below.size (by assumption)) ?_))))
  have hL := Lib.hid (show LotsIn W (some ⟨w.heap.size + 1, 0, none⟩) exL by
    intro _
    refine ⟨w.heap.size + 1, 0, rfl, fun i hi => ?_⟩
    have hi3 : i < 3 := hi
    rcases i with _ | _ | _ | i
    · refine ⟨⟨by simp [exL], by simp [exL]⟩, ⟨by simp [exL], by simp [exL]⟩, by rw [hW]; simp, by rw [hW]; simp [exL], by rw [hW]; simp [exL], none, 0, by rw [hW]; simp [exL], by simp [exL], by simp [exL], fun h => absurd h (by simp [exL])⟩
    · refine ⟨⟨by simp [exL], by simp [exL]⟩, ⟨by simp [exL], by simp [exL]⟩, by rw [hW]; simp, by rw [hW]; simp [exL], by rw [hW]; simp [exL], none, 0, by rw [hW]; simp [exL], by simp [exL], by simp [exL], fun h => absurd h (by simp [exL])⟩
    · refine ⟨⟨by simp [exL], by simp [exL]⟩, ⟨by simp [exL], by simp [exL]⟩, by rw [hW]; simp, by rw [hW]; simp [exL], by rw [hW]; simp [exL], some ⟨w.heap.size, 0, none⟩, 2, by rw [hW]; simp [exL], by simp [exL], ?_, fun _ => ⟨w.heap.size, 0, rfl, by rw [hW]; simp; omega, fun k hk => ?_⟩⟩
      · intro p hp
        simp [exL] at hp
        rcases hp with rfl | rfl <;> exact ⟨⟨by decide, by decide⟩, ⟨by decide, by decide⟩⟩
      · have hk2 : k < 2 := hk
        rcases k with _ | _ | k
        · rw [hW]; simp [exL]
        · rw [hW]; simp [exL]
        · omega
    · omega)
  clear hW
  refine (share_any exL (by decide) (by decide) 0 2 3 5 0 exL_share (by omega) (by omega) (by omega) (by omega) _ _ W hL.out).mono ?_
  rintro e w1 ⟨rfl, hb1⟩
  have ib := Lib.hid (hb.out.trans (hb1.mono hb.out.size))
  clear hb1
  go_wp2
  go_ret
  have ib' := ib.out
  exact ⟨rfl, (by repeat' (first | (with_reducible exact Below.refl _ _) | (with_reducible assumption) | (with_reducible refine below_drewN ?_ _) | (with_reducible refine below_step (by assumption) ?_ ?_) | (with_reducible refine Below.alloc ?_ ?_ _) | (with_reducible refine Below.setCell ?_ ?_ _) | (with_reducible refine Below.drew ?_) | go_size | (exact Below.size (by assumption)) | (refine Nat.le_trans (Below.size (by assumption)) ?_)))⟩
end Go.Proofs.Ytdgmpaijpjkeoaa
