/-
  THE WALK OF THE LAW LotShares: it returns true.
-/
import Derived.Test.YtdgmpaijpjkeoaaLotK
import Derived.Test.YtdgmpaijpjkeoaaRefC
namespace Go.Proofs.Ytdgmpaijpjkeoaa
open Go.RowKit
set_option maxRecDepth 100000 in
set_option maxHeartbeats 1000000 in
theorem lotShares_walk (A : Option Addr) (c : Nat) (l : List LotD) (of i : Int) (hof : -9223372036854775808 ≤ of) (kof : of ≤ 9223372036854775807) (hi : -9223372036854775808 ≤ i) (ki : i ≤ 9223372036854775807) (w : World) (hL : LotsIn w A l) (hl : l.length ≤ maxLen) :
    Calls Try.prog 3 #[.slice A l.length c, .agg #[.int .i64 of, .int .i64 i]] w fun e w' => e = .returned (.bool true) ∧ Below w.heap.size w w' := by
  have HL := Lib.hid hL
  clear hL
  cases hlong : longB l with
  | true =>
    have HLO := Lib.hid hlong
    clear hlong
    go_enter Try.func3, Try.ntmps3
    go_wp2_with fail
    refine (long_any l true HLO.out A c _ (HL.out.below (by repeat' (first | (with_reducible exact Below.refl _ _) | (with_reducible assumption) | (with_reducible refine below_drewN ?_ _) | (with_reducible refine below_step (by assumption) ?_ ?_) | (with_reducible refine Below.alloc ?_ ?_ _) | (with_reducible refine Below.setCell ?_ ?_ _) | (with_reducible refine Below.drew ?_) | go_size | (exact Below.size (by assumption)) | (refine Nat.le_trans (Below.size (by assumption)) ?_)))) hl).mono ?_
    rintro e w' ⟨rfl, rfl⟩
    go_wp2_with fail
    refine (known_any _).mono ?_
    rintro e w1 ⟨rfl, hb1⟩
    go_wp2
    go_ret
    exact ⟨rfl, (by repeat' (first | (with_reducible exact Below.refl _ _) | (with_reducible assumption) | (with_reducible refine below_drewN ?_ _) | (with_reducible refine below_step (by assumption) ?_ ?_) | (with_reducible refine Below.alloc ?_ ?_ _) | (with_reducible refine Below.setCell ?_ ?_ _) | (with_reducible refine Below.drew ?_) | go_size | (exact Below.size (by assumption)) | (refine Nat.le_trans (Below.size (by assumption)) ?_)))⟩
  | false =>
    obtain ⟨hl40, hps20⟩ := long_small hlong
    have HLO := Lib.hid hlong
    have HPS := Lib.hid (show ∀ x ∈ l, x.parts.length ≤ 1000 from fun x hx => by have := hps20 x hx; omega)
    obtain ⟨p, q, z, hm⟩ : ∃ p q z, shE l of i = (p, q, z) := ⟨_, _, _, rfl⟩
    have HM := Lib.hid hm
    clear hlong hps20 hm
    go_enter Try.func3, Try.ntmps3
    go_wp2_with fail
    obtain ⟨W, hW⟩ : ∃ W, W = w.alloc (.cells #[.int .i64 of, .int .i64 i] 24) := ⟨_, rfl⟩
    rw [← hW]
    have hb := Lib.hid (show Below w.heap.size w W by rw [hW]; exact (by repeat' (first | (with_reducible exact Below.refl _ _) | (with_reducible assumption) | (with_reducible refine below_drewN ?_ _) | (with_reducible refine below_step (by assumption) ?_ ?_) | (with_reducible refine Below.alloc ?_ ?_ _) | (with_reducible refine Below.setCell ?_ ?_ _) | (with_reducible refine Below.drew ?_) | go_size | (exact Below.size (by assumption)) | (refine Nat.le_trans (Below.size (by assumption)) ?_))))
    have hx : Box2 W w.heap.size (.int .i64 of) (.int .i64 i) := by rw [hW]; exact Box2.new _ _ _ _
    clear hW
    refine (long_any l false HLO.out A c _ (HL.out.below hb.out) hl).mono ?_
    rintro e w' ⟨rfl, rfl⟩
    obtain ⟨x0, x1, x2, x3, x4⟩ := id hx
    go_wp2_with fail
    refine (share_any l (by omega) HPS.out of i p q z HM.out (by omega) (by omega) (by omega) (by omega) A c W (HL.out.below hb.out)).mono ?_
    rintro e w1 ⟨rfl, hb1⟩
    have ib := Lib.hid (hb.out.trans (hb1.mono hb.out.size))
    have ix := hx.keep hb1
    clear x0 x1 x2 x3 x4 hx hb hb1
    obtain ⟨x0, x1, x2, x3, x4⟩ := id ix
    go_wp2_with fail
    obtain ⟨W2, hW2⟩ : ∃ W2, W2 = w1.alloc (.cells #[.int .i64 p, .int .i64 q] 28) := ⟨_, rfl⟩
    rw [← hW2]
    have jb := Lib.hid (show Below w.heap.size w W2 by rw [hW2]; exact ib.out.alloc ib.out.size _)
    have jy : Box2 W2 w1.heap.size (.int .i64 p) (.int .i64 q) := by rw [hW2]; exact Box2.new _ _ _ _
    clear hW2 x0 x1 x2 x3 x4 ix ib
    refine (rshare_any l (by omega) HPS.out of i p q z HM.out (by omega) (by omega) (by omega) (by omega) A c W2 (HL.out.below jb.out)).mono ?_
    rintro e w3 ⟨rfl, hb3⟩
    have kb := Lib.hid (jb.out.trans (hb3.mono jb.out.size))
    obtain ⟨y0, y1, y2, y3, y4⟩ := jy.keep hb3
    clear hb3 jy jb
    go_wp2_with (go_at_call 16; refine (known_any _).mono ?_; rintro e w6 ⟨rfl, hb6⟩)
    go_ret
    have kb' := kb.out
    exact ⟨rfl, (by repeat' (first | (with_reducible exact Below.refl _ _) | (with_reducible assumption) | (with_reducible refine below_drewN ?_ _) | (with_reducible refine below_step (by assumption) ?_ ?_) | (with_reducible refine Below.alloc ?_ ?_ _) | (with_reducible refine Below.setCell ?_ ?_ _) | (with_reducible refine Below.drew ?_) | go_size | (exact Below.size (by assumption)) | (refine Nat.le_trans (Below.size (by assumption)) ?_)))⟩
end Go.Proofs.Ytdgmpaijpjkeoaa
