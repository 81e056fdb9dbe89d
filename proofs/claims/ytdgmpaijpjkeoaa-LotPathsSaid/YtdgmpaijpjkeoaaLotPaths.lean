/-
  THE WALK OF THE LAW LotPaths: it returns true.
-/
import Derived.Test.YtdgmpaijpjkeoaaLotK
import Derived.Test.YtdgmpaijpjkeoaaPthB
import Derived.Test.YtdgmpaijpjkeoaaPthA
namespace Go.Proofs.Ytdgmpaijpjkeoaa
open Go.RowKit
set_option maxRecDepth 100000 in
set_option maxHeartbeats 1000000 in
theorem lotPaths_walk (A : Option Addr) (c : Nat) (l : List LotD) (of i : Int) (hof : -9223372036854775808 ≤ of) (kof : of ≤ 9223372036854775807) (hi : -9223372036854775808 ≤ i) (ki : i ≤ 9223372036854775807) (w : World) (hL : LotsIn w A l) (hl : l.length ≤ maxLen) :
    Calls Try.prog 6 #[.slice A l.length c, .agg #[.int .i64 of, .int .i64 i]] w fun e w' => e = .returned (.bool true) ∧ Below w.heap.size w w' := by
  have HL := Lib.hid hL
  clear hL
  cases hlong : longB l with
  | true =>
    have HLO := Lib.hid hlong
    clear hlong
    go_enter Try.func6, Try.ntmps6
    go_wp2_with fail
    refine (long_any l true HLO.out A c _ (HL.out.below (by repeat' (first | (with_reducible exact Below.refl _ _) | (with_reducible assumption) | (with_reducible refine below_drewN ?_ _) | (with_reducible refine below_step (by assumption) ?_ ?_) | (with_reducible refine Below.alloc ?_ ?_ _) | (with_reducible refine Below.setCell ?_ ?_ _) | (with_reducible refine Below.drew ?_) | go_size | (exact Below.size (by assumption)) | (refine Nat.le_trans (Below.size (by assumption)) ?_)))) hl).mono ?_
    rintro e w' ⟨rfl, rfl⟩
    go_wp2_with fail
    refine (known_any _).mono ?_
    rintro e w1 ⟨rfl, hb1⟩
    go_wp2
    go_ret
    exact ⟨rfl, (by repeat' (first | (with_reducible exact Below.refl _ _) | (with_reducible assumption) | (with_reducible refine below_drewN ?_ _) | (with_reducible refine below_step (by assumption) ?_ ?_) | (with_reducible refine Below.alloc ?_ ?_ _) | (with_reducible refine Below.setCell ?_ ?_ _) | (with_reducible refine Below.drew ?_) | go_size | (exact Below.size (by assumption)) | (refine Nat.le_trans (Below.size (by assumption)) ?_)))⟩
  | false =>
    obtain ⟨hl40, hps20⟩ := long_small hlong
    have HLO := Lib.hid hlong
    have HPS := Lib.hid (show ∀ x ∈ l, x.parts.length ≤ 1000 from fun x hx => by have := hps20 x hx; omega)
    obtain ⟨v1, z1, hm1⟩ : ∃ v z, pathsE l of i = (v, z) := ⟨_, _, rfl⟩
    obtain ⟨v2, z2, hm2⟩ : ∃ v z, depthE l i = (v, z) := ⟨_, _, rfl⟩
    have HM1 := Lib.hid hm1
    have HM2 := Lib.hid hm2
    clear hlong hps20 hm1 hm2
    go_enter Try.func6, Try.ntmps6
    go_wp2_with fail
    obtain ⟨W, hW⟩ : ∃ W, W = w.alloc (.cells #[.int .i64 of, .int .i64 i] 24) := ⟨_, rfl⟩
    rw [← hW]
    have hb := Lib.hid (show Below w.heap.size w W by rw [hW]; exact (by repeat' (first | (with_reducible exact Below.refl _ _) | (with_reducible assumption) | (with_reducible refine below_drewN ?_ _) | (with_reducible refine below_step (by assumption) ?_ ?_) | (with_reducible refine Below.alloc ?_ ?_ _) | (with_reducible refine Below.setCell ?_ ?_ _) | (with_reducible refine Below.drew ?_) | go_size | (exact Below.size (by assumption)) | (refine Nat.le_trans (Below.size (by assumption)) ?_))))
    have hx : Box2 W w.heap.size (.int .i64 of) (.int .i64 i) := by rw [hW]; exact Box2.new _ _ _ _
    clear hW
    refine (long_any l false HLO.out A c _ (HL.out.below hb.out) hl).mono ?_
    rintro e w' ⟨rfl, rfl⟩
    obtain ⟨x0, x1, x2, x3, x4⟩ := id hx
    go_wp2_with fail
    refine (lotPaths_any l (by omega) HPS.out of i v1 z1 HM1.out (by omega) (by omega) (by omega) (by omega) A c W (HL.out.below hb.out)).mono ?_
    rintro e w1 ⟨rfl, hb1⟩
    have ib := Lib.hid (hb.out.trans (hb1.mono hb.out.size))
    have ix := hx.keep hb1
    clear x0 x1 x2 x3 x4 hx hb hb1
    obtain ⟨x0, x1, x2, x3, x4⟩ := id ix
    go_wp2_with fail
    refine (refPaths_any l (by omega) HPS.out of i v1 z1 HM1.out (by omega) (by omega) (by omega) (by omega) A c w1 (HL.out.below ib.out)).mono ?_
    rintro e w2 ⟨rfl, hb1⟩
    have jb := Lib.hid (ib.out.trans (hb1.mono ib.out.size))
    have jx := ix.keep hb1
    clear x0 x1 x2 x3 x4 ix ib hb1
    obtain ⟨x0, x1, x2, x3, x4⟩ := id jx
    go_wp2_with fail
    refine (lotDepth_any l (by omega) HPS.out i v2 z2 HM2.out (by omega) (by omega) A c w2 (HL.out.below jb.out)).mono ?_
    rintro e w3 ⟨rfl, hb1⟩
    have kb := Lib.hid (jb.out.trans (hb1.mono jb.out.size))
    have kx := jx.keep hb1
    clear x0 x1 x2 x3 x4 jx jb hb1
    obtain ⟨x0, x1, x2, x3, x4⟩ := id kx
    go_wp2_with fail
    refine (refDepth_any l (by omega) HPS.out i v2 z2 HM2.out (by omega) (by omega) A c w3 (HL.out.below kb.out)).mono ?_
    rintro e w4 ⟨rfl, hb1⟩
    have lb := Lib.hid (kb.out.trans (hb1.mono kb.out.size))
    clear x0 x1 x2 x3 x4 kx kb hb1
    go_wp2_with (go_at_call 16; refine (known_any _).mono ?_; rintro e w7 ⟨rfl, hb6⟩)
    go_ret
    exact ⟨rfl, lb.out.trans (hb6.mono lb.out.size)⟩
end Go.Proofs.Ytdgmpaijpjkeoaa
