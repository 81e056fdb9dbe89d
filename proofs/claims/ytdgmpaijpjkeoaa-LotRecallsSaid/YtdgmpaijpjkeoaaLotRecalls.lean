/-
  THE WALK OF THE LAW LotRecalls: it returns true.
-/
import Derived.Test.YtdgmpaijpjkeoaaLotK
import Derived.Test.YtdgmpaijpjkeoaaRclB
import Derived.Test.YtdgmpaijpjkeoaaRclC
import Derived.Test.YtdgmpaijpjkeoaaNumE
namespace Go.Proofs.Ytdgmpaijpjkeoaa
open Go.RowKit
set_option maxRecDepth 100000 in
set_option maxHeartbeats 1000000 in
theorem lotRecalls_walk (A : Option Addr) (c : Nat) (l : List LotD) (of rn rd : Int) (hof : -9223372036854775808 ≤ of) (kof : of ≤ 9223372036854775807) (hrn : -9223372036854775808 ≤ rn) (krn : rn ≤ 9223372036854775807) (hrd : -9223372036854775808 ≤ rd) (krd : rd ≤ 9223372036854775807) (w : World) (hL : LotsIn w A l) (hl : l.length ≤ maxLen) :
    Calls Try.prog 10 #[.slice A l.length c, .int .i64 of, .agg #[.int .i64 rn, .int .i64 rd]] w fun e w' => e = .returned (.bool true) ∧ Below w.heap.size w w' := by
  have HL := Lib.hid hL
  clear hL
  cases hlong : longB l with
  | true =>
    have HLO := Lib.hid hlong
    clear hlong
    go_enter Try.func10, Try.ntmps10
    go_wp2_with fail
    refine (long_any l true HLO.out A c _ (HL.out.below (by repeat' (first | (with_reducible exact Below.refl _ _) | (with_reducible assumption) | (with_reducible refine below_drewN ?_ _) | (with_reducible refine below_step (by assumption) ?_ ?_) | (with_reducible refine Below.alloc ?_ ?_ _) | (with_reducible refine Below.setCell ?_ ?_ _) | (with_reducible refine Below.drew ?_) | go_size | (exact Below.size (by assumption)) | (refine Nat.le_trans (Below.size (by assumption)) ?_)))) hl).mono ?_
    rintro e w' ⟨rfl, rfl⟩
    go_wp2_with fail
    refine (known_any _).mono ?_
    rintro e w1 ⟨rfl, hb1⟩
    go_wp2
    go_ret
    exact ⟨rfl, (by repeat' (first | (with_reducible exact Below.refl _ _) | (with_reducible assumption) | (with_reducible refine below_drewN ?_ _) | (with_reducible refine below_step (by assumption) ?_ ?_) | (with_reducible refine Below.alloc ?_ ?_ _) | (with_reducible refine Below.setCell ?_ ?_ _) | (with_reducible refine Below.drew ?_) | go_size | (exact Below.size (by assumption)) | (refine Nat.le_trans (Below.size (by assumption)) ?_)))⟩
  | false =>
    obtain ⟨hl40, hps20⟩ := long_small hlong
    have HLO := Lib.hid hlong
    have HPS := Lib.hid (show ∀ x ∈ l, x.parts.length ≤ 1000 from fun x hx => by have := hps20 x hx; omega)
    obtain ⟨a, z, hm1⟩ : ∃ a z, rclE l of rn rd = (a, z) := ⟨_, _, rfl⟩
    obtain ⟨hn, hd, g, hm2⟩ : ∃ p q g, mulM rn rd 1 2 = (p, q, g) := ⟨_, _, _, rfl⟩
    obtain ⟨b, f, hm3⟩ : ∃ b f, rclE l of hn hd = (b, f) := ⟨_, _, rfl⟩
    have bd := mulM_bd hm2
    have ba := (rclE_len hm1).1
    have bb := (rclE_len hm3).1
    have HM1 := Lib.hid hm1
    have HM2 := Lib.hid hm2
    have HM3 := Lib.hid hm3
    have HC := Lib.hid (show g = 0 → 0 < a.length → f = 0 ∧ ∀ x ∈ a, x ∈ b from fun h1 h2 => by subst h1; exact rcl_half hm1 hm2 hm3 h2)
    clear hlong hps20 hm1 hm2 hm3
    go_enter Try.func10, Try.ntmps10
    go_wp2_with fail
    obtain ⟨W, hW⟩ : ∃ W, W = w.alloc (.cells #[.int .i64 rn, .int .i64 rd] 28) := ⟨_, rfl⟩
    rw [← hW]
    have hb := Lib.hid (show Below w.heap.size w W by rw [hW]; exact (by repeat' (first | (with_reducible exact Below.refl _ _) | (with_reducible assumption) | (with_reducible refine below_drewN ?_ _) | (with_reducible refine below_step (by assumption) ?_ ?_) | (with_reducible refine Below.alloc ?_ ?_ _) | (with_reducible refine Below.setCell ?_ ?_ _) | (with_reducible refine Below.drew ?_) | go_size | (exact Below.size (by assumption)) | (refine Nat.le_trans (Below.size (by assumption)) ?_))))
    have hx : Box2 W w.heap.size (.int .i64 rn) (.int .i64 rd) := by rw [hW]; exact Box2.new _ _ _ _
    clear hW
    refine (long_any l false HLO.out A c _ (HL.out.below hb.out) hl).mono ?_
    rintro e w' ⟨rfl, rfl⟩
    obtain ⟨x0, x1, x2, x3, x4⟩ := id hx
    go_wp2_with fail
    refine (recall_any l (by omega) HPS.out of rn rd a z HM1.out (by omega) (by omega) (by omega) (by omega) (by omega) (by omega) A c W (HL.out.below hb.out)).mono ?_
    rintro e w1 ⟨A1, c1, rfl, i1, hb1⟩
    have ib := Lib.hid (hb.out.trans (hb1.mono hb.out.size))
    have ix := hx.keep hb1
    have I1 := Lib.hid i1
    clear x0 x1 x2 x3 x4 hx hb hb1 i1
    obtain ⟨x0, x1, x2, x3, x4⟩ := id ix
    go_wp2_with fail
    refine (rrecall_any l (by omega) HPS.out of rn rd a z HM1.out (by omega) (by omega) (by omega) (by omega) (by omega) (by omega) A c w1 (HL.out.below ib.out)).mono ?_
    rintro e w2 ⟨A2, c2, rfl, i2, hb1⟩
    have jb := Lib.hid (ib.out.trans (hb1.mono ib.out.size))
    have jx := ix.keep hb1
    have I2 := Lib.hid (And.intro (I1.out.below hb1) i2)
    clear x0 x1 x2 x3 x4 ix ib hb1 I1 i2
    go_wp2_with fail
    refine (sameInts_any A1 a.length c1 A2 c2 a w2 I2.out.1 I2.out.2 (by omega)).mono ?_
    rintro e w3 ⟨rfl, hb1⟩
    have kb := Lib.hid (jb.out.trans (hb1.mono jb.out.size))
    have kx := jx.keep hb1
    have I3 := Lib.hid (I2.out.1.below hb1)
    clear jx jb hb1 I2
    obtain ⟨x0, x1, x2, x3, x4⟩ := id kx
    have d0 : (z != z) = false := by simp
    go_wp2_with fail
    refine (mul_any rn rd 1 2 hn hd g HM2.out (by omega) (by omega) (by omega) (by omega) (by omega) (by omega) (by omega) (by omega) w3).mono ?_
    rintro e w4 ⟨rfl, hb1⟩
    have lb := Lib.hid (kb.out.trans (hb1.mono kb.out.size))
    have I4 := Lib.hid (I3.out.below hb1)
    clear x0 x1 x2 x3 x4 kx kb hb1 I3 d0
    go_upto_region 8 with fail
    obtain ⟨W2, hW2⟩ : ∃ W2, W2 = w4.alloc (.cells #[.int .i64 hn, .int .i64 hd] 28) := ⟨_, rfl⟩
    rw [← hW2]
    have hb4 : Below w4.heap.size w4 W2 := by rw [hW2]; exact (Below.refl _ _).alloc (Nat.le_refl _) _
    have mb := Lib.hid (lb.out.trans (hb4.mono lb.out.size))
    have I5 := Lib.hid (I4.out.below hb4)
    have my : Box2 W2 w4.heap.size (.int .i64 hn) (.int .i64 hd) := by rw [hW2]; exact Box2.new _ _ _ _
    clear hW2 lb I4 hb4
    obtain ⟨x0, x1, x2, x3, x4⟩ := id my
    go_wp2_with fail
    refine (recall_any l (by omega) HPS.out of hn hd b f HM3.out (by omega) (by omega) (by omega) (by omega) (by omega) (by omega) A c W2 (HL.out.below mb.out)).mono ?_
    rintro e w5 ⟨A3, c3, rfl, i3, hb1⟩
    have nb := Lib.hid (mb.out.trans (hb1.mono mb.out.size))
    have I6 := Lib.hid (And.intro (I5.out.below hb1) i3)
    clear x0 x1 x2 x3 x4 my mb hb1 I5 i3
    go_wp2
    go_loopw [15] (fun t wr => ∃ k : Nat, t = .int .i64 k ∧ wr = w5 ∧ k ≤ a.length) (fun t _ => a.length - (intOf t).toNat)
    case atStart => exact ⟨0, by first | trivial | rfl, by first | trivial | rfl, by omega⟩
    case round =>
      obtain ⟨k, rfl, rfl, hk⟩ := hrel
      by_cases hlt : k < a.length
      · by_cases hg : g = 0
        · have d1 : (g == 0) = true := by rw [hg]; rfl
          obtain ⟨rfl, hall⟩ := HC.out hg (by omega)
          obtain ⟨g1, o1, e1, -, h1⟩ := I6.out.1.2 (by omega)
          have q1 := h1 k hlt
          obtain ⟨x, hxx⟩ : ∃ x, a.getD k 0 = x := ⟨_, rfl⟩
          rw [hxx] at q1
          have hmem : x ∈ b := hall x (by rw [← hxx]; simp [hlt])
          have HME := Lib.hid (decide_eq_true hmem)
          subst e1
          clear hall h1 hxx hmem hg
          go_wp2_with fail
          refine (has_any A3 b.length c3 b x wr I6.out.2 (by omega)).mono ?_
          rw [HME.out]
          rintro e w6 ⟨rfl, rfl⟩
          go_wp2
          go_roundw
          case rel => exact ⟨k + 1, by go_num, (by first | trivial | rfl), by omega⟩
          case measure => simp [intOf]; omega
        · have d1 : (g == 0) = false := by rw [beq_eq_false_iff_ne]; exact hg
          clear hg
          go_wp2_with (go_at_call 16; refine (known_any _).mono ?_; rintro e w7 ⟨rfl, hb6⟩)
          go_ret
          exact ⟨rfl, nb.out.trans (hb6.mono nb.out.size)⟩
      · obtain rfl : k = a.length := by omega
        go_wp2_with (go_at_call 16; refine (known_any _).mono ?_; rintro e w7 ⟨rfl, hb6⟩)
        go_ret
        exact ⟨rfl, nb.out.trans (hb6.mono nb.out.size)⟩
end Go.Proofs.Ytdgmpaijpjkeoaa
