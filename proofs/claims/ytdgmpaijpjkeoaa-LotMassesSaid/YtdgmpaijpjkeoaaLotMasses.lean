/-
  THE WALK OF THE LAW LotMasses: it returns true.
-/
import Derived.Test.YtdgmpaijpjkeoaaLotK
import Derived.Test.YtdgmpaijpjkeoaaRefP
namespace Go.Proofs.Ytdgmpaijpjkeoaa
open Go.RowKit
set_option maxRecDepth 100000 in
set_option maxHeartbeats 1000000 in
theorem lotMasses_walk (A : Option Addr) (c : Nat) (l : List LotD) (n kd : Int) (hn : -9223372036854775808 ≤ n) (kn : n ≤ 9223372036854775807) (hkd : -9223372036854775808 ≤ kd) (kkd : kd ≤ 9223372036854775807) (w : World) (hL : LotsIn w A l) (hl : l.length ≤ maxLen) :
    Calls Try.prog 9 #[.slice A l.length c, .int .i64 n, .int .i64 kd] w fun e w' => e = .returned (.bool true) ∧ Below w.heap.size w w' := by
  have HL := Lib.hid hL
  clear hL
  cases hlong : longB l with
  | true =>
    have HLO := Lib.hid hlong
    clear hlong
    go_enter Try.func9, Try.ntmps9
    go_wp2_with fail
    refine (long_any l true HLO.out A c _ HL.out hl).mono ?_
    rintro e w' ⟨rfl, rfl⟩
    go_wp2_with fail
    refine (known_any _).mono ?_
    rintro e w1 ⟨rfl, hb1⟩
    go_wp2
    go_ret
    exact ⟨rfl, hb1⟩
  | false =>
    obtain ⟨hl40, hps20⟩ := long_small hlong
    have HLO := Lib.hid hlong
    have HPS := Lib.hid (show ∀ x ∈ l, x.parts.length ≤ 1000 from fun x hx => by have := hps20 x hx; omega)
    obtain ⟨v1, z1, hm1⟩ : ∃ v z, leftE l n = (v, z) := ⟨_, _, rfl⟩
    obtain ⟨v2, z2, hm2⟩ : ∃ v z, lostE l n = (v, z) := ⟨_, _, rfl⟩
    obtain ⟨v3, z3, hm3⟩ : ∃ v z, recE l kd = (v, z) := ⟨_, _, rfl⟩
    have HM1 := Lib.hid hm1
    have HM2 := Lib.hid hm2
    have HM3 := Lib.hid hm3
    clear hlong hps20 hm1 hm2 hm3
    go_enter Try.func9, Try.ntmps9
    go_wp2_with fail
    refine (long_any l false HLO.out A c _ HL.out hl).mono ?_
    rintro e w' ⟨rfl, rfl⟩
    go_wp2_with fail
    refine (lotLeft_any l (by omega) HPS.out n v1 z1 HM1.out (by omega) (by omega) A c w HL.out).mono ?_
    rintro e w1 ⟨rfl, hb1⟩
    have ib := Lib.hid hb1
    clear hb1
    go_wp2_with fail
    refine (refLeft_any l (by omega) HPS.out n v1 z1 HM1.out (by omega) (by omega) A c w1 (HL.out.below ib.out)).mono ?_
    rintro e w2 ⟨rfl, hb1⟩
    have jb := Lib.hid (ib.out.trans (hb1.mono ib.out.size))
    clear hb1 ib
    go_wp2_with fail
    refine (lotLost_any l (by omega) HPS.out n v2 z2 HM2.out (by omega) (by omega) A c w2 (HL.out.below jb.out)).mono ?_
    rintro e w3 ⟨rfl, hb1⟩
    have kb := Lib.hid (jb.out.trans (hb1.mono jb.out.size))
    clear hb1 jb
    go_wp2_with fail
    refine (refLost_any l (by omega) HPS.out n v2 z2 HM2.out (by omega) (by omega) A c w3 (HL.out.below kb.out)).mono ?_
    rintro e w4 ⟨rfl, hb1⟩
    have lb := Lib.hid (kb.out.trans (hb1.mono kb.out.size))
    clear hb1 kb
    go_wp2_with fail
    refine (lotRecv_any l (by omega) HPS.out kd v3 z3 HM3.out (by omega) (by omega) A c w4 (HL.out.below lb.out)).mono ?_
    rintro e w5 ⟨rfl, hb1⟩
    have mb := Lib.hid (lb.out.trans (hb1.mono lb.out.size))
    clear hb1 lb
    go_wp2_with fail
    refine (refRecv_any l (by omega) HPS.out kd v3 z3 HM3.out (by omega) (by omega) A c w5 (HL.out.below mb.out)).mono ?_
    rintro e w6 ⟨rfl, hb1⟩
    have nb := Lib.hid (mb.out.trans (hb1.mono mb.out.size))
    clear hb1 mb
    go_wp2_with (go_at_call 16; refine (known_any _).mono ?_; rintro e w7 ⟨rfl, hb6⟩)
    go_ret
    exact ⟨rfl, nb.out.trans (hb6.mono nb.out.size)⟩
end Go.Proofs.Ytdgmpaijpjkeoaa
