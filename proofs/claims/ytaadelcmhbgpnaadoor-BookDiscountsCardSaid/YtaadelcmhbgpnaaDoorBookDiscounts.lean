/-
  THE WALK OF THE LAW BookDiscounts: it returns true.
-/
import Derived.Test.YtaadelcmhbgpnaaDoorBokZ
namespace Go.Proofs.YtaadelcmhbgpnaaDoor
open Go.RowKit
open Go.Lib
set_option maxRecDepth 100000 in
set_option maxHeartbeats 2000000 in
theorem bookDiscounts_walk (p a b : Int) (hp : -9223372036854775808 ≤ p) (kp : p ≤ 9223372036854775807) (ha : -9223372036854775808 ≤ a) (ka : a ≤ 9223372036854775807) (hb : -9223372036854775808 ≤ b) (kb : b ≤ 9223372036854775807) (w : World) (hl : LibOK w) :
    Calls Tryd.prog 6 #[.int .i64 p, .agg #[.int .i64 a, .int .i64 b]] w fun e w' => e = .returned (.bool true) ∧ Below w.heap.size w w' := by
  have hX0 := Box2.new w (.int .i64 a) (.int .i64 b) 37
  have hB0 := below_new w (.cells #[.int .i64 a, .int .i64 b] 37)
  have HL := Lib.hid hl
  obtain ⟨u, hu⟩ : ∃ u, u = w.alloc (.cells #[.int .i64 a, .int .i64 b] 37) := ⟨_, rfl⟩
  rw [← hu] at hX0 hB0
  obtain ⟨r, z, hm⟩ : ∃ r z, discO p a b = (r, z) := ⟨_, _, rfl⟩
  have H1 := Lib.hid (fun w' => pdisc_any p a b r z hm hp kp ha ka hb kb w')
  have H2 := Lib.hid (fun w' => rdisc_any p a b r z hm hp kp ha ka hb kb w')
  have HU := Lib.hid hu
  clear hu hl hm
  go_enter Tryd.func6, Tryd.ntmps6
  go_wp2_with fail
  rw [← HU.out]
  refine (H1.out _).mono ?_
  rintro e w1 ⟨rfl, hb1⟩
  have hX1 := hX0.keep hb1
  have hB1 := hB0.trans (hb1.mono hB0.size)
  obtain ⟨x0, x1, x2, x3, x4⟩ := hX1
  clear hX0 hB0 hb1
  go_wp2_with fail
  refine (H2.out _).mono ?_
  rintro e w2 ⟨rfl, hb2⟩
  have hB2 := hB1.trans (hb2.mono hB1.size)
  clear x0 x1 x2 x3 x4 hB1 hb2
  go_wp2_with fail
  refine (sane_any _ (HL.out.below hB2)).mono ?_
  rintro e w3 ⟨rfl, hb3⟩
  go_wp2
  go_ret
  exact ⟨rfl, hB2.trans (hb3.mono hB2.size)⟩
end Go.Proofs.YtaadelcmhbgpnaaDoor
