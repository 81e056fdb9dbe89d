/-
  The law PatternParses returns true for every text.
-/
import Derived.Test.YtlinldbbhdpgcaaGreatDoorLawP
import Derived.Test.YtlinldbbhdpgcaaGreatDoorPrsC
namespace Go.Proofs.YtlinldbbhdpgcaaGreatDoor
open Go.RowKit
set_option maxRecDepth 100000 in
set_option maxHeartbeats 2000000 in
theorem patternParses_walk (s : ByteArray) (w : World) (hw : LibOK w) :
    Calls Tryz.prog 4 #[.string s] w fun e w' => e = .returned (.bool true) ∧ Below w.heap.size w w' := by
  have HI := Lib.hid (And.intro trivial hw)
  by_cases hbig : 5000 < s.size
  · clear hw
    go_enter Tryz.func4, Tryz.ntmps4
    go_wp2_with fail
    refine (known_any w HI.out.2).mono ?_
    rintro e w1 ⟨rfl, hb⟩
    have HB := Lib.hid hb
    clear hb
    go_wp2
    go_ret
    exact ⟨rfl, HB.out⟩
  · have h1 := fun w hw => pparse_any s (by omega) w hw
    have h2 := fun w => rparse_any s (by omega) w
    have l1 := prsT_len s
    obtain ⟨T, hT⟩ : ∃ T, T = (prsT s).1 := ⟨_, rfl⟩
    obtain ⟨Z, hZ⟩ : ∃ Z, Z = (prsT s).2 := ⟨_, rfl⟩
    rw [← hT, ← hZ] at h1 h2
    rw [← hT] at l1
    have C1 := Lib.hid h1
    have C2 := Lib.hid h2
    clear hw h1 h2 hT hZ
    go_enter Tryz.func4, Tryz.ntmps4
    go_wp2_with fail
    have J0 := Lib.hid (Js.start w)
    refine (C1.out w HI.out.2).mono ?_
    intro e w2 h2
    obtain ⟨B2, b2, rfl, -, hi2, hb2⟩ := h2.open
    have K2 := Lib.hid (J0.out.keep hb2)
    have I2 := Lib.hid hi2
    clear h2 hb2 hi2 J0
    go_wp2_with fail
    have hJ2 := K2.out.add (k := b2) I2.out
    obtain ⟨V2, hV2⟩ : ∃ V, V = (w2).alloc (.cells #[.int .i64 (T).a, .int .i64 (T).b, .int .i64 (T).c, .slice B2 (T).xs.length b2] 24) := ⟨_, rfl⟩
    rw [← hV2] at hJ2 ⊢
    have J2 := Lib.hid hJ2
    clear hJ2 hV2 K2 I2
    refine (C2.out V2).mono ?_
    intro e w3 h3
    obtain ⟨B3, b3, rfl, -, hi3, hb3⟩ := h3.open
    have K3 := Lib.hid (J2.out.keep hb3)
    have I3 := Lib.hid hi3
    clear h3 hb3 hi3 J2
    obtain ⟨q0, q1, q2, q3, q4⟩ := (K3.out.b (w2.heap.size, T, B2, b2) (by simp)).b.cells
    go_wp2_with fail
    have hJ3 := K3.out.add (k := b3) I3.out
    obtain ⟨V3, hV3⟩ : ∃ V, V = (w3).alloc (.cells #[.int .i64 (T).a, .int .i64 (T).b, .int .i64 (T).c, .slice B3 (T).xs.length b3] 24) := ⟨_, rfl⟩
    rw [← hV3] at hJ3 ⊢
    have J3 := Lib.hid hJ3
    clear hJ3 hV3 K3 I3
    refine (equalP_any T T (by omega) (by omega) true (by simp) B2 b2 B3 b3 V3 (J3.out.b (w2.heap.size, T, B2, b2) (by simp)).i (J3.out.b (w3.heap.size, T, B3, b3) (by simp)).i).mono ?_
    rintro e w4 ⟨rfl, hb4⟩
    have K4 := Lib.hid (J3.out.keep hb4)
    clear hb4 J3
    have hk5 := Lib.hid (known_any w4 (HI.out.2.below K4.out.o))
    clear q0
    go_wp2_with fail
    refine (hk5.out).mono ?_
    rintro e w5 ⟨rfl, hb5⟩
    have K5 := Lib.hid (K4.out.keep hb5)
    clear hb5 K4
    go_wp2
    go_ret
    exact ⟨rfl, K5.out.o⟩
end Go.Proofs.YtlinldbbhdpgcaaGreatDoor
