/-
  THE WALK OF THE LAW BookAppends: it returns true.
-/
import Derived.Test.YtaadelcmhbgpnaaDoorBookSums
namespace Go.Proofs.YtaadelcmhbgpnaaDoor
open Go.RowKit
open Go.Lib
set_option maxRecDepth 100000 in
set_option maxHeartbeats 2000000 in
theorem bookAppends_walk (a b : ByteArray) (w : World) (hl : LibOK w) :
    Calls Tryd.prog 4 #[.string a, .string b] w fun e w' => e = .returned (.bool true) ∧ Below w.heap.size w w' := by
  have hI := isS_two w a b 9
  have hB0 := below_new w (.cells #[.string a, .string b] 9)
  have L0 := Lib.hid (hl.below hB0)
  obtain ⟨u, hu⟩ : ∃ u, u = w.alloc (.cells #[.string a, .string b] 9) := ⟨_, rfl⟩
  rw [← hu] at hI hB0 L0
  have HU := Lib.hid hu
  have HL := Lib.hid hl
  have HLG := Lib.hid (long_any (some ⟨w.heap.size, 0, none⟩) 2 [a, b] (by simp) u hI)
  clear hu hI hl
  go_enter Tryd.func4, Tryd.ntmps4
  go_wp2_with fail
  rw [← HU.out]
  refine HLG.out.mono ?_
  rintro e w1 ⟨rfl, rfl⟩
  clear HLG HU
  cases hlong : longL [a, b]
  · obtain ⟨s1, s2⟩ := longL_two hlong
    obtain ⟨r, z, hm⟩ : ∃ r z, appV a b = (r, z) := ⟨_, _, rfl⟩
    have H1 := Lib.hid (fun w' h => pappend_any a b (by omega) (by omega) r z hm w' h)
    have H2 := Lib.hid (fun w' h => rappend_any a b (by omega) (by omega) r z hm w' h)
    clear hlong hm s1 s2
    go_wp2_with fail
    refine (H1.out _ L0.out).mono ?_
    rintro e w1 ⟨rfl, hb1⟩
    have hB1 := hB0.trans (hb1.mono hB0.size)
    have L1 := HL.out.below hB1
    go_wp2_with fail
    refine (H2.out _ L1).mono ?_
    rintro e w2 ⟨rfl, hb2⟩
    have hB2 := hB1.trans (hb2.mono hB1.size)
    have L2 := HL.out.below hB2
    go_wp2_with fail
    refine (sane_any _ L2).mono ?_
    rintro e w3 ⟨rfl, hb3⟩
    go_wp2
    go_ret
    exact ⟨rfl, hB2.trans (hb3.mono hB2.size)⟩
  · clear hlong
    go_wp2_with fail
    refine (sane_any _ L0.out).mono ?_
    rintro e w2 ⟨rfl, hb2⟩
    go_wp2
    go_ret
    exact ⟨rfl, hB0.trans (hb2.mono hB0.size)⟩
end Go.Proofs.YtaadelcmhbgpnaaDoor
