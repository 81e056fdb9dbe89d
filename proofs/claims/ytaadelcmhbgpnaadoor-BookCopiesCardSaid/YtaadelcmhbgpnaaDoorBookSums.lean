/-
  THE WALK OF THE LAW BookSums: it returns true.
-/
import Derived.Test.YtaadelcmhbgpnaaDoorBokZ
namespace Go.Proofs.YtaadelcmhbgpnaaDoor
open Go.RowKit
open Go.Lib
theorem isS_two (w : World) (a b : ByteArray) (t : TypeId) : IsS (w.alloc (.cells #[.string a, .string b] t)) (some ⟨w.heap.size, 0, none⟩) 2 [a, b] := by
  refine ⟨rfl, fun _ => ⟨w.heap.size, 0, rfl, by simp, fun i hi => ?_⟩⟩
  match i, hi with
  | 0, _ => simp [go_sem]
  | 1, _ => simp [go_sem]
theorem isS_one (w : World) (a : ByteArray) (t : TypeId) : IsS (w.alloc (.cells #[.string a] t)) (some ⟨w.heap.size, 0, none⟩) 1 [a] := by
  refine ⟨rfl, fun _ => ⟨w.heap.size, 0, rfl, by simp, fun i hi => ?_⟩⟩
  match i, hi with
  | 0, _ => simp [go_sem]
theorem longL_two {a b : ByteArray} (h : longL [a, b] = false) : a.size ≤ 30000 ∧ b.size ≤ 30000 := by
  unfold longL at h
  simp at h
  exact h
theorem longL_one {a : ByteArray} (h : longL [a] = false) : a.size ≤ 30000 := by
  unfold longL at h
  simp at h
  exact h
set_option maxRecDepth 100000 in
set_option maxHeartbeats 2000000 in
theorem bookSums_walk (p : Int) (a b : ByteArray) (w : World) (hl : LibOK w) :
    Calls Tryd.prog 3 #[.int .i64 p, .string a, .string b] w fun e w' => e = .returned (.bool true) ∧ Below w.heap.size w w' := by
  have hI := isS_two w a b 9
  have hB0 := below_new w (.cells #[.string a, .string b] 9)
  have L0 := Lib.hid (hl.below hB0)
  obtain ⟨u, hu⟩ : ∃ u, u = w.alloc (.cells #[.string a, .string b] 9) := ⟨_, rfl⟩
  rw [← hu] at hI hB0 L0
  have HU := Lib.hid hu
  have HLG := Lib.hid (long_any (some ⟨w.heap.size, 0, none⟩) 2 [a, b] (by simp) u hI)
  clear hu hI hl
  go_enter Tryd.func3, Tryd.ntmps3
  go_wp2_with fail
  rw [← HU.out]
  refine HLG.out.mono ?_
  rintro e w1 ⟨rfl, rfl⟩
  clear HLG HU
  cases hlong : longL [a, b]
  · obtain ⟨s1, s2⟩ := longL_two hlong
    have hab : (a ++ b).size ≤ 1000000 := by simp; omega
    have hsum : sumT (sumT p a.data.toList) b.data.toList = sumT p (a ++ b).data.toList := by rw [sumT_app]; simp
    have H1 := Lib.hid (fun w' => psum_any p a (by omega) w')
    have H2 := Lib.hid (fun w' => rsum_any p a (by omega) w')
    have H3 := Lib.hid (fun q w' => psum_any q b (by omega) w')
    have H4 := Lib.hid (fun w' => psum_any p (a ++ b) hab w')
    obtain ⟨x, hx⟩ : ∃ x, x = sumT p a.data.toList := ⟨_, rfl⟩
    obtain ⟨y, hy⟩ : ∃ y, y = sumT p (a ++ b).data.toList := ⟨_, rfl⟩
    rw [← hx, ← hy] at hsum
    rw [← hx] at H1 H2
    rw [← hy] at H4
    have H3 := Lib.hid (H3.out x)
    rw [hsum] at H3
    clear hsum hx hy hlong
    go_wp2_with fail
    refine (H1.out _).mono ?_
    rintro e w1 ⟨rfl, rfl⟩
    go_wp2_with fail
    refine (H2.out _).mono ?_
    rintro e w1 ⟨rfl, rfl⟩
    go_wp2_with fail
    refine (H1.out _).mono ?_
    rintro e w1 ⟨rfl, rfl⟩
    go_wp2_with fail
    refine (H3.out _).mono ?_
    rintro e w1 ⟨rfl, rfl⟩
    go_wp2_with fail
    refine (H4.out _).mono ?_
    rintro e w1 ⟨rfl, rfl⟩
    go_wp2_with fail
    refine (sane_any _ L0.out).mono ?_
    rintro e w2 ⟨rfl, hb2⟩
    go_wp2
    go_ret
    exact ⟨rfl, hB0.trans (hb2.mono hB0.size)⟩
  · clear hlong
    go_wp2_with fail
    refine (sane_any _ L0.out).mono ?_
    rintro e w2 ⟨rfl, hb2⟩
    go_wp2
    go_ret
    exact ⟨rfl, hB0.trans (hb2.mono hB0.size)⟩
end Go.Proofs.YtaadelcmhbgpnaaDoor
