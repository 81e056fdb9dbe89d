/-
  BOOKS: Merge and Extend of the program and of the reference.
-/
import Derived.Test.YtaadelcmhbgpnaaGreatDoorRelA
namespace Go.Proofs.YtaadelcmhbgpnaaGreatDoor
open Go.RowKit
open Go.Lib
def extV (s t : ByteArray) : ByteArray × Int := if (readB 200 1 0 s.data.toList).2 ≠ [] ∨ (readB 200 1 0 (s ++ t).data.toList).2 ≠ [] then (⟨#[]⟩, 15) else (s ++ t, 0)
def mrgV (s t : ByteArray) : ByteArray × Int :=
  if (relV s.data.toList t.data.toList).2.2 ≠ 0 then (⟨#[]⟩, (relV s.data.toList t.data.toList).2.2)
  else if (relV s.data.toList t.data.toList).1 = 3 then (⟨#[]⟩, 8)
  else if (relV s.data.toList t.data.toList).1 = 1 then (t, 0) else (s, 0)
set_option maxRecDepth 100000 in
theorem riswhole_any (s : ByteArray) (hs : s.size ≤ 1000000) (w : World) (hl : LibOK w) :
    Calls Tryz.prog 48 #[.string s] w fun e w' => e = .returned (.bool (decide ((readB 200 1 0 s.data.toList).2 = []))) ∧ Below w.heap.size w w' := by
  have HR := Lib.hid (rread_any s hs w hl)
  clear hl
  go_enter Tryz.func48, Tryz.ntmps48
  go_wp2_with fail
  refine HR.out.mono ?_
  rintro e w1 ⟨v, r, rfl, hr, hO, hb1⟩
  clear HR hO
  by_cases h0 : r.data.toList = []
  · have HZ := Lib.hid (hr.symm.trans h0)
    have e0 := empty_yes h0
    subst e0
    clear h0 hr
    go_wp2
    go_ret
    exact ⟨by rw [decide_eq_true HZ.out] <;> rfl, hb1⟩
  · have HZ := Lib.hid (show (readB 200 1 0 s.data.toList).2 ≠ [] from fun h => h0 (hr.trans h))
    have e1 := empty_no h0
    clear h0 hr
    go_wp2
    go_ret
    exact ⟨by rw [decide_eq_false HZ.out] <;> rfl, hb1⟩
set_option maxRecDepth 100000 in
theorem pextend_any (s t : ByteArray) (hs : s.size ≤ 100000) (ht : t.size ≤ 100000) (r : ByteArray) (z : Int) (hm : extV s t = (r, z)) (w : World) (hl : LibOK w) :
    Calls Tryz.prog 22 #[.string s, .string t] w fun e w' => e = .returned (.tuple #[.string r, .int .i64 z]) ∧ Below w.heap.size w w' := by
  have hst : (s ++ t).size ≤ 200000 := by simp; omega
  have H1 := Lib.hid (piswhole_any s (by omega) w hl)
  have H2 := Lib.hid (fun w' h => piswhole_any (s ++ t) (by omega) w' h)
  have HL := Lib.hid hl
  clear hl
  by_cases h1 : (readB 200 1 0 s.data.toList).2 = []
  rotate_left
  · rw [extV, if_pos (.inl h1)] at hm
    rw [decide_eq_false h1] at H1
    have HM := Lib.hid hm
    clear hm h1
    go_enter Tryz.func22, Tryz.ntmps22
    go_wp2_with fail
    refine H1.out.mono ?_
    rintro e w1 ⟨rfl, hb1⟩
    go_wp2
    go_ret2
    exact ⟨ret_str HM.out, hb1⟩
  rw [decide_eq_true h1] at H1
  by_cases h2 : (readB 200 1 0 (s ++ t).data.toList).2 = []
  rotate_left
  · rw [extV, if_pos (.inr h2)] at hm
    rw [decide_eq_false h2] at H2
    have HM := Lib.hid hm
    clear hm h1 h2
    go_enter Tryz.func22, Tryz.ntmps22
    go_wp2_with fail
    refine H1.out.mono ?_
    rintro e w1 ⟨rfl, hb1⟩
    go_wp2_with fail
    refine (H2.out _ (HL.out.below hb1)).mono ?_
    rintro e w2 ⟨rfl, hb2⟩
    go_wp2
    go_ret2
    exact ⟨ret_str HM.out, hb1.trans (hb2.mono hb1.size)⟩
  · rw [decide_eq_true h2] at H2
    rw [extV, if_neg (fun h => h.elim (fun h => h h1) (fun h => h h2))] at hm
    have HM := Lib.hid hm
    clear hm h1 h2
    go_enter Tryz.func22, Tryz.ntmps22
    go_wp2_with fail
    refine H1.out.mono ?_
    rintro e w1 ⟨rfl, hb1⟩
    go_wp2_with fail
    refine (H2.out _ (HL.out.below hb1)).mono ?_
    rintro e w2 ⟨rfl, hb2⟩
    go_wp2
    go_ret2
    exact ⟨ret_str HM.out, hb1.trans (hb2.mono hb1.size)⟩
set_option maxRecDepth 100000 in
theorem rextend_any (s t : ByteArray) (hs : s.size ≤ 100000) (ht : t.size ≤ 100000) (r : ByteArray) (z : Int) (hm : extV s t = (r, z)) (w : World) (hl : LibOK w) :
    Calls Tryz.prog 23 #[.string s, .string t] w fun e w' => e = .returned (.tuple #[.string r, .int .i64 z]) ∧ Below w.heap.size w w' := by
  have hst : (s ++ t).size ≤ 200000 := by simp; omega
  have H1 := Lib.hid (riswhole_any s (by omega) w hl)
  have H2 := Lib.hid (fun w' h => riswhole_any (s ++ t) (by omega) w' h)
  have HL := Lib.hid hl
  clear hl
  by_cases h1 : (readB 200 1 0 s.data.toList).2 = []
  rotate_left
  · rw [extV, if_pos (.inl h1)] at hm
    rw [decide_eq_false h1] at H1
    have HM := Lib.hid hm
    clear hm h1
    go_enter Tryz.func23, Tryz.ntmps23
    go_wp2_with fail
    refine H1.out.mono ?_
    rintro e w1 ⟨rfl, hb1⟩
    go_wp2
    go_ret2
    exact ⟨ret_str HM.out, hb1⟩
  rw [decide_eq_true h1] at H1
  by_cases h2 : (readB 200 1 0 (s ++ t).data.toList).2 = []
  rotate_left
  · rw [extV, if_pos (.inr h2)] at hm
    rw [decide_eq_false h2] at H2
    have HM := Lib.hid hm
    clear hm h1 h2
    go_enter Tryz.func23, Tryz.ntmps23
    go_wp2_with fail
    refine H1.out.mono ?_
    rintro e w1 ⟨rfl, hb1⟩
    go_wp2_with fail
    refine (H2.out _ (HL.out.below hb1)).mono ?_
    rintro e w2 ⟨rfl, hb2⟩
    go_wp2
    go_ret2
    exact ⟨ret_str HM.out, hb1.trans (hb2.mono hb1.size)⟩
  · rw [decide_eq_true h2] at H2
    rw [extV, if_neg (fun h => h.elim (fun h => h h1) (fun h => h h2))] at hm
    have HM := Lib.hid hm
    clear hm h1 h2
    go_enter Tryz.func23, Tryz.ntmps23
    go_wp2_with fail
    refine H1.out.mono ?_
    rintro e w1 ⟨rfl, hb1⟩
    go_wp2_with fail
    refine (H2.out _ (HL.out.below hb1)).mono ?_
    rintro e w2 ⟨rfl, hb2⟩
    go_wp2
    go_ret2
    exact ⟨ret_str HM.out, hb1.trans (hb2.mono hb1.size)⟩
set_option maxRecDepth 100000 in
set_option maxHeartbeats 1000000 in
theorem pmerge_any (s t : ByteArray) (hs : s.size ≤ 1000000) (ht : t.size ≤ 1000000) (r : ByteArray) (z : Int) (hm : mrgV s t = (r, z)) (w : World) (hl : LibOK w) :
    Calls Tryz.prog 20 #[.string s, .string t] w fun e w' => e = .returned (.tuple #[.string r, .int .i64 z]) ∧ Below w.heap.size w w' := by
  obtain ⟨k, n, e, hr⟩ : ∃ k n e, relV s.data.toList t.data.toList = (k, n, e) := ⟨_, _, _, rfl⟩
  have HR := Lib.hid (prel_any s t hs ht k n e hr w hl)
  unfold mrgV at hm
  rw [hr] at hm
  simp only at hm
  clear hl hr
  by_cases h1 : e = 0
  rotate_left
  · rw [if_pos h1] at hm
    have HM := Lib.hid hm
    have q1 : (e != 0) = true := by rw [bne_iff_ne]; exact h1
    clear hm h1
    go_enter Tryz.func20, Tryz.ntmps20
    go_wp2_with fail
    refine HR.out.mono ?_
    rintro e w1 ⟨rfl, hb1⟩
    go_wp2
    go_ret2
    exact ⟨ret_str HM.out, hb1⟩
  subst h1
  rw [if_neg (by simp)] at hm
  by_cases h2 : k = 3
  · rw [if_pos h2] at hm
    subst h2
    have HM := Lib.hid hm
    clear hm
    go_enter Tryz.func20, Tryz.ntmps20
    go_wp2_with fail
    refine HR.out.mono ?_
    rintro e w1 ⟨rfl, hb1⟩
    go_wp2
    go_ret2
    exact ⟨ret_str HM.out, hb1⟩
  rw [if_neg h2] at hm
  have q2 : (k == 3) = false := by rw [beq_eq_false_iff_ne]; exact h2
  by_cases h3 : k = 1
  · rw [if_pos h3] at hm
    subst h3
    have HM := Lib.hid hm
    clear hm h2 q2
    go_enter Tryz.func20, Tryz.ntmps20
    go_wp2_with fail
    refine HR.out.mono ?_
    rintro e w1 ⟨rfl, hb1⟩
    go_wp2
    go_ret2
    exact ⟨ret_str HM.out, hb1⟩
  · rw [if_neg h3] at hm
    have HM := Lib.hid hm
    have q3 : (k == 1) = false := by rw [beq_eq_false_iff_ne]; exact h3
    clear hm h2 h3
    go_enter Tryz.func20, Tryz.ntmps20
    go_wp2_with fail
    refine HR.out.mono ?_
    rintro e w1 ⟨rfl, hb1⟩
    go_wp2
    go_ret2
    exact ⟨ret_str HM.out, hb1⟩
set_option maxRecDepth 100000 in
set_option maxHeartbeats 1000000 in
theorem rmerge_any (s t : ByteArray) (hs : s.size ≤ 1000000) (ht : t.size ≤ 1000000) (r : ByteArray) (z : Int) (hm : mrgV s t = (r, z)) (w : World) (hl : LibOK w) :
    Calls Tryz.prog 21 #[.string s, .string t] w fun e w' => e = .returned (.tuple #[.string r, .int .i64 z]) ∧ Below w.heap.size w w' := by
  obtain ⟨k, n, e, hr⟩ : ∃ k n e, relV s.data.toList t.data.toList = (k, n, e) := ⟨_, _, _, rfl⟩
  have HR := Lib.hid (rrel_any s t hs ht k n e hr w hl)
  unfold mrgV at hm
  rw [hr] at hm
  simp only at hm
  clear hl hr
  by_cases h1 : e = 0
  rotate_left
  · rw [if_pos h1] at hm
    have HM := Lib.hid hm
    have q1 : (e != 0) = true := by rw [bne_iff_ne]; exact h1
    clear hm h1
    go_enter Tryz.func21, Tryz.ntmps21
    go_wp2_with fail
    refine HR.out.mono ?_
    rintro e w1 ⟨rfl, hb1⟩
    go_wp2
    go_ret2
    exact ⟨ret_str HM.out, hb1⟩
  subst h1
  rw [if_neg (by simp)] at hm
  by_cases h2 : k = 3
  · rw [if_pos h2] at hm
    subst h2
    have HM := Lib.hid hm
    clear hm
    go_enter Tryz.func21, Tryz.ntmps21
    go_wp2_with fail
    refine HR.out.mono ?_
    rintro e w1 ⟨rfl, hb1⟩
    go_wp2
    go_ret2
    exact ⟨ret_str HM.out, hb1⟩
  rw [if_neg h2] at hm
  have q2 : (k == 3) = false := by rw [beq_eq_false_iff_ne]; exact h2
  by_cases h3 : k = 1
  · rw [if_pos h3] at hm
    subst h3
    have HM := Lib.hid hm
    clear hm h2 q2
    go_enter Tryz.func21, Tryz.ntmps21
    go_wp2_with fail
    refine HR.out.mono ?_
    rintro e w1 ⟨rfl, hb1⟩
    go_wp2
    go_ret2
    exact ⟨ret_str HM.out, hb1⟩
  · rw [if_neg h3] at hm
    have HM := Lib.hid hm
    have q3 : (k == 1) = false := by rw [beq_eq_false_iff_ne]; exact h3
    clear hm h2 h3
    go_enter Tryz.func21, Tryz.ntmps21
    go_wp2_with fail
    refine HR.out.mono ?_
    rintro e w1 ⟨rfl, hb1⟩
    go_wp2
    go_ret2
    exact ⟨ret_str HM.out, hb1⟩
end Go.Proofs.YtaadelcmhbgpnaaGreatDoor
