/-
  Validate, THE PROGRAM'S AND THE REFERENCE'S.
-/
import Derived.Test.YtplgndllfkceiaaDoorCalC
namespace Go.Proofs.YtplgndllfkceiaaDoor
open Go.RowKit
/-- The hours are no hours of a day. -/
def badHours (s e : Int) : Prop := s < 0 ∨ 1440 ≤ s ∨ e ≤ s ∨ 1440 < e
open Classical in
noncomputable def cerrN (s e : Int) (rs hs : List Int) : Int :=
  if badHours s e then 1 else if ¬ SetTo rs 6 rs.length ∨ rs.length = 7 then 1 else if 32 < hs.length then 4 else if ¬ SetTo hs 1999 hs.length then 1 else 0
noncomputable def cerr (k : Cal) : Int := cerrN k.s k.e k.rs k.hs
theorem cerr_hours {s e : Int} {rs hs : List Int} (h : badHours s e) : cerrN s e rs hs = 1 := if_pos h
theorem cerr_rest {s e : Int} {rs hs : List Int} (h : ¬ badHours s e) (h2 : ¬ SetTo rs 6 rs.length ∨ rs.length = 7) : cerrN s e rs hs = 1 := by rw [cerrN, if_neg h, if_pos h2]
theorem cerr_many {s e : Int} {rs hs : List Int} (h : ¬ badHours s e) (h2 : SetTo rs 6 rs.length) (h3 : rs.length ≠ 7) (h4 : 32 < hs.length) : cerrN s e rs hs = 4 := by
  rw [cerrN, if_neg h, if_neg (by simp [h2, h3]), if_pos h4]
theorem cerr_days {s e : Int} {rs hs : List Int} (h : ¬ badHours s e) (h2 : SetTo rs 6 rs.length) (h3 : rs.length ≠ 7) (h4 : ¬ 32 < hs.length) (h5 : ¬ SetTo hs 1999 hs.length) : cerrN s e rs hs = 1 := by
  rw [cerrN, if_neg h, if_neg (by simp [h2, h3]), if_neg h4, if_pos h5]
theorem cerr_ok {s e : Int} {rs hs : List Int} (h : ¬ badHours s e) (h2 : SetTo rs 6 rs.length) (h3 : rs.length ≠ 7) (h4 : ¬ 32 < hs.length) (h5 : SetTo hs 1999 hs.length) : cerrN s e rs hs = 0 := by
  rw [cerrN, if_neg h, if_neg (by simp [h2, h3]), if_neg h4, if_neg (by simp [h5])]
theorem cerr_zero {k : Cal} (h : cerr k = 0) : ¬ badHours k.s k.e ∧ SetTo k.rs 6 k.rs.length ∧ SetTo k.hs 1999 k.hs.length := by
  unfold cerr cerrN at h
  split at h
  · cases h
  · split at h
    · cases h
    · split at h
      · cases h
      · split at h
        · cases h
        · rename_i h1 h2 h3 h4
          exact ⟨h1, Classical.byContradiction fun hc => h2 (Or.inl hc), Classical.byContradiction fun hc => h4 hc⟩
theorem ret_int2 {a b : Int} (h : b = a) : Ending.returned (.int .i64 a) = .returned (.int .i64 b) := by rw [h]
theorem bool_of (P : Prop) : ∃ b : Bool, b = true ↔ P := by
  by_cases h : P
  · exact ⟨true, by simp [h]⟩
  · exact ⟨false, by simp [h]⟩
set_option maxHeartbeats 4000000 in
theorem validate_any (K : Cal) (z : Int) (hz : cerr K = z) (w : World) (hk : CalIn w K) :
    Calls Tryd.prog 6 #[K.v] w fun e w' => e = .returned (.int .i64 z) ∧ Below w.heap.size w w' := by
  obtain ⟨s, e, A1, n1, c1, A2, n2, c2, rs, hs⟩ := K
  obtain ⟨l1, l2, b1, b2, s1, s2, e1, e2⟩ := hk
  simp only at l1 l2 b1 b2 s1 s2 e1 e2
  simp only [Cal.v]
  have HZ := Lib.hid hz
  have HL := Lib.hid l1
  have HM := Lib.hid l2
  clear hz
  obtain ⟨t1, ht1⟩ := bool_of (SetTo rs 6 n1)
  obtain ⟨t2, ht2⟩ := bool_of (SetTo hs 1999 n2)
  have T1 := Lib.hid ht1
  have T2 := Lib.hid ht2
  clear ht1 ht2
  by_cases c1 : badHours s e
  · have C1 := Lib.hid c1
    by_cases d1 : s < 0
    · clear c1
      go_enter Tryd.func6, Tryd.ntmps6
      go_wp2
      go_ret
      exact ⟨ret_int2 (by rw [← HZ.out]; exact cerr_hours C1.out), (by repeat' (first | (with_reducible exact Below.refl _ _) | (with_reducible assumption) | (with_reducible refine below_drewN ?_ _) | (with_reducible refine below_step (by assumption) ?_ ?_) | (with_reducible refine Below.alloc ?_ ?_ _) | (with_reducible refine Below.setCell ?_ ?_ _) | (with_reducible refine Below.drew ?_) | go_size | (exact Below.size (by assumption)) | (refine Nat.le_trans (Below.size (by assumption)) ?_)))⟩
    · have d1' : 0 ≤ s := by omega
      by_cases d2 : 1440 ≤ s
      · clear c1
        go_enter Tryd.func6, Tryd.ntmps6
        go_wp2
        go_ret
        exact ⟨ret_int2 (by rw [← HZ.out]; exact cerr_hours C1.out), (by repeat' (first | (with_reducible exact Below.refl _ _) | (with_reducible assumption) | (with_reducible refine below_drewN ?_ _) | (with_reducible refine below_step (by assumption) ?_ ?_) | (with_reducible refine Below.alloc ?_ ?_ _) | (with_reducible refine Below.setCell ?_ ?_ _) | (with_reducible refine Below.drew ?_) | go_size | (exact Below.size (by assumption)) | (refine Nat.le_trans (Below.size (by assumption)) ?_)))⟩
      · have d2' : s < 1440 := by omega
        by_cases d3 : e ≤ s
        · clear c1
          go_enter Tryd.func6, Tryd.ntmps6
          go_wp2
          go_ret
          exact ⟨ret_int2 (by rw [← HZ.out]; exact cerr_hours C1.out), (by repeat' (first | (with_reducible exact Below.refl _ _) | (with_reducible assumption) | (with_reducible refine below_drewN ?_ _) | (with_reducible refine below_step (by assumption) ?_ ?_) | (with_reducible refine Below.alloc ?_ ?_ _) | (with_reducible refine Below.setCell ?_ ?_ _) | (with_reducible refine Below.drew ?_) | go_size | (exact Below.size (by assumption)) | (refine Nat.le_trans (Below.size (by assumption)) ?_)))⟩
        · have d4 : 1440 < e := by unfold badHours at c1; omega
          clear c1
          go_enter Tryd.func6, Tryd.ntmps6
          go_wp2
          go_ret
          exact ⟨ret_int2 (by rw [← HZ.out]; exact cerr_hours C1.out), (by repeat' (first | (with_reducible exact Below.refl _ _) | (with_reducible assumption) | (with_reducible refine below_drewN ?_ _) | (with_reducible refine below_step (by assumption) ?_ ?_) | (with_reducible refine Below.alloc ?_ ?_ _) | (with_reducible refine Below.setCell ?_ ?_ _) | (with_reducible refine Below.drew ?_) | go_size | (exact Below.size (by assumption)) | (refine Nat.le_trans (Below.size (by assumption)) ?_)))⟩
  · have C1 := Lib.hid c1
    have d1 : 0 ≤ s := by unfold badHours at c1; omega
    have d2 : s < 1440 := by unfold badHours at c1; omega
    have d3 : s < e := by unfold badHours at c1; omega
    have d4 : e ≤ 1440 := by unfold badHours at c1; omega
    have d3' : decide (e ≤ s) = false := decide_eq_false (by omega)
    have d4' : decide (1440 < e) = false := decide_eq_false (by omega)
    clear c1
    go_enter Tryd.func6, Tryd.ntmps6
    go_wp2_with fail
    refine (isSet_any _ _ _ rs 6 t1 _ (l1.alloc _) b1 T1.out).mono ?_
    rintro e' w1 ⟨rfl, rfl⟩
    cases t1
    · go_wp2
      go_ret
      exact ⟨ret_int2 (by rw [← HZ.out]; exact cerr_rest C1.out (Or.inl fun h => by rw [HL.out.1] at h; exact absurd (T1.out.2 h) (by simp))), (by repeat' (first | (with_reducible exact Below.refl _ _) | (with_reducible assumption) | (with_reducible refine below_drewN ?_ _) | (with_reducible refine below_step (by assumption) ?_ ?_) | (with_reducible refine Below.alloc ?_ ?_ _) | (with_reducible refine Below.setCell ?_ ?_ _) | (with_reducible refine Below.drew ?_) | go_size | (exact Below.size (by assumption)) | (refine Nat.le_trans (Below.size (by assumption)) ?_)))⟩
    · by_cases c7 : n1 = 7
      · subst c7
        go_wp2
        go_ret
        exact ⟨ret_int2 (by rw [← HZ.out]; exact cerr_rest C1.out (Or.inr HL.out.1)), (by repeat' (first | (with_reducible exact Below.refl _ _) | (with_reducible assumption) | (with_reducible refine below_drewN ?_ _) | (with_reducible refine below_step (by assumption) ?_ ?_) | (with_reducible refine Below.alloc ?_ ?_ _) | (with_reducible refine Below.setCell ?_ ?_ _) | (with_reducible refine Below.drew ?_) | go_size | (exact Below.size (by assumption)) | (refine Nat.le_trans (Below.size (by assumption)) ?_)))⟩
      · have c7' : ((n1 : Int) == 7) = false := by rw [beq_eq_false_iff_ne]; omega
        by_cases c8 : 32 < n2
        · go_wp2
          go_ret
          exact ⟨ret_int2 (by rw [← HZ.out]; exact cerr_many C1.out (by rw [HL.out.1]; exact T1.out.1 trivial) (by rw [HL.out.1]; exact c7) (by rw [HM.out.1]; exact c8)), (by repeat' (first | (with_reducible exact Below.refl _ _) | (with_reducible assumption) | (with_reducible refine below_drewN ?_ _) | (with_reducible refine below_step (by assumption) ?_ ?_) | (with_reducible refine Below.alloc ?_ ?_ _) | (with_reducible refine Below.setCell ?_ ?_ _) | (with_reducible refine Below.drew ?_) | go_size | (exact Below.size (by assumption)) | (refine Nat.le_trans (Below.size (by assumption)) ?_)))⟩
        · go_wp2_with fail
          refine (isSet_any _ _ _ hs 1999 t2 _ (l2.alloc _) b2 T2.out).mono ?_
          rintro e' w1 ⟨rfl, rfl⟩
          cases t2
          · go_wp2
            go_ret
            exact ⟨ret_int2 (by rw [← HZ.out]; exact cerr_days C1.out (by rw [HL.out.1]; exact T1.out.1 trivial) (by rw [HL.out.1]; exact c7) (by rw [HM.out.1]; exact c8) (fun h => by rw [HM.out.1] at h; exact absurd (T2.out.2 h) (by simp))), (by repeat' (first | (with_reducible exact Below.refl _ _) | (with_reducible assumption) | (with_reducible refine below_drewN ?_ _) | (with_reducible refine below_step (by assumption) ?_ ?_) | (with_reducible refine Below.alloc ?_ ?_ _) | (with_reducible refine Below.setCell ?_ ?_ _) | (with_reducible refine Below.drew ?_) | go_size | (exact Below.size (by assumption)) | (refine Nat.le_trans (Below.size (by assumption)) ?_)))⟩
          · go_wp2
            go_ret
            exact ⟨ret_int2 (by rw [← HZ.out]; exact cerr_ok C1.out (by rw [HL.out.1]; exact T1.out.1 trivial) (by rw [HL.out.1]; exact c7) (by rw [HM.out.1]; exact c8) (by rw [HM.out.1]; exact T2.out.1 trivial)), (by repeat' (first | (with_reducible exact Below.refl _ _) | (with_reducible assumption) | (with_reducible refine below_drewN ?_ _) | (with_reducible refine below_step (by assumption) ?_ ?_) | (with_reducible refine Below.alloc ?_ ?_ _) | (with_reducible refine Below.setCell ?_ ?_ _) | (with_reducible refine Below.drew ?_) | go_size | (exact Below.size (by assumption)) | (refine Nat.le_trans (Below.size (by assumption)) ?_)))⟩
end Go.Proofs.YtplgndllfkceiaaDoor
