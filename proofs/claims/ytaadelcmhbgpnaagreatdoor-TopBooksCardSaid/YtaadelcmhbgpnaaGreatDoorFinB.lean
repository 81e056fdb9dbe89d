/-
  BOOKS: Find of the program and of the reference.
-/
import Derived.Test.YtaadelcmhbgpnaaGreatDoorWriA
import Derived.Test.YtaadelcmhbgpnaaGreatDoorCopB
namespace Go.Proofs.YtaadelcmhbgpnaaGreatDoor
open Go.RowKit
open Go.Lib
def noLn : Ln := ⟨0, ⟨#[]⟩, 0⟩
/-- What Find returns. -/
def findV (X : List UInt8) (num : Int) : Ln × Int :=
  if (readB 200 1 0 X).2 ≠ [] then (noLn, 15)
  else if num < 1 ∨ ((readB 200 1 0 X).1.length : Int) < num then (noLn, 5)
  else ((lnS 1 0 (readB 200 1 0 X).1).getD (num.toNat - 1) noLn, 0)
theorem ret_ln {x y : Ln} {a b : Int} (h : (x, a) = (y, b)) : Ending.returned (.tuple #[.agg #[.int .i64 x.n, .string x.t, .int .i64 x.z], .int .i64 a]) = .returned (.tuple #[.agg #[.int .i64 y.n, .string y.t, .int .i64 y.z], .int .i64 b]) := by
  simp only [Prod.mk.injEq] at h
  obtain ⟨rfl, rfl⟩ := h
  rfl
set_option maxRecDepth 100000 in
set_option maxHeartbeats 1000000 in
theorem pfind_any (s : ByteArray) (hs : s.size ≤ 1000000) (num : Int) (x : Ln) (z : Int) (hm : findV s.data.toList num = (x, z)) (h1 : -9223372036854775808 ≤ num) (h2 : num ≤ 9223372036854775807) (w : World) (hl : LibOK w) :
    Calls Tryz.prog 14 #[.string s, .int .i64 num] w fun e w' => e = .returned (.tuple #[.agg #[.int .i64 x.n, .string x.t, .int .i64 x.z], .int .i64 z]) ∧ Below w.heap.size w w' := by
  have hX0 := Box3.new w (.int .i64 0) (.string ⟨#[]⟩) (.int .i64 0) 33
  have hB0 := below_new w (.cells #[.int .i64 0, .string ⟨#[]⟩, .int .i64 0] 33)
  obtain ⟨u, hu⟩ : ∃ u, u = w.alloc (.cells #[.int .i64 0, .string ⟨#[]⟩, .int .i64 0] 33) := ⟨_, rfl⟩
  rw [← hu] at hX0 hB0
  have HW := Lib.hid (pwhole_any s hs u (hl.below hB0))
  have HU := Lib.hid hu
  clear hu hl
  by_cases h0 : (readB 200 1 0 s.data.toList).2 = []
  rotate_left
  · rw [findV, if_pos h0] at hm
    have HM := Lib.hid hm
    clear hm
    go_enter Tryz.func14, Tryz.ntmps14
    go_wp2_with fail
    rw [← HU.out]
    refine HW.out.mono ?_
    rintro e w1 ⟨hb1, h⟩
    obtain ⟨x0, x1, x2, y0, y1, y2, y3⟩ := hX0.keep hb1
    have hB1 := hB0.trans (hb1.mono hB0.size)
    rcases h with ⟨h, rfl⟩ | ⟨h, v, rfl, hO⟩
    · clear HW h h0 hX0 hB0 hb1
      go_wp2
      refine bodyPost_ret (v := .tuple #[.agg #[.int .i64 0, .string ⟨#[]⟩, .int .i64 0], .int .i64 15]) (by simp only [results, Tryz.results14]; go_simp) rfl ⟨ret_ln HM.out, (by repeat' (first | (with_reducible exact Below.refl _ _) | (with_reducible assumption) | (with_reducible refine below_drewN ?_ _) | (with_reducible refine below_step (by assumption) ?_ ?_) | (with_reducible refine Below.alloc ?_ ?_ _) | (with_reducible refine Below.setCell ?_ ?_ _) | (with_reducible refine Below.drew ?_) | go_size | (exact Below.size (by assumption)) | (refine Nat.le_trans (Below.size (by assumption)) ?_)))⟩
    · exact absurd h h0
  unfold findV at hm
  rw [if_neg (fun h => h h0)] at hm
  have h200 := read_200 s.data.toList
  obtain ⟨ts, hts⟩ : ∃ ts, ts = (readB 200 1 0 s.data.toList).1 := ⟨_, rfl⟩
  rw [← hts] at hm h200
  have HTS := Lib.hid hts.symm
  have H0 := Lib.hid h0
  clear hts h0
  by_cases hn : num < 1 ∨ (ts.length : Int) < num
  · rw [if_pos hn] at hm
    have HM := Lib.hid hm
    clear hm
    go_enter Tryz.func14, Tryz.ntmps14
    go_wp2_with fail
    rw [← HU.out]
    refine HW.out.mono ?_
    rintro e w1 ⟨hb1, h⟩
    obtain ⟨x0, x1, x2, y0, y1, y2, y3⟩ := hX0.keep hb1
    have hB1 := hB0.trans (hb1.mono hB0.size)
    rcases h with ⟨h, rfl⟩ | ⟨h, v, rfl, hO⟩
    · exact absurd H0.out h
    · rw [HTS.out] at hO
      obtain ⟨A, c, rfl, hI, -⟩ := hO.parts
      rw [lnS_len]
      clear HW h hX0 hB0 hb1 hO hI
      by_cases h1n : num < 1
      · have d1 : decide (num < 1) = true := decide_eq_true h1n
        clear hn h1n
        go_wp2
        refine bodyPost_ret (v := .tuple #[.agg #[.int .i64 0, .string ⟨#[]⟩, .int .i64 0], .int .i64 5]) (by simp only [results, Tryz.results14]; go_simp) rfl ⟨ret_ln HM.out, (by repeat' (first | (with_reducible exact Below.refl _ _) | (with_reducible assumption) | (with_reducible refine below_drewN ?_ _) | (with_reducible refine below_step (by assumption) ?_ ?_) | (with_reducible refine Below.alloc ?_ ?_ _) | (with_reducible refine Below.setCell ?_ ?_ _) | (with_reducible refine Below.drew ?_) | go_size | (exact Below.size (by assumption)) | (refine Nat.le_trans (Below.size (by assumption)) ?_)))⟩
      · have hlt : (ts.length : Int) < num := hn.resolve_left h1n
        have d1 : decide (num < 1) = false := decide_eq_false h1n
        have d2 : decide ((ts.length : Int) < num) = true := decide_eq_true hlt
        clear hn h1n
        go_wp2
        refine bodyPost_ret (v := .tuple #[.agg #[.int .i64 0, .string ⟨#[]⟩, .int .i64 0], .int .i64 5]) (by simp only [results, Tryz.results14]; go_simp) rfl ⟨ret_ln HM.out, (by repeat' (first | (with_reducible exact Below.refl _ _) | (with_reducible assumption) | (with_reducible refine below_drewN ?_ _) | (with_reducible refine below_step (by assumption) ?_ ?_) | (with_reducible refine Below.alloc ?_ ?_ _) | (with_reducible refine Below.setCell ?_ ?_ _) | (with_reducible refine Below.drew ?_) | go_size | (exact Below.size (by assumption)) | (refine Nat.le_trans (Below.size (by assumption)) ?_)))⟩
  · rw [if_neg hn] at hm
    have hn1 : 1 ≤ num ∧ num ≤ ts.length := by omega
    obtain ⟨k, rfl⟩ : ∃ k : Nat, num = (k : Int) + 1 := ⟨(num - 1).toNat, by omega⟩
    have hk : k < ts.length := by omega
    have hk2 : k < (lnS 1 0 ts).length := by rw [lnS_len]; exact hk
    rw [show ((k : Int) + 1).toNat - 1 = k by omega, List.getD_eq_getElem?_getD, List.getElem?_eq_getElem hk2, Option.getD_some] at hm
    have d1 : decide ((k : Int) + 1 < 1) = false := decide_eq_false (by omega)
    have d2 : decide ((ts.length : Int) < (k : Int) + 1) = false := decide_eq_false (by omega)
    have HM := Lib.hid hm
    clear hm hn hn1
    go_enter Tryz.func14, Tryz.ntmps14
    go_wp2_with fail
    rw [← HU.out]
    refine HW.out.mono ?_
    rintro e w1 ⟨hb1, h⟩
    obtain ⟨x0, x1, x2, y0, y1, y2, y3⟩ := hX0.keep hb1
    have hB1 := hB0.trans (hb1.mono hB0.size)
    rcases h with ⟨h, rfl⟩ | ⟨h, v, rfl, hO⟩
    · exact absurd H0.out h
    · rw [HTS.out] at hO
      obtain ⟨A, c, rfl, hI, -⟩ := hO.parts
      rw [lnS_len]
      obtain ⟨b, o, rfl, hb, hc⟩ := hI (by omega)
      obtain ⟨q0, q1, q2⟩ := hc k hk2
      obtain ⟨y, hy⟩ : ∃ y, y = (lnS 1 0 ts)[k] := ⟨_, rfl⟩
      rw [← hy] at q0 q1 q2 HM
      clear HW h hX0 hB0 hb1 hO hI hc hy hk2
      go_wp2
      refine bodyPost_ret (v := .tuple #[.agg #[.int .i64 y.n, .string y.t, .int .i64 y.z], .int .i64 0]) (by simp only [results, Tryz.results14]; go_simp) rfl ⟨ret_ln HM.out, (by repeat' (first | (with_reducible exact Below.refl _ _) | (with_reducible assumption) | (with_reducible refine below_drewN ?_ _) | (with_reducible refine below_step (by assumption) ?_ ?_) | (with_reducible refine Below.alloc ?_ ?_ _) | (with_reducible refine Below.setCell ?_ ?_ _) | (with_reducible refine Below.drew ?_) | go_size | (exact Below.size (by assumption)) | (refine Nat.le_trans (Below.size (by assumption)) ?_)))⟩
set_option maxRecDepth 100000 in
set_option maxHeartbeats 1000000 in
theorem rfind_any (s : ByteArray) (hs : s.size ≤ 1000000) (num : Int) (x : Ln) (z : Int) (hm : findV s.data.toList num = (x, z)) (h1 : -9223372036854775808 ≤ num) (h2 : num ≤ 9223372036854775807) (w : World) (hl : LibOK w) :
    Calls Tryz.prog 15 #[.string s, .int .i64 num] w fun e w' => e = .returned (.tuple #[.agg #[.int .i64 x.n, .string x.t, .int .i64 x.z], .int .i64 z]) ∧ Below w.heap.size w w' := by
  have hX0 := Box3.new w (.int .i64 0) (.string ⟨#[]⟩) (.int .i64 0) 33
  have hB0 := below_new w (.cells #[.int .i64 0, .string ⟨#[]⟩, .int .i64 0] 33)
  obtain ⟨u, hu⟩ : ∃ u, u = w.alloc (.cells #[.int .i64 0, .string ⟨#[]⟩, .int .i64 0] 33) := ⟨_, rfl⟩
  rw [← hu] at hX0 hB0
  have HW := Lib.hid (rread_any s hs u (hl.below hB0))
  have HU := Lib.hid hu
  clear hu hl
  by_cases h0 : (readB 200 1 0 s.data.toList).2 = []
  rotate_left
  · rw [findV, if_pos h0] at hm
    have HM := Lib.hid hm
    clear hm
    go_enter Tryz.func15, Tryz.ntmps15
    go_wp2_with fail
    rw [← HU.out]
    refine HW.out.mono ?_
    rintro e w1 ⟨v, u', rfl, hu', hO, hb1⟩
    obtain ⟨x0, x1, x2, y0, y1, y2, y3⟩ := hX0.keep hb1
    have hB1 := hB0.trans (hb1.mono hB0.size)
    have e1 := empty_no (r := u') (fun h => h0 (hu'.symm.trans h))
    · clear HW hu' hO h0 hX0 hB0 hb1
      go_wp2
      refine bodyPost_ret (v := .tuple #[.agg #[.int .i64 0, .string ⟨#[]⟩, .int .i64 0], .int .i64 15]) (by simp only [results, Tryz.results15]; go_simp) rfl ⟨ret_ln HM.out, (by repeat' (first | (with_reducible exact Below.refl _ _) | (with_reducible assumption) | (with_reducible refine below_drewN ?_ _) | (with_reducible refine below_step (by assumption) ?_ ?_) | (with_reducible refine Below.alloc ?_ ?_ _) | (with_reducible refine Below.setCell ?_ ?_ _) | (with_reducible refine Below.drew ?_) | go_size | (exact Below.size (by assumption)) | (refine Nat.le_trans (Below.size (by assumption)) ?_)))⟩
  unfold findV at hm
  rw [if_neg (fun h => h h0)] at hm
  have h200 := read_200 s.data.toList
  obtain ⟨ts, hts⟩ : ∃ ts, ts = (readB 200 1 0 s.data.toList).1 := ⟨_, rfl⟩
  rw [← hts] at hm h200
  have HTS := Lib.hid hts.symm
  have H0 := Lib.hid h0
  clear hts h0
  by_cases hn : num < 1 ∨ (ts.length : Int) < num
  · rw [if_pos hn] at hm
    have HM := Lib.hid hm
    clear hm
    go_enter Tryz.func15, Tryz.ntmps15
    go_wp2_with fail
    rw [← HU.out]
    refine HW.out.mono ?_
    rintro e w1 ⟨v, u', rfl, hu', hO, hb1⟩
    obtain ⟨x0, x1, x2, y0, y1, y2, y3⟩ := hX0.keep hb1
    have hB1 := hB0.trans (hb1.mono hB0.size)
    have e0 := empty_yes (hu'.trans H0.out)
    subst e0
    clear hu'
    · rw [HTS.out] at hO
      obtain ⟨A, c, rfl, hI, -⟩ := hO.parts
      rw [lnS_len]
      clear HW hX0 hB0 hb1 hO hI
      by_cases h1n : num < 1
      · have d1 : decide (num < 1) = true := decide_eq_true h1n
        clear hn h1n
        go_wp2
        refine bodyPost_ret (v := .tuple #[.agg #[.int .i64 0, .string ⟨#[]⟩, .int .i64 0], .int .i64 5]) (by simp only [results, Tryz.results15]; go_simp) rfl ⟨ret_ln HM.out, (by repeat' (first | (with_reducible exact Below.refl _ _) | (with_reducible assumption) | (with_reducible refine below_drewN ?_ _) | (with_reducible refine below_step (by assumption) ?_ ?_) | (with_reducible refine Below.alloc ?_ ?_ _) | (with_reducible refine Below.setCell ?_ ?_ _) | (with_reducible refine Below.drew ?_) | go_size | (exact Below.size (by assumption)) | (refine Nat.le_trans (Below.size (by assumption)) ?_)))⟩
      · have hlt : (ts.length : Int) < num := hn.resolve_left h1n
        have d1 : decide (num < 1) = false := decide_eq_false h1n
        have d2 : decide ((ts.length : Int) < num) = true := decide_eq_true hlt
        clear hn h1n
        go_wp2
        refine bodyPost_ret (v := .tuple #[.agg #[.int .i64 0, .string ⟨#[]⟩, .int .i64 0], .int .i64 5]) (by simp only [results, Tryz.results15]; go_simp) rfl ⟨ret_ln HM.out, (by repeat' (first | (with_reducible exact Below.refl _ _) | (with_reducible assumption) | (with_reducible refine below_drewN ?_ _) | (with_reducible refine below_step (by assumption) ?_ ?_) | (with_reducible refine Below.alloc ?_ ?_ _) | (with_reducible refine Below.setCell ?_ ?_ _) | (with_reducible refine Below.drew ?_) | go_size | (exact Below.size (by assumption)) | (refine Nat.le_trans (Below.size (by assumption)) ?_)))⟩
  · rw [if_neg hn] at hm
    have hn1 : 1 ≤ num ∧ num ≤ ts.length := by omega
    obtain ⟨k, rfl⟩ : ∃ k : Nat, num = (k : Int) + 1 := ⟨(num - 1).toNat, by omega⟩
    have hk : k < ts.length := by omega
    have hk2 : k < (lnS 1 0 ts).length := by rw [lnS_len]; exact hk
    rw [show ((k : Int) + 1).toNat - 1 = k by omega, List.getD_eq_getElem?_getD, List.getElem?_eq_getElem hk2, Option.getD_some] at hm
    have d1 : decide ((k : Int) + 1 < 1) = false := decide_eq_false (by omega)
    have d2 : decide ((ts.length : Int) < (k : Int) + 1) = false := decide_eq_false (by omega)
    have HM := Lib.hid hm
    clear hm hn hn1
    go_enter Tryz.func15, Tryz.ntmps15
    go_wp2_with fail
    rw [← HU.out]
    refine HW.out.mono ?_
    rintro e w1 ⟨v, u', rfl, hu', hO, hb1⟩
    obtain ⟨x0, x1, x2, y0, y1, y2, y3⟩ := hX0.keep hb1
    have hB1 := hB0.trans (hb1.mono hB0.size)
    have e0 := empty_yes (hu'.trans H0.out)
    subst e0
    clear hu'
    · rw [HTS.out] at hO
      obtain ⟨A, c, rfl, hI, -⟩ := hO.parts
      rw [lnS_len]
      obtain ⟨b, o, rfl, hb, hc⟩ := hI (by omega)
      obtain ⟨q0, q1, q2⟩ := hc k hk2
      obtain ⟨y, hy⟩ : ∃ y, y = (lnS 1 0 ts)[k] := ⟨_, rfl⟩
      rw [← hy] at q0 q1 q2 HM
      clear HW hX0 hB0 hb1 hO hI hc hy hk2
      go_wp2
      refine bodyPost_ret (v := .tuple #[.agg #[.int .i64 y.n, .string y.t, .int .i64 y.z], .int .i64 0]) (by simp only [results, Tryz.results15]; go_simp) rfl ⟨ret_ln HM.out, (by repeat' (first | (with_reducible exact Below.refl _ _) | (with_reducible assumption) | (with_reducible refine below_drewN ?_ _) | (with_reducible refine below_step (by assumption) ?_ ?_) | (with_reducible refine Below.alloc ?_ ?_ _) | (with_reducible refine Below.setCell ?_ ?_ _) | (with_reducible refine Below.drew ?_) | go_size | (exact Below.size (by assumption)) | (refine Nat.le_trans (Below.size (by assumption)) ?_)))⟩
end Go.Proofs.YtaadelcmhbgpnaaGreatDoor
/-
  BOOKS: Since of the program and of the reference.
-/
namespace Go.Proofs.YtaadelcmhbgpnaaGreatDoor
open Go.RowKit
open Go.Lib
attribute [local go_sem] grow_cell grow_frozen
/-- What Since returns. -/
def sinceV (X : List UInt8) (num : Int) : ByteArray × Int :=
  if (readB 200 1 0 X).2 ≠ [] then (⟨#[]⟩, 15)
  else if num < 1 ∨ ((readB 200 1 0 X).1.length : Int) + 1 < num then (⟨#[]⟩, 5)
  else (⟨(writeB (1 + (num.toNat - 1)) (endZ 1 0 ((readB 200 1 0 X).1.take (num.toNat - 1))) ((readB 200 1 0 X).1.drop (num.toNat - 1))).toArray⟩, 0)
set_option maxRecDepth 100000 in
set_option maxHeartbeats 1000000 in
theorem psince_any (s : ByteArray) (hs : s.size ≤ 1000000) (num : Int) (r : ByteArray) (z : Int) (hm : sinceV s.data.toList num = (r, z)) (h1 : -9223372036854775808 ≤ num) (h2 : num ≤ 9223372036854775807) (w : World) (hl : LibOK w) :
    Calls Tryz.prog 16 #[.string s, .int .i64 num] w fun e w' => e = .returned (.tuple #[.string r, .int .i64 z]) ∧ Below w.heap.size w w' := by
  have HW := Lib.hid (pwhole_any s hs w hl)
  by_cases h0 : (readB 200 1 0 s.data.toList).2 = []
  rotate_left
  · rw [sinceV, if_pos h0] at hm
    have HM := Lib.hid hm
    clear hm hl
    go_enter Tryz.func16, Tryz.ntmps16
    go_wp2_with fail
    refine HW.out.mono ?_
    rintro e w1 ⟨hb1, h⟩
    rcases h with ⟨h, rfl⟩ | ⟨h, v, rfl, hO⟩
    · clear HW h h0
      go_wp2
      go_ret2
      exact ⟨ret_str HM.out, hb1⟩
    · exact absurd h h0
  unfold sinceV at hm
  rw [if_neg (fun h => h h0)] at hm
  have h200 := read_200 s.data.toList
  obtain ⟨ts, hts⟩ : ∃ ts, ts = (readB 200 1 0 s.data.toList).1 := ⟨_, rfl⟩
  rw [← hts] at hm h200
  by_cases hn : num < 1 ∨ (ts.length : Int) + 1 < num
  · rw [if_pos hn] at hm
    have HTS := Lib.hid hts.symm
    have H0 := Lib.hid h0
    have HM := Lib.hid hm
    clear hm hl hts h0
    go_enter Tryz.func16, Tryz.ntmps16
    go_wp2_with fail
    refine HW.out.mono ?_
    rintro e w1 ⟨hb1, h⟩
    rcases h with ⟨h, rfl⟩ | ⟨h, v, rfl, hO⟩
    · exact absurd H0.out h
    · rw [HTS.out] at hO
      obtain ⟨A, c, rfl, hI, -⟩ := hO.parts
      rw [lnS_len]
      clear HW h hO hI
      by_cases h1n : num < 1
      · have d1 : decide (num < 1) = true := decide_eq_true h1n
        clear hn h1n
        go_wp2
        go_ret2
        exact ⟨ret_str HM.out, hb1⟩
      · have hlt : (ts.length : Int) + 1 < num := hn.resolve_left h1n
        have d1 : decide (num < 1) = false := decide_eq_false h1n
        have d2 : decide ((ts.length : Int) + 1 < num) = true := decide_eq_true hlt
        clear hn h1n
        go_wp2
        go_ret2
        exact ⟨ret_str HM.out, hb1⟩
  · rw [if_neg hn] at hm
    obtain ⟨k, rfl⟩ : ∃ k : Nat, num = (k : Int) + 1 := ⟨(num - 1).toNat, by omega⟩
    rw [show ((k : Int) + 1).toNat - 1 = k by omega] at hm
    have hrd : readB 200 1 0 s.data.toList = (ts, []) := by rw [hts, ← h0]
    refine (psince_yes s hs ts hrd k (by omega) w hl).mono ?_
    rintro e w1 ⟨rfl, hb1⟩
    exact ⟨ret_str hm, hb1⟩
theorem IsLn.take2 {w : World} {A : Option Addr} {l : List Ln} (h : IsLn w A l) (j : Nat) : IsLn w A (l.take j) := by
  intro hp
  rw [List.length_take] at hp
  obtain ⟨b, o, rfl, hb, hc⟩ := h (by omega)
  refine ⟨b, o, rfl, hb, fun k hk => ?_⟩
  rw [List.length_take] at hk
  rw [List.getElem_take]
  exact hc k (by omega)
theorem lnS_take3 : ∀ (ts : List (List UInt8)) (m : Nat) (b : Int) (j : Nat), lnS m b (ts.take j) = (lnS m b ts).take j
  | [], m, b, j => by simp [lnS]
  | t :: ts, m, b, 0 => by simp [lnS]
  | t :: ts, m, b, j + 1 => by simp [lnS, lnS_take3 ts]
set_option maxRecDepth 100000 in
set_option maxHeartbeats 2000000 in
theorem rtexts_any (ts : List (List UInt8)) (A : Option Addr) (c : Nat) (hc : ts.length ≤ c) (hn : ts.length ≤ 200) (hr : Rights ts) (j : Nat) (hj : j ≤ ts.length) (w : World) (hl : LibOK w) (hI : IsLn w A (lnS 1 0 ts)) :
    Calls Tryz.prog 47 #[.slice A ts.length c, .int .i64 j] w fun e w' => e = .returned (.string ⟨(writeB (1 + j) (endZ 1 0 (ts.take j)) (ts.drop j)).toArray⟩) ∧ Below w.heap.size w w' := by
  have HI := Lib.hid hI
  have HL := Lib.hid hl
  have HRR := Lib.hid hr
  clear hI hl hr
  go_enter Tryz.func47, Tryz.ntmps47
  go_upto_region 3 with fail
  go_loopw [5, 6] (fun v i wr => ∃ (k : Nat) (s : ByteArray), v = .string s ∧ i = .int .i64 k ∧ j ≤ k ∧ k ≤ ts.length ∧ s.size ≤ 97 * 200 ∧ Hid (writeB 1 0 (ts.take k) = writeB 1 0 (ts.take j) ++ s.data.toList) ∧ Hid (Below w.heap.size w wr)) (fun _ i _ => ts.length - (RowKit.intOf i).toNat)
  case atStart => exact ⟨j, ⟨#[]⟩, rfl, rfl, Nat.le_refl _, hj, by decide, Lib.hid (by simp), Lib.hid (Below.refl _ _)⟩
  case round =>
    obtain ⟨k, s, rfl, rfl, hjk, hk, hsz, hS, hB⟩ := hrel
    by_cases hlt : k < ts.length
    · have dl : decide ((k : Int) < (ts.length : Int)) = true := decide_eq_true (by omega)
      have hIr := HI.out.below hB.out
      have hT := hIr.take2 k
      rw [← lnS_take3] at hT
      have HT := Lib.hid hT
      obtain ⟨b, o, rfl, hb, hcc⟩ := hIr (by rw [lnS_len]; omega)
      obtain ⟨q0, q1, -⟩ := ln_at hlt hcc
      have hwt := writeB_take (n := 1) (b := 0) hlt
      have hrt := HRR.out ts[k] (List.getElem_mem hlt)
      have hwl := writeB_len (ts.take (k + 1)) 1 0 (by rw [List.length_take]; omega) (fun u hu => HRR.out u (List.mem_of_mem_take hu))
      rw [List.length_take] at hwl
      obtain ⟨t, ht⟩ : ∃ t, t = ts[k] := ⟨_, rfl⟩
      obtain ⟨z, hz⟩ : ∃ z, z = endZ 1 0 (ts.take k) := ⟨_, rfl⟩
      obtain ⟨m, hm⟩ : ∃ m, m = 1 + k := ⟨_, rfl⟩
      rw [← hm] at q0
      rw [← ht] at q1 hrt
      rw [← ht, ← hz, ← hm] at hwt
      obtain ⟨T, hTT⟩ : ∃ T : ByteArray, T = ⟨t.toArray⟩ := ⟨_, rfl⟩
      have hTl : T.data.toList = t := by rw [hTT]
      rw [← hTT] at q1
      rw [← hTl] at hwt hrt
      have hTs : T.size ≤ 80 := by rw [← lt_list]; exact (rightT_iff.1 hrt).2.1
      have HWR := Lib.hid (fun w' h => rwrite_any m (by omega) z T (by omega) w' h)
      have HLA := Lib.hid (fun c w' h => rlast_any (ts.take k) (some ⟨b, o, none⟩) c (by rw [List.length_take]; omega) w' h)
      rw [← hz, List.length_take, Nat.min_eq_left (by omega)] at HLA
      obtain ⟨F, hF⟩ : ∃ F : ByteArray, F = ⟨(lineT m z T.data.toList).toArray⟩ := ⟨_, rfl⟩
      have hFl : F.data.toList = lineT m z T.data.toList := by rw [hF]
      rw [← hF] at HWR
      rw [← hFl] at hwt
      have hS2 : writeB 1 0 (ts.take (k + 1)) = writeB 1 0 (ts.take j) ++ (s ++ F).data.toList := by
        rw [hwt, hS.out]; simp
      have hsz2 : (s ++ F).size ≤ 97 * 200 := by
        have := congrArg List.length hS2
        rw [List.length_append, lt_list] at this
        omega
      have HS2 := Lib.hid hS2
      have L1 := Lib.hid (HL.out.below hB.out)
      have hFs : F.size ≤ 97 * 200 := by simp at hsz2; omega
      clear hIr hT hcc hwt hrt hwl ht hz hm hTT hTl hF hFl hS2 hS
      go_upto_region 5 with fail
      refine region_grow (by kernel_rfl) (by kernel_rfl) ?_
      repeat (go_big_quiet_step ((first | (go_at_call 77; exact grow_call_same (HLA.out _ _ (HT.out.below (below_grow _ _)))) | (go_at_call 76; exact grow_call (HWR.out _ (L1.out.below (below_grow _ _)))))))
      refine wpQuiet_nil ?_
      rintro w5 ⟨xg, hxg⟩
      have hb5 := below_grow wr xg
      rw [← hxg] at hb5
      clear hxg xg
      have HB5 := Lib.hid (hB.out.trans (hb5.mono hB.out.size))
      clear hb5 q0 q1
      go_wp2
      go_roundw
      case rel => exact ⟨k + 1, s ++ F, rfl, by go_num, by omega, by omega, hsz2, HS2, HB5⟩
      case measure => simp [RowKit.intOf]; omega
    · obtain rfl : k = ts.length := by omega
      have HFI := Lib.hid (show s = ⟨(writeB (1 + j) (endZ 1 0 (ts.take j)) (ts.drop j)).toArray⟩ by
        refine toList_inj ?_
        have h1 := hS.out
        rw [List.take_length] at h1
        have h2 : writeB 1 0 ts = writeB 1 0 (ts.take j) ++ writeB (1 + j) (endZ 1 0 (ts.take j)) (ts.drop j) := by
          conv => lhs; rw [← List.take_append_drop j ts]
          rw [writeB_app, List.length_take, Nat.min_eq_left hjk]
        exact (List.append_cancel_left (h1.symm.trans h2)))
      clear hS
      go_wp2
      go_ret
      exact ⟨by rw [← HFI.out] <;> rfl, hB.out⟩
set_option maxRecDepth 100000 in
set_option maxHeartbeats 1000000 in
theorem rsince_any (s : ByteArray) (hs : s.size ≤ 1000000) (num : Int) (r : ByteArray) (z : Int) (hm : sinceV s.data.toList num = (r, z)) (h1 : -9223372036854775808 ≤ num) (h2 : num ≤ 9223372036854775807) (w : World) (hl : LibOK w) :
    Calls Tryz.prog 17 #[.string s, .int .i64 num] w fun e w' => e = .returned (.tuple #[.string r, .int .i64 z]) ∧ Below w.heap.size w w' := by
  have HW := Lib.hid (rread_any s hs w hl)
  have HL := Lib.hid hl
  have hrr := reads_rights s.data.toList
  clear hl
  by_cases h0 : (readB 200 1 0 s.data.toList).2 = []
  rotate_left
  · rw [sinceV, if_pos h0] at hm
    have HM := Lib.hid hm
    clear hm hrr
    go_enter Tryz.func17, Tryz.ntmps17
    go_wp2_with fail
    refine HW.out.mono ?_
    rintro e w1 ⟨v, u, rfl, hu, hO, hb1⟩
    have e1 := empty_no (r := u) (fun h => h0 (hu.symm.trans h))
    clear HW hu hO h0
    go_wp2
    go_ret2
    exact ⟨ret_str HM.out, hb1⟩
  unfold sinceV at hm
  rw [if_neg (fun h => h h0)] at hm
  have h200 := read_200 s.data.toList
  obtain ⟨ts, hts⟩ : ∃ ts, ts = (readB 200 1 0 s.data.toList).1 := ⟨_, rfl⟩
  rw [← hts] at hm h200 hrr
  have HRR := Lib.hid hrr
  have HTS := Lib.hid hts.symm
  have H0 := Lib.hid h0
  clear hrr hts h0
  by_cases hn : num < 1 ∨ (ts.length : Int) + 1 < num
  · rw [if_pos hn] at hm
    have HM := Lib.hid hm
    clear hm
    go_enter Tryz.func17, Tryz.ntmps17
    go_wp2_with fail
    refine HW.out.mono ?_
    rintro e w1 ⟨v, u, rfl, hu, hO, hb1⟩
    have e0 := empty_yes (hu.trans H0.out)
    subst e0
    rw [HTS.out] at hO
    obtain ⟨A, c, rfl, hI, -⟩ := hO.parts
    rw [lnS_len]
    clear HW hu hO hI
    by_cases h1n : num < 1
    · have d1 : decide (num < 1) = true := decide_eq_true h1n
      clear hn h1n
      go_wp2
      go_ret2
      exact ⟨ret_str HM.out, hb1⟩
    · have hlt : (ts.length : Int) + 1 < num := hn.resolve_left h1n
      have d1 : decide (num < 1) = false := decide_eq_false h1n
      have d2 : decide ((ts.length : Int) + 1 < num) = true := decide_eq_true hlt
      clear hn h1n
      go_wp2
      go_ret2
      exact ⟨ret_str HM.out, hb1⟩
  · rw [if_neg hn] at hm
    obtain ⟨k, rfl⟩ : ∃ k : Nat, num = (k : Int) + 1 := ⟨(num - 1).toNat, by omega⟩
    rw [show ((k : Int) + 1).toNat - 1 = k by omega] at hm
    have hkk : k ≤ ts.length := by omega
    have HM := Lib.hid hm
    clear hm hn h1 h2
    go_enter Tryz.func17, Tryz.ntmps17
    go_wp2_with fail
    refine HW.out.mono ?_
    rintro e w1 ⟨v, u, rfl, hu, hO, hb1⟩
    have e0 := empty_yes (hu.trans H0.out)
    subst e0
    rw [HTS.out] at hO
    obtain ⟨A, c, rfl, hI, hcc⟩ := hO.parts
    rw [lnS_len] at hcc ⊢
    have HI := Lib.hid hI
    have L1 := Lib.hid (HL.out.below hb1)
    clear HW hu hO hI
    have dl : ¬ (ts.length : Int) + 1 < (k : Int) + 1 := by omega
    go_wp2_with fail
    refine (rtexts_any ts A c hcc h200 HRR.out k hkk w1 L1.out HI.out).mono ?_
    rintro e w2 ⟨rfl, hb2⟩
    go_wp2
    go_ret2
    exact ⟨ret_str HM.out, hb1.trans (hb2.mono hb1.size)⟩
end Go.Proofs.YtaadelcmhbgpnaaGreatDoor
