/-
  BOOKS: Find of the program and of the reference.
-/
import Derived.Test.YtaadelcmhbgpnaaGreatDoorWriA
namespace Go.Proofs.YtaadelcmhbgpnaaGreatDoor
open Go.RowKit
open Go.Lib
def noLn : Ln := ⟨0, ⟨#[]⟩, 0⟩
/-- What Find returns. -/
def findV (X : List UInt8) (num : Int) : Ln × Int :=
  if (readB 200 1 0 X).2 ≠ [] then (noLn, 15)
  else if num < 1 ∨ ((readB 200 1 0 X).1.length : Int) < num then (noLn, 5)
  else ((lnS 1 0 (readB 200 1 0 X).1).getD (num.toNat - 1) noLn, 0)
theorem ret_ln {x y : Ln} {a b : Int} (h : (x, a) = (y, b)) : Ending.returned (.tuple #[.agg #[.int .i64 x.n, .string x.t, .int .i64 x.z], .int .i64 a]) = .returned (.tuple #[.agg #[.int .i64 y.n, .string y.t, .int .i64 y.z], .int .i64 b]) := by
  simp only [Prod.mk.injEq] at h
  obtain ⟨rfl, rfl⟩ := h
  rfl
set_option maxRecDepth 100000 in
set_option maxHeartbeats 1000000 in
theorem pfind_any (s : ByteArray) (hs : s.size ≤ 1000000) (num : Int) (x : Ln) (z : Int) (hm : findV s.data.toList num = (x, z)) (h1 : -9223372036854775808 ≤ num) (h2 : num ≤ 9223372036854775807) (w : World) (hl : LibOK w) :
    Calls Tryz.prog 14 #[.string s, .int .i64 num] w fun e w' => e = .returned (.tuple #[.agg #[.int .i64 x.n, .string x.t, .int .i64 x.z], .int .i64 z]) ∧ Below w.heap.size w w' := by
  have hX0 := Box3.new w (.int .i64 0) (.string ⟨#[]⟩) (.int .i64 0) 33
  have hB0 := below_new w (.cells #[.int .i64 0, .string ⟨#[]⟩, .int .i64 0] 33)
  obtain ⟨u, hu⟩ : ∃ u, u = w.alloc (.cells #[.int .i64 0, .string ⟨#[]⟩, .int .i64 0] 33) := ⟨_, rfl⟩
  rw [← hu] at hX0 hB0
  have HW := Lib.hid (pwhole_any s hs u (hl.below hB0))
  have HU := Lib.hid hu
  clear hu hl
  by_cases h0 : (readB 200 1 0 s.data.toList).2 = []
  rotate_left
  · rw [findV, if_pos h0] at hm
    have HM := Lib.hid hm
    clear hm
    go_enter Tryz.func14, Tryz.ntmps14
    go_wp2_with fail
    rw [← HU.out]
    refine HW.out.mono ?_
    rintro e w1 ⟨hb1, h⟩
    obtain ⟨x0, x1, x2, y0, y1, y2, y3⟩ := hX0.keep hb1
    have hB1 := hB0.trans (hb1.mono hB0.size)
    rcases h with ⟨h, rfl⟩ | ⟨h, v, rfl, hO⟩
    · clear HW h h0 hX0 hB0 hb1
      go_wp2
      refine bodyPost_ret (v := .tuple #[.agg #[.int .i64 0, .string ⟨#[]⟩, .int .i64 0], .int .i64 15]) (by simp only [results, Tryz.results14]; go_simp) rfl ⟨ret_ln HM.out, (by repeat' (first | (with_reducible exact Below.refl _ _) | (with_reducible assumption) | (with_reducible refine below_drewN ?_ _) | (with_reducible refine below_step (by assumption) ?_ ?_) | (with_reducible refine Below.alloc ?_ ?_ _) | (with_reducible refine Below.setCell ?_ ?_ _) | (with_reducible refine Below.drew ?_) | go_size | (exact Below.size (by assumption)) | (refine Nat.le_trans (Below.size (by assumption)) ?_)))⟩
    · exact absurd h h0
  unfold findV at hm
  rw [if_neg (fun h => h h0)] at hm
  have h200 := read_200 s.data.toList
  obtain ⟨ts, hts⟩ : ∃ ts, ts = (readB 200 1 0 s.data.toList).1 := ⟨_, rfl⟩
  rw [← hts] at hm h200
  have HTS := Lib.hid hts.symm
  have H0 := Lib.hid h0
  clear hts h0
  by_cases hn : num < 1 ∨ (ts.length : Int) < num
  · rw [if_pos hn] at hm
    have HM := Lib.hid hm
    clear hm
    go_enter Tryz.func14, Tryz.ntmps14
    go_wp2_with fail
    rw [← HU.out]
    refine HW.out.mono ?_
    rintro e w1 ⟨hb1, h⟩
    obtain ⟨x0, x1, x2, y0, y1, y2, y3⟩ := hX0.keep hb1
    have hB1 := hB0.trans (hb1.mono hB0.size)
    rcases h with ⟨h, rfl⟩ | ⟨h, v, rfl, hO⟩
    · exact absurd H0.out h
    · rw [HTS.out] at hO
      obtain ⟨A, c, rfl, hI, -⟩ := hO.parts
      rw [lnS_len]
      clear HW h hX0 hB0 hb1 hO hI
      by_cases h1n : num < 1
      · have d1 : decide (num < 1) = true := decide_eq_true h1n
        clear hn h1n
        go_wp2
        refine bodyPost_ret (v := .tuple #[.agg #[.int .i64 0, .string ⟨#[]⟩, .int .i64 0], .int .i64 5]) (by simp only [results, Tryz.results14]; go_simp) rfl ⟨ret_ln HM.out, (by repeat' (first | (with_reducible exact Below.refl _ _) | (with_reducible assumption) | (with_reducible refine below_drewN ?_ _) | (with_reducible refine below_step (by assumption) ?_ ?_) | (with_reducible refine Below.alloc ?_ ?_ _) | (with_reducible refine Below.setCell ?_ ?_ _) | (with_reducible refine Below.drew ?_) | go_size | (exact Below.size (by assumption)) | (refine Nat.le_trans (Below.size (by assumption)) ?_)))⟩
      · have hlt : (ts.length : Int) < num := hn.resolve_left h1n
        have d1 : decide (num < 1) = false := decide_eq_false h1n
        have d2 : decide ((ts.length : Int) < num) = true := decide_eq_true hlt
        clear hn h1n
        go_wp2
        refine bodyPost_ret (v := .tuple #[.agg #[.int .i64 0, .string ⟨#[]⟩, .int .i64 0], .int .i64 5]) (by simp only [results, Tryz.results14]; go_simp) rfl ⟨ret_ln HM.out, (by repeat' (first | (with_reducible exact Below.refl _ _) | (with_reducible assumption) | (with_reducible refine below_drewN ?_ _) | (with_reducible refine below_step (by assumption) ?_ ?_) | (with_reducible refine Below.alloc ?_ ?_ _) | (with_reducible refine Below.setCell ?_ ?_ _) | (with_reducible refine Below.drew ?_) | go_size | (exact Below.size (by assumption)) | (refine Nat.le_trans (Below.size (by assumption)) ?_)))⟩
  · rw [if_neg hn] at hm
    have hn1 : 1 ≤ num ∧ num ≤ ts.length := by omega
    obtain ⟨k, rfl⟩ : ∃ k : Nat, num = (k : Int) + 1 := ⟨(num - 1).toNat, by omega⟩
    have hk : k < ts.length := by omega
    have hk2 : k < (lnS 1 0 ts).length := by rw [lnS_len]; exact hk
    rw [show ((k : Int) + 1).toNat - 1 = k by omega, List.getD_eq_getElem?_getD, List.getElem?_eq_getElem hk2, Option.getD_some] at hm
    have d1 : decide ((k : Int) + 1 < 1) = false := decide_eq_false (by omega)
    have d2 : decide ((ts.length : Int) < (k : Int) + 1) = false := decide_eq_false (by omega)
    have HM := Lib.hid hm
    clear hm hn hn1
    go_enter Tryz.func14, Tryz.ntmps14
    go_wp2_with fail
    rw [← HU.out]
    refine HW.out.mono ?_
    rintro e w1 ⟨hb1, h⟩
    obtain ⟨x0, x1, x2, y0, y1, y2, y3⟩ := hX0.keep hb1
    have hB1 := hB0.trans (hb1.mono hB0.size)
    rcases h with ⟨h, rfl⟩ | ⟨h, v, rfl, hO⟩
    · exact absurd H0.out h
    · rw [HTS.out] at hO
      obtain ⟨A, c, rfl, hI, -⟩ := hO.parts
      rw [lnS_len]
      obtain ⟨b, o, rfl, hb, hc⟩ := hI (by omega)
      obtain ⟨q0, q1, q2⟩ := hc k hk2
      obtain ⟨y, hy⟩ : ∃ y, y = (lnS 1 0 ts)[k] := ⟨_, rfl⟩
      rw [← hy] at q0 q1 q2 HM
      clear HW h hX0 hB0 hb1 hO hI hc hy hk2
      go_wp2
      refine bodyPost_ret (v := .tuple #[.agg #[.int .i64 y.n, .string y.t, .int .i64 y.z], .int .i64 0]) (by simp only [results, Tryz.results14]; go_simp) rfl ⟨ret_ln HM.out, (by repeat' (first | (with_reducible exact Below.refl _ _) | (with_reducible assumption) | (with_reducible refine below_drewN ?_ _) | (with_reducible refine below_step (by assumption) ?_ ?_) | (with_reducible refine Below.alloc ?_ ?_ _) | (with_reducible refine Below.setCell ?_ ?_ _) | (with_reducible refine Below.drew ?_) | go_size | (exact Below.size (by assumption)) | (refine Nat.le_trans (Below.size (by assumption)) ?_)))⟩
set_option maxRecDepth 100000 in
set_option maxHeartbeats 1000000 in
theorem rfind_any (s : ByteArray) (hs : s.size ≤ 1000000) (num : Int) (x : Ln) (z : Int) (hm : findV s.data.toList num = (x, z)) (h1 : -9223372036854775808 ≤ num) (h2 : num ≤ 9223372036854775807) (w : World) (hl : LibOK w) :
    Calls Tryz.prog 15 #[.string s, .int .i64 num] w fun e w' => e = .returned (.tuple #[.agg #[.int .i64 x.n, .string x.t, .int .i64 x.z], .int .i64 z]) ∧ Below w.heap.size w w' := by
  have hX0 := Box3.new w (.int .i64 0) (.string ⟨#[]⟩) (.int .i64 0) 33
  have hB0 := below_new w (.cells #[.int .i64 0, .string ⟨#[]⟩, .int .i64 0] 33)
  obtain ⟨u, hu⟩ : ∃ u, u = w.alloc (.cells #[.int .i64 0, .string ⟨#[]⟩, .int .i64 0] 33) := ⟨_, rfl⟩
  rw [← hu] at hX0 hB0
  have HW := Lib.hid (rread_any s hs u (hl.below hB0))
  have HU := Lib.hid hu
  clear hu hl
  by_cases h0 : (readB 200 1 0 s.data.toList).2 = []
  rotate_left
  · rw [findV, if_pos h0] at hm
    have HM := Lib.hid hm
    clear hm
    go_enter Tryz.func15, Tryz.ntmps15
    go_wp2_with fail
    rw [← HU.out]
    refine HW.out.mono ?_
    rintro e w1 ⟨v, u', rfl, hu', hO, hb1⟩
    obtain ⟨x0, x1, x2, y0, y1, y2, y3⟩ := hX0.keep hb1
    have hB1 := hB0.trans (hb1.mono hB0.size)
    have e1 := empty_no (r := u') (fun h => h0 (hu'.symm.trans h))
    · clear HW hu' hO h0 hX0 hB0 hb1
      go_wp2
      refine bodyPost_ret (v := .tuple #[.agg #[.int .i64 0, .string ⟨#[]⟩, .int .i64 0], .int .i64 15]) (by simp only [results, Tryz.results15]; go_simp) rfl ⟨ret_ln HM.out, (by repeat' (first | (with_reducible exact Below.refl _ _) | (with_reducible assumption) | (with_reducible refine below_drewN ?_ _) | (with_reducible refine below_step (by assumption) ?_ ?_) | (with_reducible refine Below.alloc ?_ ?_ _) | (with_reducible refine Below.setCell ?_ ?_ _) | (with_reducible refine Below.drew ?_) | go_size | (exact Below.size (by assumption)) | (refine Nat.le_trans (Below.size (by assumption)) ?_)))⟩
  unfold findV at hm
  rw [if_neg (fun h => h h0)] at hm
  have h200 := read_200 s.data.toList
  obtain ⟨ts, hts⟩ : ∃ ts, ts = (readB 200 1 0 s.data.toList).1 := ⟨_, rfl⟩
  rw [← hts] at hm h200
  have HTS := Lib.hid hts.symm
  have H0 := Lib.hid h0
  clear hts h0
  by_cases hn : num < 1 ∨ (ts.length : Int) < num
  · rw [if_pos hn] at hm
    have HM := Lib.hid hm
    clear hm
    go_enter Tryz.func15, Tryz.ntmps15
    go_wp2_with fail
    rw [← HU.out]
    refine HW.out.mono ?_
    rintro e w1 ⟨v, u', rfl, hu', hO, hb1⟩
    obtain ⟨x0, x1, x2, y0, y1, y2, y3⟩ := hX0.keep hb1
    have hB1 := hB0.trans (hb1.mono hB0.size)
    have e0 := empty_yes (hu'.trans H0.out)
    subst e0
    clear hu'
    · rw [HTS.out] at hO
      obtain ⟨A, c, rfl, hI, -⟩ := hO.parts
      rw [lnS_len]
      clear HW hX0 hB0 hb1 hO hI
      by_cases h1n : num < 1
      · have d1 : decide (num < 1) = true := decide_eq_true h1n
        clear hn h1n
        go_wp2
        refine bodyPost_ret (v := .tuple #[.agg #[.int .i64 0, .string ⟨#[]⟩, .int .i64 0], .int .i64 5]) (by simp only [results, Tryz.results15]; go_simp) rfl ⟨ret_ln HM.out, (by repeat' (first | (with_reducible exact Below.refl _ _) | (with_reducible assumption) | (with_reducible refine below_drewN ?_ _) | (with_reducible refine below_step (by assumption) ?_ ?_) | (with_reducible refine Below.alloc ?_ ?_ _) | (with_reducible refine Below.setCell ?_ ?_ _) | (with_reducible refine Below.drew ?_) | go_size | (exact Below.size (by assumption)) | (refine Nat.le_trans (Below.size (by assumption)) ?_)))⟩
      · have hlt : (ts.length : Int) < num := hn.resolve_left h1n
        have d1 : decide (num < 1) = false := decide_eq_false h1n
        have d2 : decide ((ts.length : Int) < num) = true := decide_eq_true hlt
        clear hn h1n
        go_wp2
        refine bodyPost_ret (v := .tuple #[.agg #[.int .i64 0, .string ⟨#[]⟩, .int .i64 0], .int .i64 5]) (by simp only [results, Tryz.results15]; go_simp) rfl ⟨ret_ln HM.out, (by repeat' (first | (with_reducible exact Below.refl _ _) | (with_reducible assumption) | (with_reducible refine below_drewN ?_ _) | (with_reducible refine below_step (by assumption) ?_ ?_) | (with_reducible refine Below.alloc ?_ ?_ _) | (with_reducible refine Below.setCell ?_ ?_ _) | (with_reducible refine Below.drew ?_) | go_size | (exact Below.size (by assumption)) | (refine Nat.le_trans (Below.size (by assumption)) ?_)))⟩
  · rw [if_neg hn] at hm
    have hn1 : 1 ≤ num ∧ num ≤ ts.length := by omega
    obtain ⟨k, rfl⟩ : ∃ k : Nat, num = (k : Int) + 1 := ⟨(num - 1).toNat, by omega⟩
    have hk : k < ts.length := by omega
    have hk2 : k < (lnS 1 0 ts).length := by rw [lnS_len]; exact hk
    rw [show ((k : Int) + 1).toNat - 1 = k by omega, List.getD_eq_getElem?_getD, List.getElem?_eq_getElem hk2, Option.getD_some] at hm
    have d1 : decide ((k : Int) + 1 < 1) = false := decide_eq_false (by omega)
    have d2 : decide ((ts.length : Int) < (k : Int) + 1) = false := decide_eq_false (by omega)
    have HM := Lib.hid hm
    clear hm hn hn1
    go_enter Tryz.func15, Tryz.ntmps15
    go_wp2_with fail
    rw [← HU.out]
    refine HW.out.mono ?_
    rintro e w1 ⟨v, u', rfl, hu', hO, hb1⟩
    obtain ⟨x0, x1, x2, y0, y1, y2, y3⟩ := hX0.keep hb1
    have hB1 := hB0.trans (hb1.mono hB0.size)
    have e0 := empty_yes (hu'.trans H0.out)
    subst e0
    clear hu'
    · rw [HTS.out] at hO
      obtain ⟨A, c, rfl, hI, -⟩ := hO.parts
      rw [lnS_len]
      obtain ⟨b, o, rfl, hb, hc⟩ := hI (by omega)
      obtain ⟨q0, q1, q2⟩ := hc k hk2
      obtain ⟨y, hy⟩ : ∃ y, y = (lnS 1 0 ts)[k] := ⟨_, rfl⟩
      rw [← hy] at q0 q1 q2 HM
      clear HW hX0 hB0 hb1 hO hI hc hy hk2
      go_wp2
      refine bodyPost_ret (v := .tuple #[.agg #[.int .i64 y.n, .string y.t, .int .i64 y.z], .int .i64 0]) (by simp only [results, Tryz.results15]; go_simp) rfl ⟨ret_ln HM.out, (by repeat' (first | (with_reducible exact Below.refl _ _) | (with_reducible assumption) | (with_reducible refine below_drewN ?_ _) | (with_reducible refine below_step (by assumption) ?_ ?_) | (with_reducible refine Below.alloc ?_ ?_ _) | (with_reducible refine Below.setCell ?_ ?_ _) | (with_reducible refine Below.drew ?_) | go_size | (exact Below.size (by assumption)) | (refine Nat.le_trans (Below.size (by assumption)) ?_)))⟩
end Go.Proofs.YtaadelcmhbgpnaaGreatDoor
