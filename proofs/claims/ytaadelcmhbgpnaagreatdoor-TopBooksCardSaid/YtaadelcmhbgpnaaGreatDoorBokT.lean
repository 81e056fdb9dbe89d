/-
  BOOKS: whole, IsWhole, last and Append: the program's and the reference's.
-/
import Derived.Test.YtaadelcmhbgpnaaGreatDoorBokL
namespace Go.Proofs.YtaadelcmhbgpnaaGreatDoor
open Go.RowKit
open Go.Lib
/-- What whole returns. -/
def OutW (w : World) (X : List UInt8) (e : Ending) (w' : World) : Prop :=
  Below w.heap.size w w' ∧ (((readB 200 1 0 X).2 ≠ [] ∧ e = .returned (.tuple #[.slice none 0 0, .int .i64 15])) ∨ ((readB 200 1 0 X).2 = [] ∧ ∃ v, e = .returned (.tuple #[v, .int .i64 0]) ∧ OwnLn w' w.heap.size v (lnS 1 0 (readB 200 1 0 X).1)))
theorem empty_no {r : ByteArray} (h : r.data.toList ≠ []) : r.toList.isEmpty = false := by
  rw [Lib.toList_data]
  cases hx : r.data.toList with
  | nil => exact absurd hx h
  | cons a l => rfl
theorem empty_yes {r : ByteArray} (h : r.data.toList = []) : r = ⟨#[]⟩ := toList_inj' h
  where toList_inj' {r : ByteArray} (h : r.data.toList = []) : r = ⟨#[]⟩ := by rw [bytes_of r, h]
set_option maxRecDepth 100000 in
theorem pwhole_any (s : ByteArray) (hs : s.size ≤ 1000000) (w : World) (hl : LibOK w) :
    Calls Tryz.prog 42 #[.string s] w (OutW w s.data.toList) := by
  have HR := Lib.hid (pread_any s hs w hl)
  clear hl
  go_enter Tryz.func42, Tryz.ntmps42
  go_wp2_with fail
  refine HR.out.mono ?_
  rintro e w1 ⟨v, r, rfl, hr, hO, hb1⟩
  clear HR
  by_cases h0 : r.data.toList = []
  · have HZ := Lib.hid (hr.symm.trans h0)
    have e0 := empty_yes h0
    subst e0
    have HO := Lib.hid hO
    clear h0 hr hO
    go_wp2
    go_ret2
    exact ⟨hb1, .inr ⟨HZ.out, v, rfl, HO.out⟩⟩
  · have HZ := Lib.hid (show (readB 200 1 0 s.data.toList).2 ≠ [] from fun h => h0 (hr.trans h))
    have e1 := empty_no h0
    have HO := Lib.hid hO
    clear h0 hr hO
    go_wp2
    go_ret2
    exact ⟨hb1, .inl ⟨HZ.out, rfl⟩⟩
set_option maxRecDepth 100000 in
theorem piswhole_any (s : ByteArray) (hs : s.size ≤ 1000000) (w : World) (hl : LibOK w) :
    Calls Tryz.prog 34 #[.string s] w fun e w' => e = .returned (.bool (decide ((readB 200 1 0 s.data.toList).2 = []))) ∧ Below w.heap.size w w' := by
  have HR := Lib.hid (pwhole_any s hs w hl)
  clear hl
  go_enter Tryz.func34, Tryz.ntmps34
  go_wp2_with fail
  refine HR.out.mono ?_
  rintro e w1 ⟨hb1, h⟩
  clear HR
  rcases h with ⟨h, rfl⟩ | ⟨h, v, rfl, hO⟩
  · have HZ := Lib.hid h
    clear h
    go_wp2
    go_ret
    exact ⟨by rw [decide_eq_false HZ.out] <;> rfl, hb1⟩
  · have HZ := Lib.hid h
    clear h hO
    go_wp2
    go_ret
    exact ⟨by rw [decide_eq_true HZ.out] <;> rfl, hb1⟩
theorem endZ_last : ∀ (ts : List (List UInt8)) (n : Nat) (b : Int) (h : ts.length - 1 < (lnS n b ts).length), ((lnS n b ts)[ts.length - 1]).z = endZ n b ts
  | [], n, b, h => by simp [lnS] at h
  | [t], n, b, h => by simp [lnS, endZ]
  | t :: u :: ts, n, b, h => by
    have := endZ_last (u :: ts) (n + 1) (lineZ n b t) (by rw [lnS_len]; simp)
    rw [endZ, ← this]
    simp [lnS]
set_option maxRecDepth 100000 in
theorem plast_any (ts : List (List UInt8)) (A : Option Addr) (c : Nat) (hn : ts.length ≤ 1000000) (w : World) (hI : IsLn w A (lnS 1 0 ts)) :
    Calls Tryz.prog 61 #[.slice A ts.length c] w fun e w' => e = .returned (.int .i64 (endZ 1 0 ts)) ∧ w = w' := by
  by_cases h0 : ts = []
  · subst h0
    go_enter Tryz.func61, Tryz.ntmps61
    go_wp2
    go_ret
    exact ⟨rfl, rfl⟩
  · have hp : 0 < ts.length := List.length_pos_iff.2 h0
    have hll := lnS_len ts 1 0
    obtain ⟨b, o, rfl, hlt, hc⟩ := hI (by omega)
    have h2 := (hc (ts.length - 1) (by omega)).2.2
    rw [endZ_last] at h2
    obtain ⟨z, hz⟩ : ∃ z, z = endZ 1 0 ts := ⟨_, rfl⟩
    rw [← hz] at h2 ⊢
    obtain ⟨k, hk⟩ : ∃ k, ts.length = k + 1 := ⟨ts.length - 1, by omega⟩
    rw [hk, Nat.add_sub_cancel] at h2
    rw [hk]
    have hk1 : k ≤ 1000000 := by omega
    clear hz hll hc hk hp h0 hI hn
    go_enter Tryz.func61, Tryz.ntmps61
    go_wp2
    go_ret
    exact ⟨rfl, rfl⟩
set_option maxRecDepth 100000 in
theorem rlast_any (ts : List (List UInt8)) (A : Option Addr) (c : Nat) (hn : ts.length ≤ 1000000) (w : World) (hI : IsLn w A (lnS 1 0 ts)) :
    Calls Tryz.prog 77 #[.slice A ts.length c] w fun e w' => e = .returned (.int .i64 (endZ 1 0 ts)) ∧ w = w' := by
  by_cases h0 : ts = []
  · subst h0
    go_enter Tryz.func77, Tryz.ntmps77
    go_wp2
    go_ret
    exact ⟨rfl, rfl⟩
  · have hp : 0 < ts.length := List.length_pos_iff.2 h0
    have hll := lnS_len ts 1 0
    obtain ⟨b, o, rfl, hlt, hc⟩ := hI (by omega)
    have h2 := (hc (ts.length - 1) (by omega)).2.2
    rw [endZ_last] at h2
    obtain ⟨z, hz⟩ : ∃ z, z = endZ 1 0 ts := ⟨_, rfl⟩
    rw [← hz] at h2 ⊢
    obtain ⟨k, hk⟩ : ∃ k, ts.length = k + 1 := ⟨ts.length - 1, by omega⟩
    rw [hk, Nat.add_sub_cancel] at h2
    rw [hk]
    have hk1 : k ≤ 1000000 := by omega
    clear hz hll hc hk hp h0 hI hn
    go_enter Tryz.func77, Tryz.ntmps77
    go_wp2
    go_ret
    exact ⟨rfl, rfl⟩
/-- What Append returns: the text and the error. -/
def appV (s t : ByteArray) : ByteArray × Int :=
  if (readB 200 1 0 s.data.toList).2 ≠ [] then (⟨#[]⟩, 15)
  else if rightT t.data.toList = false then (⟨#[]⟩, 1)
  else if (readB 200 1 0 s.data.toList).1.length = 200 then (⟨#[]⟩, 4)
  else (s ++ ⟨(lineT ((readB 200 1 0 s.data.toList).1.length + 1) (endZ 1 0 (readB 200 1 0 s.data.toList).1) t.data.toList).toArray⟩, 0)
theorem ret_str {a c : ByteArray} {b d : Int} (h : (a, b) = (c, d)) : Ending.returned (.tuple #[.string a, .int .i64 b]) = .returned (.tuple #[.string c, .int .i64 d]) := by
  simp only [Prod.mk.injEq] at h
  obtain ⟨rfl, rfl⟩ := h
  rfl
theorem read_200 (X : List UInt8) : (readB 200 1 0 X).1.length ≤ 200 := (reads_of 200 1 0 X).len
set_option maxRecDepth 100000 in
set_option maxHeartbeats 1000000 in
theorem pappend_any (s t : ByteArray) (hs : s.size ≤ 1000000) (ht : t.size ≤ 100000) (r : ByteArray) (z : Int) (hm : appV s t = (r, z)) (w : World) (hl : LibOK w) :
    Calls Tryz.prog 39 #[.string s, .string t] w fun e w' => e = .returned (.tuple #[.string r, .int .i64 z]) ∧ Below w.heap.size w w' := by
  have HW := Lib.hid (pwhole_any s hs w hl)
  have HL := Lib.hid hl
  have H200 := Lib.hid (read_200 s.data.toList)
  have HPR := Lib.hid (fun w' => pright_any t (by omega) w')
  clear hl
  by_cases h0 : (readB 200 1 0 s.data.toList).2 = []
  rotate_left
  · rw [appV, if_pos h0] at hm
    have HM := Lib.hid hm
    clear hm HPR
    go_enter Tryz.func39, Tryz.ntmps39
    go_wp2_with fail
    refine HW.out.mono ?_
    rintro e w1 ⟨hb1, h⟩
    rcases h with ⟨h, rfl⟩ | ⟨h, v, rfl, hO⟩
    · clear HW h h0
      go_wp2
      go_ret2
      exact ⟨ret_str HM.out, hb1⟩
    · exact absurd h h0
  unfold appV at hm
  rw [if_neg (fun h => h h0)] at hm
  cases h1 : rightT t.data.toList
  · rw [if_pos h1] at hm
    rw [h1] at HPR
    have HM := Lib.hid hm
    clear hm h1
    go_enter Tryz.func39, Tryz.ntmps39
    go_wp2_with fail
    refine HW.out.mono ?_
    rintro e w1 ⟨hb1, h⟩
    rcases h with ⟨h, rfl⟩ | ⟨h, v, rfl, hO⟩
    · exact absurd h0 h
    · clear HW h h0 hO
      go_wp2_with (go_at_call 59; refine (HPR.out _).mono ?_; rintro e w2 ⟨rfl, hb2⟩)
      go_ret2
      exact ⟨ret_str HM.out, (by repeat' (first | (with_reducible exact Below.refl _ _) | (with_reducible assumption) | (with_reducible refine below_drewN ?_ _) | (with_reducible refine below_step (by assumption) ?_ ?_) | (with_reducible refine Below.alloc ?_ ?_ _) | (with_reducible refine Below.setCell ?_ ?_ _) | (with_reducible refine Below.drew ?_) | go_size | (exact Below.size (by assumption)) | (refine Nat.le_trans (Below.size (by assumption)) ?_)))⟩
  rw [if_neg (by rw [h1]; simp)] at hm
  rw [h1] at HPR
  obtain ⟨ts, hts⟩ : ∃ ts, ts = (readB 200 1 0 s.data.toList).1 := ⟨_, rfl⟩
  rw [← hts] at hm H200
  have HTS := Lib.hid hts.symm
  clear hts h1
  cases h2 : decide (ts.length = 200)
  · have h2 := of_decide_eq_false h2
    rw [if_neg h2] at hm
    have q2 : ((ts.length : Int) == 200) = false := by rw [beq_eq_false_iff_ne]; omega
    have h3 := H200.out
    have h199 : ts.length ≤ 199 := by omega
    obtain ⟨m, hmm⟩ : ∃ m, m = ts.length + 1 := ⟨_, rfl⟩
    have hmi : (ts.length : Int) + 1 = (m : Int) := by omega
    obtain ⟨z0, hz0⟩ : ∃ z0, z0 = endZ 1 0 ts := ⟨_, rfl⟩
    rw [← hmm, ← hz0] at hm
    have HLA := Lib.hid (fun A c w' h => plast_any ts A c (by omega) w' h)
    rw [← hz0] at HLA
    obtain ⟨y0, y1⟩ : 0 ≤ lineZ m z0 t.data.toList ∧ lineZ m z0 t.data.toList < 1000003 := sumT_bd _ _
    have HPL := Lib.hid (fun w' h => pline_any m (by omega) z0 t ht w' h)
    have hlT : lineT m z0 t.data.toList = itoa (m : Int) ++ 32 :: (itoa (lineZ m z0 t.data.toList) ++ 32 :: (t.data.toList ++ [10])) := rfl
    rw [hlT] at hm
    obtain ⟨y, hy⟩ : ∃ y, y = lineZ m z0 t.data.toList := ⟨_, rfl⟩
    rw [← hy] at y0 y1 HPL hm
    have HPF := Lib.hid (fun w' h => pformat_any m (by omega) y y0 (by omega) t ht w' h)
    obtain ⟨F, hF⟩ : ∃ F : ByteArray, F = ⟨(itoa (m : Int) ++ 32 :: (itoa y ++ 32 :: (t.data.toList ++ [10]))).toArray⟩ := ⟨_, rfl⟩
    have l1 := itoa_small (z := (m : Int)) (k := 7) (by omega) (by omega) (by omega)
    have l2 := itoa_small (k := 7) y0 (by omega) (by omega)
    have hFs : F.size ≤ 200000 := by rw [hF, str_size]; simp; omega
    clear l1 l2
    rw [← hF] at hm HPF
    unfold lnV at HPL HPF
    have HMI := Lib.hid hmi
    clear hmm hmi hz0 hlT hy hF
    have HM := Lib.hid hm
    clear hm h2 h3
    go_enter Tryz.func39, Tryz.ntmps39
    go_wp2_with fail
    refine HW.out.mono ?_
    rintro e w1 ⟨hb1, h⟩
    rcases h with ⟨h, rfl⟩ | ⟨h, v, rfl, hO⟩
    · exact absurd h0 h
    · rw [HTS.out] at hO
      obtain ⟨A, c, rfl, hI, -⟩ := hO.parts
      rw [lnS_len]
      have HI := Lib.hid hI
      have L1 := Lib.hid (HL.out.below hb1)
      clear HW h h0 hO hI
      go_wp2_with fail
      refine (HPR.out _).mono ?_
      rintro e w2 ⟨rfl, hb2⟩
      have HI2 := Lib.hid (HI.out.below hb2)
      have hB2 := hb1.trans (hb2.mono hb1.size)
      have L2 := Lib.hid (L1.out.below hb2)
      clear hb1 hb2 L1 HI
      go_wp2_with fail
      refine (HLA.out A c _ HI2.out).mono ?_
      rintro e w3 ⟨rfl, rfl⟩
      go_wp2_with fail
      rw [HMI.out]
      refine (HPL.out _ L2.out).mono ?_
      rintro e w3 ⟨rfl, hb3⟩
      have hB3 := hB2.trans (hb3.mono hB2.size)
      have L3 := Lib.hid (L2.out.below hb3)
      clear hb3 hB2 L2
      go_wp2_with fail
      refine (HPF.out _ L3.out).mono ?_
      rintro e w4 ⟨rfl, hb4⟩
      go_wp2
      go_ret2
      refine ⟨?_, hB3.trans (hb4.mono hB3.size)⟩
      exact ret_str HM.out
  · have h2 := of_decide_eq_true h2
    rw [if_pos h2] at hm
    have HM := Lib.hid hm
    clear hm
    go_enter Tryz.func39, Tryz.ntmps39
    go_wp2_with fail
    refine HW.out.mono ?_
    rintro e w1 ⟨hb1, h⟩
    rcases h with ⟨h, rfl⟩ | ⟨h, v, rfl, hO⟩
    · exact absurd h0 h
    · rw [HTS.out] at hO
      obtain ⟨A, c, rfl, hI, -⟩ := hO.parts
      rw [lnS_len, h2]
      clear HW h h0 hO hI h2
      go_wp2_with (go_at_call 59; refine (HPR.out _).mono ?_; rintro e w2 ⟨rfl, hb2⟩)
      go_ret2
      exact ⟨ret_str HM.out, (by repeat' (first | (with_reducible exact Below.refl _ _) | (with_reducible assumption) | (with_reducible refine below_drewN ?_ _) | (with_reducible refine below_step (by assumption) ?_ ?_) | (with_reducible refine Below.alloc ?_ ?_ _) | (with_reducible refine Below.setCell ?_ ?_ _) | (with_reducible refine Below.drew ?_) | go_size | (exact Below.size (by assumption)) | (refine Nat.le_trans (Below.size (by assumption)) ?_)))⟩
end Go.Proofs.YtaadelcmhbgpnaaGreatDoor
