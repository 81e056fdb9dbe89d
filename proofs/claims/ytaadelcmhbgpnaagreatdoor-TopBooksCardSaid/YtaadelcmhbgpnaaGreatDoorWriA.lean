/-
  BOOKS: Write of the laws: the book of some texts.
-/
import Derived.Test.YtaadelcmhbgpnaaGreatDoorBookSums
import Derived.Test.YtaadelcmhbgpnaaGreatDoorBuiB
namespace Go.Proofs.YtaadelcmhbgpnaaGreatDoor
open Go.RowKit
open Go.Lib
theorem pright_big (s : ByteArray) (h1 : 80 < s.size) (w : World) :
    Calls Tryz.prog 59 #[.string s] w fun e w' => e = .returned (.bool false) ∧ w = w' := by
  have he : s.toList.isEmpty = false := empty_no fun h => by have := lt_list s; rw [h] at this; simp at this; omega
  have d0 : (80 : Int) < (s.size : Int) := by omega
  go_enter Tryz.func59, Tryz.ntmps59
  go_wp2
  go_ret
  exact ⟨rfl, rfl⟩
set_option maxRecDepth 100000 in
theorem pappend_big (s t : ByteArray) (hs : s.size ≤ 1000000) (ht : 80 < t.size) (h0 : (readB 200 1 0 s.data.toList).2 = []) (w : World) (hl : LibOK w) :
    Calls Tryz.prog 39 #[.string s, .string t] w fun e w' => e = .returned (.tuple #[.string ⟨#[]⟩, .int .i64 1]) ∧ Below w.heap.size w w' := by
  have HW := Lib.hid (pwhole_any s hs w hl)
  have HPR := Lib.hid (fun w' => pright_big t ht w')
  have H0 := Lib.hid h0
  clear hl h0
  go_enter Tryz.func39, Tryz.ntmps39
  go_wp2_with fail
  refine HW.out.mono ?_
  rintro e w1 ⟨hb1, h⟩
  rcases h with ⟨h, rfl⟩ | ⟨h, v, rfl, hO⟩
  · exact absurd H0.out h
  · clear HW h hO
    go_wp2_with fail
    refine (HPR.out _).mono ?_
    rintro e w2 ⟨rfl, rfl⟩
    go_wp2
    go_ret2
    exact ⟨rfl, hb1⟩
theorem appV_write {s t : ByteArray} {ts : List (List UInt8)} (h : s.data.toList = writeB 1 0 ts) (hr : Rights ts) (hl : ts.length < 200) (ht : rightT t.data.toList = true) : appV s t = (s ++ ⟨(lineT (ts.length + 1) (endZ 1 0 ts) t.data.toList).toArray⟩, 0) := by
  have hrd := read_write hr (by omega)
  rw [← h] at hrd
  unfold appV
  rw [hrd, if_neg (by simp), if_neg (by rw [ht]; simp), if_neg (by show ¬ ts.length = 200; omega)]
theorem appV_refuse {s t : ByteArray} {ts : List (List UInt8)} (h : s.data.toList = writeB 1 0 ts) (hr : Rights ts) (hl : ts.length < 200) (ht : rightT t.data.toList = false) : appV s t = (⟨#[]⟩, 1) := by
  have hrd := read_write hr (by omega)
  rw [← h] at hrd
  unfold appV
  rw [hrd, if_neg (by simp), if_pos ht]
theorem write_snoc {s : ByteArray} {ts : List (List UInt8)} (h : s.data.toList = writeB 1 0 ts) (t : List UInt8) : (s ++ ⟨(lineT (ts.length + 1) (endZ 1 0 ts) t).toArray⟩ : ByteArray).data.toList = writeB 1 0 (ts ++ [t]) := by
  rw [writeB_app, ← h, show 1 + ts.length = ts.length + 1 by omega]
  simp [writeB]
theorem write_size {s : ByteArray} {ts : List (List UInt8)} (h : s.data.toList = writeB 1 0 ts) (hr : Rights ts) (hl : ts.length ≤ 200) : s.size ≤ 20000 := by
  rw [← lt_list, h]
  have := writeB_len ts 1 0 (by omega) hr
  omega
/-- What Write returns. -/
def OutWr (w : World) (e : Ending) (w' : World) : Prop :=
  ∃ (s : ByteArray) (ts : List (List UInt8)), e = .returned (.string s) ∧ s.data.toList = writeB 1 0 ts ∧ Rights ts ∧ ts.length ≤ 40 ∧ Below w.heap.size w w'
set_option maxRecDepth 100000 in
set_option maxHeartbeats 1000000 in
theorem lwrite_any (A : Option Addr) (c : Nat) (xs : List ByteArray) (w : World) (hl : LibOK w) (hI : IsS w A xs.length xs) :
    Calls Tryz.prog 10 #[.slice A xs.length c] w (OutWr w) := by
  have HI := Lib.hid hI
  have HL := Lib.hid hl
  clear hI hl
  go_enter Tryz.func10, Tryz.ntmps10
  go_upto_region 3 with fail
  go_loopw [3, 4] (fun v i wr => ∃ (k : Nat) (s : ByteArray) (ts : List (List UInt8)), v = .string s ∧ i = .int .i64 k ∧ k ≤ xs.length ∧ k ≤ 40 ∧ ts.length ≤ k ∧ Hid (s.data.toList = writeB 1 0 ts) ∧ Hid (Rights ts) ∧ Hid (Below w.heap.size w wr)) (fun _ i _ => xs.length - (RowKit.intOf i).toNat)
  case atStart => exact ⟨0, ⟨#[]⟩, [], rfl, rfl, by omega, by omega, by simp, Lib.hid rfl, Lib.hid (fun t h => by cases h), Lib.hid (Below.refl _ _)⟩
  case round =>
    obtain ⟨k, s, ts, rfl, rfl, hk, hk2, hts, hS, hR, hB⟩ := hrel
    have hsz := write_size hS.out hR.out (by omega)
    by_cases hlt : k < xs.length
    · by_cases h40 : k < 40
      · have dl : decide ((k : Int) < (xs.length : Int)) = true := decide_eq_true (by omega)
        have d4 : decide ((k : Int) < 40) = true := decide_eq_true (by omega)
        obtain ⟨b, o, rfl, hb, hc⟩ := (HI.out.below hB.out).2 (by omega)
        have q0 := hc k hlt
        obtain ⟨x, hx⟩ : ∃ x, x = xs[k] := ⟨_, rfl⟩
        rw [← hx] at q0
        have L1 := Lib.hid (HL.out.below hB.out)
        clear hc hx
        cases hr : rightT x.data.toList
        · have HA : Hid (Calls Tryz.prog 39 #[.string s, .string x] wr fun e w' => e = .returned (.tuple #[.string ⟨#[]⟩, .int .i64 1]) ∧ Below wr.heap.size wr w') := Lib.hid (by
            by_cases h80 : 80 < x.size
            · exact pappend_big s x (by omega) h80 (by rw [hS.out, read_write hR.out (by omega)]) wr L1.out
            · exact pappend_any s x (by omega) (by omega) _ _ (appV_refuse hS.out hR.out (by omega) hr) wr L1.out)
          clear hr
          go_wp2_with fail
          refine HA.out.mono ?_
          rintro e w1 ⟨rfl, hb1⟩
          have HB1 := Lib.hid (hB.out.trans (hb1.mono hB.out.size))
          clear hb1 hB HA q0 L1
          go_wp2
          go_roundw
          case rel => exact ⟨k + 1, s, ts, rfl, by go_num, by omega, by omega, by omega, hS, hR, HB1⟩
          case measure => simp [RowKit.intOf]; omega
        · have h80 : x.size ≤ 80 := by rw [← lt_list]; exact (rightT_iff.1 hr).2.1
          have HA := Lib.hid (pappend_any s x (by omega) (by omega) _ _ (appV_write hS.out hR.out (by omega) hr) wr L1.out)
          have hw := write_snoc hS.out x.data.toList
          obtain ⟨r, hrr⟩ : ∃ r : ByteArray, r = s ++ ⟨(lineT (ts.length + 1) (endZ 1 0 ts) x.data.toList).toArray⟩ := ⟨_, rfl⟩
          rw [← hrr] at HA hw
          have HS2 := Lib.hid hw
          have HR2 := Lib.hid (show Rights (ts ++ [x.data.toList]) from fun t ht => by
            rcases List.mem_append.1 ht with ht | ht
            · exact hR.out t ht
            · rw [List.mem_singleton.1 ht]; exact hr)
          clear hr hrr hw
          go_wp2_with fail
          refine HA.out.mono ?_
          rintro e w1 ⟨rfl, hb1⟩
          have HB1 := Lib.hid (hB.out.trans (hb1.mono hB.out.size))
          clear hb1 hB HA q0 L1
          go_wp2
          go_roundw
          case rel => exact ⟨k + 1, r, ts ++ [x.data.toList], rfl, by go_num, by omega, by omega, by simp; omega, HS2, HR2, HB1⟩
          case measure => simp [RowKit.intOf]; omega
      · obtain rfl : k = 40 := by omega
        have dl : decide ((40 : Int) < (xs.length : Int)) = true := decide_eq_true (by omega)
        go_wp2
        go_ret
        exact ⟨s, ts, rfl, hS.out, hR.out, hts, hB.out⟩
    · obtain rfl : k = xs.length := by omega
      go_wp2
      go_ret
      exact ⟨s, ts, rfl, hS.out, hR.out, by omega, hB.out⟩
end Go.Proofs.YtaadelcmhbgpnaaGreatDoor
