/-
  BOOKS: Since, Extend, Relation and Merge of the program, at books that are whole.
-/
import Derived.Test.YtaadelcmhbgpnaaGreatDoorWriA
namespace Go.Proofs.YtaadelcmhbgpnaaGreatDoor
open Go.RowKit
open Go.Lib
theorem lnS_drop : ∀ (ts : List (List UInt8)) (n : Nat) (b : Int) (j : Nat), j ≤ ts.length → (lnS n b ts).drop j = lnS (n + j) (endZ n b (ts.take j)) (ts.drop j)
  | ts, n, b, 0, _ => by simp [endZ]
  | t :: ts, n, b, j + 1, h => by
    rw [lnS, List.drop_succ_cons, lnS_drop ts (n + 1) (lineZ n b t) j (by simpa using h), show n + 1 + j = n + (j + 1) by omega]
    rfl
theorem IsLn.drop {w : World} {A : Option Addr} {l : List Ln} (h : IsLn w A l) (j : Nat) : IsLn w (A.map (fun x => x.add (j * 3))) (l.drop j) := by
  intro hp
  rw [List.length_drop] at hp
  obtain ⟨b, o, rfl, hb, hc⟩ := h (by omega)
  refine ⟨b, o + j * 3, by simp [Addr.add], hb, fun k hk => ?_⟩
  rw [List.length_drop] at hk
  have h1 := hc (j + k) (by omega)
  rw [List.getElem_drop]
  rw [show o + (j + k) * 3 = o + j * 3 + k * 3 by omega] at h1
  exact h1
theorem IsLn.none_of {w : World} {A : Option Addr} {l : List Ln} (h : l.length = 0) : IsLn w A l := fun hp => by omega
/-- What whole returns, where the book is whole. -/
theorem whole_yes {w w' : World} {X : List UInt8} {e : Ending} {ts : List (List UInt8)} (h : OutW w X e w') (hr : readB 200 1 0 X = (ts, [])) : Below w.heap.size w w' ∧ ∃ v, e = .returned (.tuple #[v, .int .i64 0]) ∧ OwnLn w' w.heap.size v (lnS 1 0 ts) := by
  obtain ⟨hb, h⟩ := h
  rw [hr] at h
  rcases h with ⟨h, -⟩ | ⟨-, v, he, ho⟩
  · exact absurd rfl h
  · exact ⟨hb, v, he, ho⟩
set_option maxRecDepth 100000 in
set_option maxHeartbeats 1000000 in
/-- Since, from a line of the book on, or behind its last line. -/
theorem psince_yes (s : ByteArray) (hs : s.size ≤ 1000000) (ts : List (List UInt8)) (hr : readB 200 1 0 s.data.toList = (ts, [])) (j : Nat) (hj : j ≤ ts.length) (w : World) (hl : LibOK w) :
    Calls Tryz.prog 16 #[.string s, .int .i64 ((j : Int) + 1)] w fun e w' => e = .returned (.tuple #[.string ⟨(writeB (1 + j) (endZ 1 0 (ts.take j)) (ts.drop j)).toArray⟩, .int .i64 0]) ∧ Below w.heap.size w w' := by
  have HW := Lib.hid (pwhole_any s hs w hl)
  have HL := Lib.hid hl
  have HRD := Lib.hid hr
  have hlen := read_200 s.data.toList
  have hrt := reads_rights s.data.toList
  rw [hr] at hlen hrt
  simp only at hlen hrt
  have HRT := Lib.hid (show Rights (ts.drop j) from fun u hu => hrt u (List.mem_of_mem_drop hu))
  clear hl hr hrt
  go_enter Tryz.func16, Tryz.ntmps16
  go_wp2_with fail
  refine HW.out.mono ?_
  rintro e w1 h
  obtain ⟨hb1, v, rfl, hO⟩ := whole_yes h HRD.out
  obtain ⟨A, c, rfl, hI, hc⟩ := hO.parts
  rw [lnS_len] at hc ⊢
  have L1 := Lib.hid (HL.out.below hb1)
  have HI := Lib.hid hI
  clear h hO hI HW
  have dl : ¬ (ts.length : Int) + 1 < (j : Int) + 1 := by omega
  have hdr := lnS_drop ts 1 0 j hj
  have HDR := Lib.hid hdr
  have HPW := Lib.hid (fun A c w' h k => pwrite_any (ts.drop j) (1 + j) (endZ 1 0 (ts.take j)) A c (by rw [List.length_drop]; omega) (by rw [List.length_drop]; omega) HRT.out w' h k)
  rw [List.length_drop] at HPW
  clear hdr
  go_wp2_with fail
  · have hI2 : IsLn w1 A (lnS (1 + j) (endZ 1 0 (ts.take j)) (ts.drop j)) := IsLn.none_of (by rw [lnS_len, List.length_drop]; omega)
    refine (HPW.out A 0 w1 L1.out hI2).mono ?_
    rintro e w2 ⟨rfl, hb2⟩
    go_wp2
    go_ret2
    exact ⟨rfl, hb1.trans (hb2.mono hb1.size)⟩
  · have hI2 := HI.out.drop j
    rw [HDR.out] at hI2
    refine (HPW.out (A.map (fun x => x.add (j * 3))) (c - j) w1 L1.out hI2).mono ?_
    rintro e w2 ⟨rfl, hb2⟩
    go_wp2
    go_ret2
    exact ⟨rfl, hb1.trans (hb2.mono hb1.size)⟩
set_option maxRecDepth 100000 in
theorem pextend_yes (s t : ByteArray) (hs : s.size ≤ 100000) (ht : t.size ≤ 100000) (h1 : (readB 200 1 0 s.data.toList).2 = []) (h2 : (readB 200 1 0 (s ++ t).data.toList).2 = []) (w : World) (hl : LibOK w) :
    Calls Tryz.prog 22 #[.string s, .string t] w fun e w' => e = .returned (.tuple #[.string (s ++ t), .int .i64 0]) ∧ Below w.heap.size w w' := by
  have hst : (s ++ t).size ≤ 200000 := by simp; omega
  have H1 := piswhole_any s (by omega) w hl
  have H2 := fun w' h => piswhole_any (s ++ t) (by omega) w' h
  rw [decide_eq_true h1] at H1
  rw [decide_eq_true h2] at H2
  have HH1 := Lib.hid H1
  have HH2 := Lib.hid H2
  have HL := Lib.hid hl
  clear H1 H2 h1 h2 hl
  go_enter Tryz.func22, Tryz.ntmps22
  go_wp2_with fail
  refine HH1.out.mono ?_
  rintro e w1 ⟨rfl, hb1⟩
  go_wp2_with fail
  refine (HH2.out _ (HL.out.below hb1)).mono ?_
  rintro e w2 ⟨rfl, hb2⟩
  go_wp2
  go_ret2
  exact ⟨rfl, hb1.trans (hb2.mono hb1.size)⟩
end Go.Proofs.YtaadelcmhbgpnaaGreatDoor
/-
  BOOKS: Relation and Merge of the program, where the one book is a beginning of the other one.
-/
namespace Go.Proofs.YtaadelcmhbgpnaaGreatDoor
open Go.RowKit
open Go.Lib
attribute [local go_sem] grow_cell grow_frozen
theorem lnS_take2 : ∀ (ts : List (List UInt8)) (m : Nat) (b : Int) (j : Nat), lnS m b (ts.take j) = (lnS m b ts).take j
  | [], m, b, j => by simp [lnS]
  | t :: ts, m, b, 0 => by simp [lnS]
  | t :: ts, m, b, j + 1 => by simp [lnS, lnS_take2 ts]
theorem lnS_pre {ts : List (List UInt8)} {n : Nat} {k : Nat} (hk : k < n) (h1 : k < (lnS 1 0 (ts.take n)).length) (h2 : k < (lnS 1 0 ts).length) : (lnS 1 0 (ts.take n))[k] = (lnS 1 0 ts)[k] := by
  have : (lnS 1 0 (ts.take n))[k]? = (lnS 1 0 ts)[k]? := by rw [lnS_take2, List.getElem?_take, if_pos hk]
  rw [List.getElem?_eq_getElem h1, List.getElem?_eq_getElem h2] at this
  exact Option.some.inj this
set_option maxRecDepth 100000 in
set_option maxHeartbeats 2000000 in
theorem prel_take (s t : ByteArray) (hs : s.size ≤ 1000000) (ht : t.size ≤ 1000000) (ts : List (List UInt8)) (n : Nat) (hn : n ≤ ts.length) (h1 : readB 200 1 0 s.data.toList = (ts.take n, [])) (h2 : readB 200 1 0 t.data.toList = (ts, [])) (w : World) (hl : LibOK w) :
    Calls Tryz.prog 18 #[.string s, .string t] w fun e w' => e = .returned (.tuple #[.int .i64 (if n < ts.length then 1 else 0), .int .i64 0, .int .i64 0]) ∧ Below w.heap.size w w' := by
  have HW1 := Lib.hid (pwhole_any s hs w hl)
  have HW2 := Lib.hid (fun w' h => pwhole_any t ht w' h)
  have HL := Lib.hid hl
  have H1 := Lib.hid h1
  have H2 := Lib.hid h2
  have h200 := read_200 t.data.toList
  rw [h2] at h200
  simp only at h200
  clear hl h1 h2
  go_enter Tryz.func18, Tryz.ntmps18
  go_wp2_with fail
  refine HW1.out.mono ?_
  rintro e w1 h
  obtain ⟨hb1, v1, rfl, hO1⟩ := whole_yes h H1.out
  obtain ⟨A1, c1, rfl, hI1, -⟩ := hO1.parts
  rw [lnS_len, List.length_take, Nat.min_eq_left hn]
  have L1 := Lib.hid (HL.out.below hb1)
  have HI1 := Lib.hid hI1
  clear h hO1 hI1 HW1
  go_wp2_with fail
  refine (HW2.out _ L1.out).mono ?_
  rintro e w2 h
  obtain ⟨hb2, v2, rfl, hO2⟩ := whole_yes h H2.out
  obtain ⟨A2, c2, rfl, hI2, -⟩ := hO2.parts
  rw [lnS_len]
  have hB2 := hb1.trans (hb2.mono hb1.size)
  have HI1' := Lib.hid (HI1.out.below hb2)
  have HI2 := Lib.hid hI2
  have HB2 := Lib.hid hB2
  clear h hO2 hI2 HW2 HI1 hb1 hb2 hB2 L1
  have hmin : min (n : Int) (ts.length : Int) = (n : Int) := by omega
  go_upto_region 8 with fail
  go_loopw [31] (fun i wr => ∃ k : Nat, i = .int .i64 k ∧ k ≤ n ∧ Hid (Below w2.heap.size w2 wr)) (fun i _ => n - (RowKit.intOf i).toNat)
  case atStart => exact ⟨0, rfl, by omega, Lib.hid (Below.refl _ _)⟩
  case round =>
    obtain ⟨k, rfl, hk, hB⟩ := hrel
    by_cases hlt : k < n
    · have dl : decide ((k : Int) < (n : Int)) = true := decide_eq_true (by omega)
      have hl1 : k < (lnS 1 0 (ts.take n)).length := by rw [lnS_len, List.length_take]; omega
      have hl2 : k < (lnS 1 0 ts).length := by rw [lnS_len]; omega
      obtain ⟨b, o, rfl, hb, hc⟩ := (HI1'.out.below hB.out) (by omega)
      obtain ⟨b2, o2, rfl, hb2, hc2⟩ := (HI2.out.below hB.out) (by omega)
      obtain ⟨q0, q1, q2⟩ := hc k hl1
      obtain ⟨p0, p1, p2⟩ := hc2 k hl2
      rw [lnS_pre hlt hl1 hl2] at q0 q1 q2
      obtain ⟨x, hx⟩ : ∃ x, x = (lnS 1 0 ts)[k] := ⟨_, rfl⟩
      rw [← hx] at q0 q1 q2 p0 p1 p2
      clear hc hc2 hx hl1 hl2
      go_upto_region 10 with fail
      refine region_grow (by kernel_rfl) (by kernel_rfl) ?_
      repeat (go_big_quiet_step ((fail)))
      refine wpQuiet_nil ?_
      rintro w5 ⟨xg, hxg⟩
      have hb5 := below_grow wr xg
      rw [← hxg] at hb5
      clear hxg xg
      have HB5 := Lib.hid (hB.out.trans (hb5.mono hB.out.size))
      clear hb5 q0 q1 q2 p0 p1 p2
      go_wp2
      go_roundw
      case rel => exact ⟨k + 1, by go_num, by omega, HB5⟩
      case measure => simp [RowKit.intOf]; omega
    · obtain rfl : k = n := by omega
      have dl : decide ((k : Int) < (k : Int)) = false := decide_eq_false (by omega)
      have hBB := HB2.out.trans (hB.out.mono HB2.out.size)
      by_cases hnt : k < ts.length
      · have d2 : decide ((k : Int) < (ts.length : Int)) = true := decide_eq_true (by omega)
        go_wp2
        go_ret3
        exact ⟨rfl, hBB⟩
      · have hkt : k = ts.length := by omega
        have d2 : decide ((k : Int) < (ts.length : Int)) = false := decide_eq_false (by omega)
        have d3 : decide ((ts.length : Int) < (k : Int)) = false := decide_eq_false (by omega)
        clear hkt
        go_wp2
        go_ret3
        exact ⟨rfl, hBB⟩
set_option maxRecDepth 100000 in
set_option maxHeartbeats 1000000 in
theorem pmerge_take (s t : ByteArray) (hs : s.size ≤ 1000000) (ht : t.size ≤ 1000000) (ts : List (List UInt8)) (n : Nat) (hn : n ≤ ts.length) (he : n = ts.length → s = t) (h1 : readB 200 1 0 s.data.toList = (ts.take n, [])) (h2 : readB 200 1 0 t.data.toList = (ts, [])) (w : World) (hl : LibOK w) :
    Calls Tryz.prog 20 #[.string s, .string t] w fun e w' => e = .returned (.tuple #[.string t, .int .i64 0]) ∧ Below w.heap.size w w' := by
  have HR := prel_take s t hs ht ts n hn h1 h2 w hl
  by_cases hnt : n < ts.length
  · rw [if_pos hnt] at HR
    have HR := Lib.hid HR
    clear he h1 h2 hl hnt
    go_enter Tryz.func20, Tryz.ntmps20
    go_wp2_with fail
    refine HR.out.mono ?_
    rintro e w1 ⟨rfl, hb1⟩
    go_wp2
    go_ret2
    exact ⟨rfl, hb1⟩
  · rw [if_neg hnt] at HR
    have HR := Lib.hid HR
    have hst := he (by omega)
    subst hst
    clear he h1 h2 hl hnt
    go_enter Tryz.func20, Tryz.ntmps20
    go_wp2_with fail
    refine HR.out.mono ?_
    rintro e w1 ⟨rfl, hb1⟩
    go_wp2
    go_ret2
    exact ⟨rfl, hb1⟩
end Go.Proofs.YtaadelcmhbgpnaaGreatDoor
