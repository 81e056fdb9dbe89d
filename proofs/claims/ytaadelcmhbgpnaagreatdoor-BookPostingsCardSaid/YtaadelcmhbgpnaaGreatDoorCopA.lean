/-
  BOOKS: Since, Extend, Relation and Merge of the program, at books that are whole.
-/
import Derived.Test.YtaadelcmhbgpnaaGreatDoorWriA
namespace Go.Proofs.YtaadelcmhbgpnaaGreatDoor
open Go.RowKit
open Go.Lib
theorem lnS_drop : ∀ (ts : List (List UInt8)) (n : Nat) (b : Int) (j : Nat), j ≤ ts.length → (lnS n b ts).drop j = lnS (n + j) (endZ n b (ts.take j)) (ts.drop j)
  | ts, n, b, 0, _ => by simp [endZ]
  | t :: ts, n, b, j + 1, h => by
    rw [lnS, List.drop_succ_cons, lnS_drop ts (n + 1) (lineZ n b t) j (by simpa using h), show n + 1 + j = n + (j + 1) by omega]
    rfl
theorem IsLn.drop {w : World} {A : Option Addr} {l : List Ln} (h : IsLn w A l) (j : Nat) : IsLn w (A.map (fun x => x.add (j * 3))) (l.drop j) := by
  intro hp
  rw [List.length_drop] at hp
  obtain ⟨b, o, rfl, hb, hc⟩ := h (by omega)
  refine ⟨b, o + j * 3, by simp [Addr.add], hb, fun k hk => ?_⟩
  rw [List.length_drop] at hk
  have h1 := hc (j + k) (by omega)
  rw [List.getElem_drop]
  rw [show o + (j + k) * 3 = o + j * 3 + k * 3 by omega] at h1
  exact h1
theorem IsLn.none_of {w : World} {A : Option Addr} {l : List Ln} (h : l.length = 0) : IsLn w A l := fun hp => by omega
/-- What whole returns, where the book is whole. -/
theorem whole_yes {w w' : World} {X : List UInt8} {e : Ending} {ts : List (List UInt8)} (h : OutW w X e w') (hr : readB 200 1 0 X = (ts, [])) : Below w.heap.size w w' ∧ ∃ v, e = .returned (.tuple #[v, .int .i64 0]) ∧ OwnLn w' w.heap.size v (lnS 1 0 ts) := by
  obtain ⟨hb, h⟩ := h
  rw [hr] at h
  rcases h with ⟨h, -⟩ | ⟨-, v, he, ho⟩
  · exact absurd rfl h
  · exact ⟨hb, v, he, ho⟩
set_option maxRecDepth 100000 in
set_option maxHeartbeats 1000000 in
/-- Since, from a line of the book on, or behind its last line. -/
theorem psince_yes (s : ByteArray) (hs : s.size ≤ 1000000) (ts : List (List UInt8)) (hr : readB 200 1 0 s.data.toList = (ts, [])) (j : Nat) (hj : j ≤ ts.length) (w : World) (hl : LibOK w) :
    Calls Tryz.prog 16 #[.string s, .int .i64 ((j : Int) + 1)] w fun e w' => e = .returned (.tuple #[.string ⟨(writeB (1 + j) (endZ 1 0 (ts.take j)) (ts.drop j)).toArray⟩, .int .i64 0]) ∧ Below w.heap.size w w' := by
  have HW := Lib.hid (pwhole_any s hs w hl)
  have HL := Lib.hid hl
  have HRD := Lib.hid hr
  have hlen := read_200 s.data.toList
  have hrt := reads_rights s.data.toList
  rw [hr] at hlen hrt
  simp only at hlen hrt
  have HRT := Lib.hid (show Rights (ts.drop j) from fun u hu => hrt u (List.mem_of_mem_drop hu))
  clear hl hr hrt
  go_enter Tryz.func16, Tryz.ntmps16
  go_wp2_with fail
  refine HW.out.mono ?_
  rintro e w1 h
  obtain ⟨hb1, v, rfl, hO⟩ := whole_yes h HRD.out
  obtain ⟨A, c, rfl, hI, hc⟩ := hO.parts
  rw [lnS_len] at hc ⊢
  have L1 := Lib.hid (HL.out.below hb1)
  have HI := Lib.hid hI
  clear h hO hI HW
  have dl : ¬ (ts.length : Int) + 1 < (j : Int) + 1 := by omega
  have hdr := lnS_drop ts 1 0 j hj
  have HDR := Lib.hid hdr
  have HPW := Lib.hid (fun A c w' h k => pwrite_any (ts.drop j) (1 + j) (endZ 1 0 (ts.take j)) A c (by rw [List.length_drop]; omega) (by rw [List.length_drop]; omega) HRT.out w' h k)
  rw [List.length_drop] at HPW
  clear hdr
  go_wp2_with fail
  · have hI2 : IsLn w1 A (lnS (1 + j) (endZ 1 0 (ts.take j)) (ts.drop j)) := IsLn.none_of (by rw [lnS_len, List.length_drop]; omega)
    refine (HPW.out A 0 w1 L1.out hI2).mono ?_
    rintro e w2 ⟨rfl, hb2⟩
    go_wp2
    go_ret2
    exact ⟨rfl, hb1.trans (hb2.mono hb1.size)⟩
  · have hI2 := HI.out.drop j
    rw [HDR.out] at hI2
    refine (HPW.out (A.map (fun x => x.add (j * 3))) (c - j) w1 L1.out hI2).mono ?_
    rintro e w2 ⟨rfl, hb2⟩
    go_wp2
    go_ret2
    exact ⟨rfl, hb1.trans (hb2.mono hb1.size)⟩
set_option maxRecDepth 100000 in
theorem pextend_yes (s t : ByteArray) (hs : s.size ≤ 100000) (ht : t.size ≤ 100000) (h1 : (readB 200 1 0 s.data.toList).2 = []) (h2 : (readB 200 1 0 (s ++ t).data.toList).2 = []) (w : World) (hl : LibOK w) :
    Calls Tryz.prog 22 #[.string s, .string t] w fun e w' => e = .returned (.tuple #[.string (s ++ t), .int .i64 0]) ∧ Below w.heap.size w w' := by
  have hst : (s ++ t).size ≤ 200000 := by simp; omega
  have H1 := piswhole_any s (by omega) w hl
  have H2 := fun w' h => piswhole_any (s ++ t) (by omega) w' h
  rw [decide_eq_true h1] at H1
  rw [decide_eq_true h2] at H2
  have HH1 := Lib.hid H1
  have HH2 := Lib.hid H2
  have HL := Lib.hid hl
  clear H1 H2 h1 h2 hl
  go_enter Tryz.func22, Tryz.ntmps22
  go_wp2_with fail
  refine HH1.out.mono ?_
  rintro e w1 ⟨rfl, hb1⟩
  go_wp2_with fail
  refine (HH2.out _ (HL.out.below hb1)).mono ?_
  rintro e w2 ⟨rfl, hb2⟩
  go_wp2
  go_ret2
  exact ⟨rfl, hb1.trans (hb2.mono hb1.size)⟩
end Go.Proofs.YtaadelcmhbgpnaaGreatDoor
