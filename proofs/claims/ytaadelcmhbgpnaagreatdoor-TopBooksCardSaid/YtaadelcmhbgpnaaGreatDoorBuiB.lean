/-
  BOOKS: strings.Builder's WriteString, where the branch of a copied builder was cut off from the translation; write of the program.
-/
import Derived.Test.YtaadelcmhbgpnaaGreatDoorBokT
import Derived.Test.YtaadelcmhbgpnaaGreatDoorBokR
import Derived.Lib.Builder
import Derived.Lib.AppendStr
import Derived.Lib.UnsafeStr
import Derived.Test.YtaadelcmhbgpnaaGreatDoorRegM
namespace Go.Proofs.YtaadelcmhbgpnaaGreatDoor
open Go.RowKit
open Go.Lib
theorem bSize : (Tryz.prog.info? 100).map (·.size) = some 2 := by kernel_rfl
theorem bLies : liesAt Tryz.prog Tryz.prog.depth 100 (2 / Tryz.prog.cellsOf 100) 0 100 1 = true := by kernel_rfl
theorem bByte : (Tryz.prog.info? 5).map (fun i => (i.zero, i.size, i.bytes)) = some (some (.int .u8 0), 1, 1) := by kernel_rfl
set_option maxRecDepth 100000 in
theorem check_any (B b : Nat) (bs : List Value) (w : World) (h : Lib.IsBuilder 100 5 B b bs w) :
    Calls Tryz.prog 96 #[.pointer (some ⟨b, 0, none⟩)] w fun e w' => e = .returned (.tuple #[]) ∧ Lib.BuilderAt 100 5 B b (.pointer (some ⟨b, 0, none⟩)) bs w' ∧ Below B w w' := by
  obtain ⟨j, hj, hjs⟩ := Option.map_eq_some_iff.1 bSize
  have hne := fun W => Lib.run_neq_ptr_same (P := Tryz.prog) W ⟨b, 0, none⟩ Tryz.underlying97 hj
  rcases h with h | h
  · have hu := Lib.run_to_unsafe w ⟨b, 0, none⟩ Tryz.underlying97 Tryz.underlying142 hj (by rw [hjs]; decide) h.shape (Nat.zero_lt_succ 1)
    have hv := Lib.run_from_unsafe w ⟨b, 0, none⟩ Tryz.underlying142 Tryz.underlying97 hj h.shape bLies
    have c0 := h.cell0
    have f0 := h.frozen0
    have H := Lib.hid h
    clear h
    have hx : (callFunc 119 #[.pointer (some ⟨b, 0, none⟩)]).run Tryz.prog w = .ok (.value (.pointer (some ⟨b, 0, none⟩))) w := by
      rw [run_callFunc_extern Tryz.func119 (by kernel_rfl) (by kernel_rfl) (by kernel_rfl) (e := Extern.AbiNoEscape.same) (by kernel_rfl), Lib.run_noEscape]
      rfl
    go_enter Tryz.func96, Tryz.ntmps96
    go_wp2
    go_end0
    exact ⟨rfl, H.out.used _, (Below.refl B w).setCell (p := ⟨b, 0, none⟩) H.out.1 _⟩
  · have c0 := h.cell0
    have H := Lib.hid h
    clear h
    go_enter Tryz.func96, Tryz.ntmps96
    go_wp2
    go_end0
    exact ⟨rfl, H.out, Below.refl B _⟩
set_option maxRecDepth 100000 in
/-- WriteString: the bytes are appended. -/
theorem wstr_any (B b : Nat) (l : List UInt8) (s : ByteArray) (w : World) (h : Lib.IsBuilder 100 5 B b (Lib.byteCells l) w) (hlen : l.length + s.size ≤ 1000000) (hB : B ≤ w.heap.size) :
    Calls Tryz.prog 74 #[.pointer (some ⟨b, 0, none⟩), .string s] w fun e w' => e = .returned (.tuple #[.int .i64 s.size, .nilIface]) ∧ Lib.IsBuilder 100 5 B b (Lib.byteCells (l ++ s.data.toList)) w' ∧ Below B w w' := by
  obtain ⟨i0, hi, hz0, hz1, hz2⟩ := info_parts bByte
  have HC := Lib.hid (check_any B b _ w h)
  have HLB := Lib.hid (Lib.byteCells_length l)
  clear h
  go_enter Tryz.func74, Tryz.ntmps74
  go_wp2_with fail
  refine HC.out.mono ?_
  rintro e w1 ⟨rfl, ⟨hb, v, hbk, hown, hne⟩, hb1⟩
  have c0 : w1.cell? ⟨b, 0, none⟩ = some (.pointer (some ⟨b, 0, none⟩)) := by rw [Lib.cell_of_heap hbk]; rfl
  have c1 : w1.cell? ⟨b, 1, none⟩ = some v := by rw [Lib.cell_of_heap hbk]; rfl
  have hz1' := hb1.size
  have hlt : b < w1.heap.size := by
    rcases Nat.lt_or_ge b w1.heap.size with h | h
    · exact h
    · rw [Array.getElem?_eq_none h] at hbk; cases hbk
  go_wp2_with (at_builtin; refine Lib.wpList_append_own_string _ rfl _ _ 98 9 rfl B 5 i0 Tryz.underlying98 Tryz.underlying9 hi hz0 hz1 hz2 _ _ _ rfl hown s rfl (by rw [HLB.out]; unfold maxLen; omega) (by rw [HLB.out]; omega) (by omega) ?_)
  intro v' w2 hown' hg _
  have hb2 : w2.heap[b]? = some (.cells #[.pointer (some ⟨b, 0, none⟩), v] 100 (0, 0)) := (hg.block b hlt (fun e => hne e.symm)).trans hbk
  have d0 : w2.cell? ⟨b, 0, none⟩ = some (.pointer (some ⟨b, 0, none⟩)) := by rw [Lib.cell_of_heap hb2]; rfl
  have d1 : w2.cell? ⟨b, 1, none⟩ = some v := by rw [Lib.cell_of_heap hb2]; rfl
  have f1 : w2.frozen? ⟨b, 1, none⟩ = false := Lib.frozen_of_heap hb2 1
  obtain ⟨ao, n', cap, rfl⟩ : ∃ ao n' cap, v' = .slice ao n' cap := by
    rcases hown'.2 with ⟨hv, _⟩ | ⟨g, cap, cur, hv, _⟩
    · exact ⟨_, _, _, hv⟩
    · exact ⟨_, _, _, hv⟩
  have HF := Lib.hid (show Below B w w2 from hb1.grown hg (by omega) (fun k hk => (hown.lt k hk).1))
  have HO := Lib.hid (show w2.ownsRow B 5 1 (.slice ao n' cap) (Lib.byteCells (l ++ s.data.toList)).length (Lib.byteCells (l ++ s.data.toList)) by
    rw [Lib.byteCells_append, ← Lib.strCells_eq, List.length_append, Lib.strCells_length]
    exact hown')
  have HB2 := Lib.hid hb2
  clear hown hown' hg hbk hb2 c0 c1 hne hb1 HC
  go_wp2
  go_ret2
  exact ⟨rfl, .inr (Lib.BuilderAt.put hb HB2.out HO.out (by decide)), HF.out.setCell (p := ⟨b, 1, none⟩) hb _⟩
theorem isB_keep {T e : TypeId} {B b : Nat} {bs : List Value} {w w' : World} (hb : Below w.heap.size w w') (h : Lib.IsBuilder T e B b bs w) : Lib.IsBuilder T e B b bs w' := by
  have key : ∀ p, Lib.BuilderAt T e B b p bs w → Lib.BuilderAt T e B b p bs w' := fun p h => by
    have hlt := h.lt
    obtain ⟨hB, v, hbk, hown, hne⟩ := h
    exact ⟨hB, v, (hb.block b hlt).trans hbk, World.ownsRow.kept hown (row := none) ⟨hb.os, hb.tape, hb.output, hb.size, fun k hk _ => hb.block k hk⟩ (by cases v.ownBlock <;> simp), hne⟩
  rcases h with h | h
  · exact .inl (key _ h)
  · exact .inr (key _ h)
theorem lnS_at : ∀ (us : List (List UInt8)) (n : Nat) (b : Int) (k : Nat) (h : k < us.length), (lnS n b us)[k]? = some ⟨n + k, ⟨us[k].toArray⟩, lineZ (n + k) (endZ n b (us.take k)) us[k]⟩
  | t :: us, n, b, 0, _ => by simp [lnS, endZ]
  | t :: us, n, b, k + 1, h => by
    have h' : k < us.length := by simpa using h
    rw [lnS, List.getElem?_cons_succ, lnS_at us (n + 1) (lineZ n b t) k h', show n + 1 + k = n + (k + 1) by omega]
    rfl
theorem writeB_take {us : List (List UInt8)} {n : Nat} {b : Int} {k : Nat} (h : k < us.length) : writeB n b (us.take (k + 1)) = writeB n b (us.take k) ++ lineT (n + k) (endZ n b (us.take k)) us[k] := by
  rw [List.take_succ_eq_append_getElem h, writeB_app, List.length_take, Nat.min_eq_left (by omega)]
  simp [writeB]
theorem writeB_len : ∀ (us : List (List UInt8)) (n : Nat) (b : Int), n + us.length ≤ 1000000 → Rights us → (writeB n b us).length ≤ 97 * us.length
  | [], n, b, _, _ => by simp [writeB]
  | t :: us, n, b, hn, hr => by
    simp only [List.length_cons] at hn
    have h1 := line_le (n := n) (b := b) (t := t) (by omega) (hr t (by simp))
    have h2 := writeB_len us (n + 1) (lineZ n b t) (by omega) (fun u hu => hr u (by simp [hu]))
    rw [writeB, List.length_append, List.length_cons]
    omega
theorem ln_at {w : World} {b o : Nat} {us : List (List UInt8)} {n : Nat} {z : Int} {k : Nat} (hk : k < us.length) (hc : ∀ k (h : k < (lnS n z us).length), w.cell? ⟨b, o + k * 3, none⟩ = some (.int .i64 (lnS n z us)[k].n) ∧ w.cell? ⟨b, o + k * 3 + 1, none⟩ = some (.string (lnS n z us)[k].t) ∧ w.cell? ⟨b, o + k * 3 + 2, none⟩ = some (.int .i64 (lnS n z us)[k].z)) :
    w.cell? ⟨b, o + k * 3, none⟩ = some (.int .i64 (n + k : Nat)) ∧ w.cell? ⟨b, o + k * 3 + 1, none⟩ = some (.string ⟨us[k].toArray⟩) ∧ w.cell? ⟨b, o + k * 3 + 2, none⟩ = some (.int .i64 (lineZ (n + k) (endZ n z (us.take k)) us[k])) := by
  have hl : k < (lnS n z us).length := by rw [lnS_len]; exact hk
  have h1 := hc k hl
  have h2 := lnS_at us n z k hk
  rw [List.getElem?_eq_getElem hl] at h2
  rw [Option.some.inj h2] at h1
  exact h1
set_option maxRecDepth 100000 in
set_option maxHeartbeats 2000000 in
theorem pwrite_any (us : List (List UInt8)) (n : Nat) (z0 : Int) (A : Option Addr) (c : Nat) (hn : n + us.length ≤ 1000000) (hu : us.length ≤ 1000) (hr : Rights us) (w : World) (hl : LibOK w) (hI : IsLn w A (lnS n z0 us)) :
    Calls Tryz.prog 46 #[.slice A us.length c] w fun e w' => e = .returned (.string ⟨(writeB n z0 us).toArray⟩) ∧ Below w.heap.size w w' := by
  have HI := Lib.hid hI
  have HL := Lib.hid hl
  have HRR := Lib.hid hr
  have hb0 := Lib.fresh_isBuilder 100 5 w
  have hB0 := below_new w (.cells #[.pointer none, .slice none 0 0] 100)
  have HI0 := Lib.hid hb0
  have HB0 := Lib.hid hB0
  clear hI hl hr hb0 hB0
  go_enter Tryz.func46, Tryz.ntmps46
  go_upto_region 3 with fail
  go_loopw [8] (fun i wr => ∃ k : Nat, i = .int .i64 k ∧ k ≤ us.length ∧ Hid (Lib.IsBuilder 100 5 w.heap.size w.heap.size (Lib.byteCells (writeB n z0 (us.take k))) wr) ∧ Hid (Below w.heap.size w wr)) (fun i _ => us.length - (RowKit.intOf i).toNat)
  case atStart => exact ⟨0, rfl, by omega, HI0, HB0⟩
  case round =>
    obtain ⟨k, rfl, hk, hS, hB⟩ := hrel
    by_cases hlt : k < us.length
    · have dl : decide ((k : Int) < (us.length : Int)) = true := decide_eq_true (by omega)
      have hll := lnS_len us n z0
      obtain ⟨b, o, rfl, hb, hc⟩ := (HI.out.below hB.out) (by omega)
      obtain ⟨q0, q1, q2⟩ := ln_at hlt hc
      have hwt := writeB_take (n := n) (b := z0) hlt
      have hrt := HRR.out us[k] (List.getElem_mem hlt)
      have hwl := writeB_len (us.take (k + 1)) n z0 (by rw [List.length_take]; omega) (fun u hu => HRR.out u (List.mem_of_mem_take hu))
      rw [List.length_take] at hwl
      obtain ⟨t, ht⟩ : ∃ t, t = us[k] := ⟨_, rfl⟩
      obtain ⟨z, hz⟩ : ∃ z, z = endZ n z0 (us.take k) := ⟨_, rfl⟩
      obtain ⟨m, hm⟩ : ∃ m, m = n + k := ⟨_, rfl⟩
      rw [← hm] at q0
      rw [← ht] at q1 hrt
      rw [← ht, ← hz, ← hm] at q2 hwt
      obtain ⟨y0, y1⟩ : 0 ≤ lineZ m z t ∧ lineZ m z t < 1000003 := sumT_bd _ _
      have hlT : lineT m z t = itoa (m : Int) ++ 32 :: (itoa (lineZ m z t) ++ 32 :: (t ++ [10])) := rfl
      rw [hlT] at hwt
      obtain ⟨y, hy⟩ : ∃ y, y = lineZ m z t := ⟨_, rfl⟩
      rw [← hy] at q2 hwt y0 y1
      obtain ⟨T, hT⟩ : ∃ T : ByteArray, T = ⟨t.toArray⟩ := ⟨_, rfl⟩
      have hTl : T.data.toList = t := by rw [hT]
      rw [← hT] at q1
      rw [← hTl] at hwt hrt
      have hTs : T.size ≤ 80 := by rw [← lt_list]; exact (rightT_iff.1 hrt).2.1
      have HFM := Lib.hid (fun w' h => pformat_any m (by omega) y y0 (by omega) T (by omega) w' h)
      obtain ⟨F, hF⟩ : ∃ F : ByteArray, F = ⟨(itoa (m : Int) ++ 32 :: (itoa y ++ 32 :: (T.data.toList ++ [10]))).toArray⟩ := ⟨_, rfl⟩
      have hFl : F.data.toList = itoa (m : Int) ++ 32 :: (itoa y ++ 32 :: (T.data.toList ++ [10])) := by rw [hF]
      rw [← hF] at HFM
      rw [← hFl] at hwt
      have hFs : (writeB n z0 (us.take k)).length + F.size ≤ 1000000 := by
        have := congrArg List.length hwt
        rw [List.length_append, lt_list] at this
        omega
      unfold lnV at HFM
      have HWT := Lib.hid hwt
      have HFS := Lib.hid hFs
      have hX := isB_keep (below_new wr (.cells #[.int .i64 m, .string T, .int .i64 y] 33)) hS.out
      have hBn := below_new wr (.cells #[.int .i64 m, .string T, .int .i64 y] 33)
      have hB1 := hB.out.trans (hBn.mono hB.out.size)
      have hBox := Box3.new wr (.int .i64 m) (.string T) (.int .i64 y) 33
      obtain ⟨u, hu'⟩ : ∃ u, u = wr.alloc (.cells #[.int .i64 m, .string T, .int .i64 y] 33) := ⟨_, rfl⟩
      rw [← hu'] at hX hB1 hBox
      have L1 := Lib.hid (HL.out.below hB1)
      have HU := Lib.hid hu'
      have HX := Lib.hid hX
      have HB1 := Lib.hid hB1
      clear hc hll hwt hrt hwl ht hz hm hlT hy hT hTl hF hFl hFs hX hBn hB1 hu' hS hB
      go_wp2_with fail
      rw [← HU.out]
      refine (HFM.out _ L1.out).mono ?_
      rintro e w1 ⟨rfl, hb1⟩
      have hS1 := Lib.hid (isB_keep hb1 HX.out)
      have HB2 := Lib.hid (HB1.out.trans (hb1.mono HB1.out.size))
      clear hb1 HX HB1 L1 HFM hBox
      go_wp2_with fail
      refine (wstr_any w.heap.size w.heap.size _ F w1 hS1.out HFS.out HB2.out.size).mono ?_
      rintro e w2 ⟨rfl, hs2, hb2⟩
      have HS2 := Lib.hid (show Lib.IsBuilder 100 5 w.heap.size w.heap.size (Lib.byteCells (writeB n z0 (us.take (k + 1)))) w2 by rw [HWT.out]; exact hs2)
      have HB3 := Lib.hid (HB2.out.trans hb2)
      clear hs2 hb2 hS1 HB2
      go_wp2
      go_roundw
      case rel => exact ⟨k + 1, by go_num, by omega, HS2, HB3⟩
      case measure => simp [RowKit.intOf]; omega
    · have dl : decide ((k : Int) < (us.length : Int)) = false := decide_eq_false (by omega)
      obtain rfl : k = us.length := by omega
      have hS' := hS.out
      rw [List.take_length] at hS'
      have HS := Lib.hid hS'
      clear hS hS'
      go_wp2_with fail
      refine (Tryz.Builder_String_any w.heap.size w.heap.size _ wr HS.out hB.out.size).mono ?_
      rintro e w1 ⟨rfl, hb1⟩
      go_wp2
      go_ret
      exact ⟨rfl, hB.out.trans hb1⟩
end Go.Proofs.YtaadelcmhbgpnaaGreatDoor
/-
  BOOKS: Repair of the program, SameLines of the reference.
-/
namespace Go.Proofs.YtaadelcmhbgpnaaGreatDoor
open Go.RowKit
open Go.Lib
attribute [local go_sem] grow_cell grow_frozen
theorem reads_rights (X : List UInt8) : Rights (readB 200 1 0 X).1 := (reads_of 200 1 0 X).right
set_option maxRecDepth 100000 in
theorem prepair_any (s : ByteArray) (hs : s.size ≤ 1000000) (w : World) (hl : LibOK w) :
    Calls Tryz.prog 35 #[.string s] w fun e w' => e = .returned (.string ⟨(writeB 1 0 (readB 200 1 0 s.data.toList).1).toArray⟩) ∧ Below w.heap.size w w' := by
  have HR := Lib.hid (pread_any s hs w hl)
  have HL := Lib.hid hl
  have H200 := Lib.hid (read_200 s.data.toList)
  have HRR := Lib.hid (reads_rights s.data.toList)
  clear hl
  go_enter Tryz.func35, Tryz.ntmps35
  go_wp2_with fail
  refine HR.out.mono ?_
  rintro e w1 ⟨v, r, rfl, hr, hO, hb1⟩
  obtain ⟨A, c, rfl, hI, -⟩ := hO.parts
  rw [lnS_len]
  have HI := Lib.hid hI
  obtain ⟨us, hus⟩ : ∃ us, us = (readB 200 1 0 s.data.toList).1 := ⟨_, rfl⟩
  rw [← hus] at HI H200 HRR ⊢
  have L1 := Lib.hid (HL.out.below hb1)
  have HUS := Lib.hid hus.symm
  clear HR hr hO hI hus
  go_wp2_with fail
  refine (pwrite_any us 1 0 A c (by have := H200.out; omega) (by have := H200.out; omega) HRR.out _ L1.out HI.out).mono ?_
  rintro e w2 ⟨rfl, hb2⟩
  go_wp2
  go_ret
  exact ⟨by rw [HUS.out] <;> rfl, hb1.trans (hb2.mono hb1.size)⟩
theorem slice_to (s : ByteArray) (j : Nat) (h2 : j ≤ s.size) (W : World) : (Instr.slice 9 (.string s) none (some (.int .i64 (j : Int))) none).run Tryz.prog W = .ok (.string (s.extract 0 j)) W := by
  have q3 : (j : Int) ≤ (s.size : Int) := by omega
  simp [go_sem, q3]
theorem read_split (X : List UInt8) : X = writeB 1 0 (readB 200 1 0 X).1 ++ (readB 200 1 0 X).2 := (reads_of 200 1 0 X).eq
end Go.Proofs.YtaadelcmhbgpnaaGreatDoor
