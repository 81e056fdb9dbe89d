/-
  BOOKS: Repair of the program, SameLines of the reference.
-/
import Derived.Test.YtaadelcmhbgpnaaDoorBuiA
import Derived.Test.YtaadelcmhbgpnaaDoorRegM
namespace Go.Proofs.YtaadelcmhbgpnaaDoor
open Go.RowKit
open Go.Lib
attribute [local go_sem] grow_cell grow_frozen
theorem reads_rights (X : List UInt8) : Rights (readB 200 1 0 X).1 := (reads_of 200 1 0 X).right
set_option maxRecDepth 100000 in
theorem prepair_any (s : ByteArray) (hs : s.size ≤ 1000000) (w : World) (hl : LibOK w) :
    Calls Tryd.prog 26 #[.string s] w fun e w' => e = .returned (.string ⟨(writeB 1 0 (readB 200 1 0 s.data.toList).1).toArray⟩) ∧ Below w.heap.size w w' := by
  have HR := Lib.hid (pread_any s hs w hl)
  have HL := Lib.hid hl
  have H200 := Lib.hid (read_200 s.data.toList)
  have HRR := Lib.hid (reads_rights s.data.toList)
  clear hl
  go_enter Tryd.func26, Tryd.ntmps26
  go_wp2_with fail
  refine HR.out.mono ?_
  rintro e w1 ⟨v, r, rfl, hr, hO, hb1⟩
  obtain ⟨A, c, rfl, hI, -⟩ := hO.parts
  rw [lnS_len]
  have HI := Lib.hid hI
  obtain ⟨us, hus⟩ : ∃ us, us = (readB 200 1 0 s.data.toList).1 := ⟨_, rfl⟩
  rw [← hus] at HI H200 HRR ⊢
  have L1 := Lib.hid (HL.out.below hb1)
  have HUS := Lib.hid hus.symm
  clear HR hr hO hI hus
  go_wp2_with fail
  refine (pwrite_any us 1 0 A c (by have := H200.out; omega) (by have := H200.out; omega) HRR.out _ L1.out HI.out).mono ?_
  rintro e w2 ⟨rfl, hb2⟩
  go_wp2
  go_ret
  exact ⟨by rw [HUS.out] <;> rfl, hb1.trans (hb2.mono hb1.size)⟩
set_option maxRecDepth 100000 in
set_option maxHeartbeats 1000000 in
theorem rsame_any (l : List Ln) (A B : Option Addr) (c d : Nat) (hn : l.length ≤ 1000000) (w : World) (hI : IsLn w A l) (hJ : IsLn w B l) :
    Calls Tryd.prog 24 #[.slice A l.length c, .slice B l.length d] w fun e w' => e = .returned (.bool true) ∧ Below w.heap.size w w' := by
  have HI := Lib.hid hI
  have HJ := Lib.hid hJ
  clear hI hJ
  go_enter Tryd.func24, Tryd.ntmps24
  go_upto_region 4 with fail
  go_loopw [5] (fun i wr => ∃ k : Nat, i = .int .i64 k ∧ k ≤ l.length ∧ Hid (Below w.heap.size w wr)) (fun i _ => l.length - (RowKit.intOf i).toNat)
  case atStart => exact ⟨0, rfl, by omega, Lib.hid (Below.refl _ _)⟩
  case round =>
    obtain ⟨k, rfl, hk, hB⟩ := hrel
    by_cases hlt : k < l.length
    · have dl : decide ((k : Int) < (l.length : Int)) = true := decide_eq_true (by omega)
      obtain ⟨b, o, rfl, hb, hc⟩ := (HI.out.below hB.out) (by omega)
      obtain ⟨b2, o2, rfl, hb2, hc2⟩ := (HJ.out.below hB.out) (by omega)
      obtain ⟨q0, q1, q2⟩ := hc k hlt
      obtain ⟨p0, p1, p2⟩ := hc2 k hlt
      obtain ⟨x, hx⟩ : ∃ x, x = l[k] := ⟨_, rfl⟩
      rw [← hx] at q0 q1 q2 p0 p1 p2
      clear hc hc2 hx
      go_upto_region 6 with fail
      refine region_grow (by kernel_rfl) (by kernel_rfl) ?_
      repeat (go_big_quiet_step ((fail)))
      refine wpQuiet_nil ?_
      rintro w5 ⟨xg, hxg⟩
      have hb5 := below_grow wr xg
      rw [← hxg] at hb5
      clear hxg xg
      have HB5 := Lib.hid (hB.out.trans (hb5.mono hB.out.size))
      clear hb5 q0 q1 q2 p0 p1 p2
      go_wp2
      go_roundw
      case rel => exact ⟨k + 1, by go_num, by omega, HB5⟩
      case measure => simp [RowKit.intOf]; omega
    · have dl : decide ((k : Int) < (l.length : Int)) = false := decide_eq_false (by omega)
      go_wp2
      go_ret
      exact ⟨rfl, hB.out⟩
theorem slice_to (s : ByteArray) (j : Nat) (h2 : j ≤ s.size) (W : World) : (Instr.slice 9 (.string s) none (some (.int .i64 (j : Int))) none).run Tryd.prog W = .ok (.string (s.extract 0 j)) W := by
  have q3 : (j : Int) ≤ (s.size : Int) := by omega
  simp [go_sem, q3]
theorem read_split (X : List UInt8) : X = writeB 1 0 (readB 200 1 0 X).1 ++ (readB 200 1 0 X).2 := (reads_of 200 1 0 X).eq
end Go.Proofs.YtaadelcmhbgpnaaDoor
