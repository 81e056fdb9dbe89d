/-
  BOOKS: Repair of the program, SameLines of the reference.
-/
import Derived.Test.YtaadelcmhbgpnaaGreatDoorBuiA
import Derived.Test.YtaadelcmhbgpnaaGreatDoorRegM
namespace Go.Proofs.YtaadelcmhbgpnaaGreatDoor
open Go.RowKit
open Go.Lib
attribute [local go_sem] grow_cell grow_frozen
theorem reads_rights (X : List UInt8) : Rights (readB 200 1 0 X).1 := (reads_of 200 1 0 X).right
set_option maxRecDepth 100000 in
theorem prepair_any (s : ByteArray) (hs : s.size ≤ 1000000) (w : World) (hl : LibOK w) :
    Calls Tryz.prog 35 #[.string s] w fun e w' => e = .returned (.string ⟨(writeB 1 0 (readB 200 1 0 s.data.toList).1).toArray⟩) ∧ Below w.heap.size w w' := by
  have HR := Lib.hid (pread_any s hs w hl)
  have HL := Lib.hid hl
  have H200 := Lib.hid (read_200 s.data.toList)
  have HRR := Lib.hid (reads_rights s.data.toList)
  clear hl
  go_enter Tryz.func35, Tryz.ntmps35
  go_wp2_with fail
  refine HR.out.mono ?_
  rintro e w1 ⟨v, r, rfl, hr, hO, hb1⟩
  obtain ⟨A, c, rfl, hI, -⟩ := hO.parts
  rw [lnS_len]
  have HI := Lib.hid hI
  obtain ⟨us, hus⟩ : ∃ us, us = (readB 200 1 0 s.data.toList).1 := ⟨_, rfl⟩
  rw [← hus] at HI H200 HRR ⊢
  have L1 := Lib.hid (HL.out.below hb1)
  have HUS := Lib.hid hus.symm
  clear HR hr hO hI hus
  go_wp2_with fail
  refine (pwrite_any us 1 0 A c (by have := H200.out; omega) (by have := H200.out; omega) HRR.out _ L1.out HI.out).mono ?_
  rintro e w2 ⟨rfl, hb2⟩
  go_wp2
  go_ret
  exact ⟨by rw [HUS.out] <;> rfl, hb1.trans (hb2.mono hb1.size)⟩
theorem slice_to (s : ByteArray) (j : Nat) (h2 : j ≤ s.size) (W : World) : (Instr.slice 9 (.string s) none (some (.int .i64 (j : Int))) none).run Tryz.prog W = .ok (.string (s.extract 0 j)) W := by
  have q3 : (j : Int) ≤ (s.size : Int) := by omega
  simp [go_sem, q3]
theorem read_split (X : List UInt8) : X = writeB 1 0 (readB 200 1 0 X).1 ++ (readB 200 1 0 X).2 := (reads_of 200 1 0 X).eq
end Go.Proofs.YtaadelcmhbgpnaaGreatDoor
