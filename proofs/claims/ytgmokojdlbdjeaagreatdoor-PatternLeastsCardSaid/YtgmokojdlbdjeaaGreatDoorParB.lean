/-
  THE PROGRAM's PARSER: a demand that fails; numbers, digits, rows.
-/
import Derived.Test.YtgmokojdlbdjeaaGreatDoorParA
import Derived.Test.YtgmokojdlbdjeaaGreatDoorLibA
import Derived.Recover
namespace Go.Proofs.YtgmokojdlbdjeaaGreatDoor
open Go.RowKit
/-- What the parser panics with. -/
def MalP : List PanicEntry := [{ v := .iface 111 (.agg #[]), recovered := false }]
set_option maxRecDepth 100000 in
theorem demand_no (w : World) : Calls Tryz.prog 120 #[.bool false] w fun e w' => e = .panicked MalP ∧ w = w' := by
  go_enter Tryz.func120, Tryz.ntmps120
  go_wp2
  exact ⟨rfl, rfl, rfl⟩
/-- A text of digits, and what they are. -/
def DigT (s : ByteArray) : Prop := ∀ c ∈ s.data.toList, 48 ≤ c.toNat ∧ c.toNat ≤ 57
def digL (s : ByteArray) : List Int := s.data.toList.map fun c => (c.toNat : Int) - 48
set_option maxRecDepth 100000 in
set_option maxHeartbeats 1000000 in
theorem digits_any (s : ByteArray) (hs : s.size ≤ 1000000) (w : World) :
    Calls Tryz.prog 124 #[.string s] w fun e w' => ((∃ v, e = .returned v ∧ DigT s ∧ OwnI w' w.heap.size v (digL s)) ∨ e = .panicked MalP ∧ ¬ DigT s) ∧ Below w.heap.size w w' := by
  have hcv := fun W : World => Go.Lib.run_convert_string_bytes (P := Tryz.prog) W 9 98 5 s Tryz.underlying9 Tryz.underlying98 Tryz.underlying5
  go_enter Tryz.func124, Tryz.ntmps124
  go_wp2
  obtain ⟨W, hW⟩ : ∃ W, W = Go.Lib.bytesWorld w 5 s := ⟨_, rfl⟩
  have hb0 := Lib.hid (show Below w.heap.size w W by rw [hW]; exact Go.Lib.bytesWorld_below w _ s)
  have hg : w.heap.size < W.heap.size := by rw [hW, Go.Lib.bytesWorld_size]; omega
  have HC := Lib.hid (show ∀ j, j < s.size → W.cell? ⟨w.heap.size, j, none⟩ = some (.int .u8 (s.data.toList.getD j 0).toNat) from fun j hj => by rw [hW]; exact Go.Lib.bytesWorld_cell w _ s j hj)
  rw [← hW]
  obtain ⟨n, hn⟩ : ∃ n, n = s.size := ⟨_, rfl⟩
  have HN := Lib.hid (show n = s.data.toList.length from hn)
  rw [← hn] at hs HC ⊢
  obtain ⟨cp, hcp⟩ : ∃ cp, cp = grownCap w n 0 5 := ⟨_, rfl⟩
  obtain ⟨g, hgg⟩ : ∃ g, g = w.heap.size := ⟨_, rfl⟩
  rw [← hcp]
  rw [← hgg] at HC hg ⊢
  have R0 := Lib.hid (show OwnI W W.heap.size (.slice none 0 0) ((digL s).take 0) ∧ Below W.heap.size W W ∧ ∀ c ∈ s.data.toList.take 0, 48 ≤ c.toNat ∧ c.toNat ≤ 57 from ⟨OwnI.nil _ _, Below.refl _ _, fun c hc => by simp at hc⟩)
  have HG := Lib.hid (show w.heap.size ≤ W.heap.size by omega)
  clear hcv hW hn hcp hgg
  go_loopw [3, 9] (fun v t wr => ∃ k : Nat, t = .int .i64 k ∧ k ≤ n ∧ Hid (OwnI wr W.heap.size v ((digL s).take k) ∧ Below W.heap.size W wr ∧ ∀ c ∈ s.data.toList.take k, 48 ≤ c.toNat ∧ c.toNat ≤ 57)) (fun _ t _ => n - (intOf t).toNat)
  case atStart => exact ⟨0, rfl, by omega, R0⟩
  case round =>
    obtain ⟨k, rfl, hk, hr⟩ := hrel
    by_cases hlt : k < n
    · have q0 := (hr.out.2.1.cell (p := ⟨g, k, none⟩) hg).trans (HC.out k hlt)
      obtain ⟨x, hx⟩ : ∃ x : Int, x = ((s.data.toList.getD k 0).toNat : Int) := ⟨_, rfl⟩
      rw [← hx] at q0
      have hx0 : 0 ≤ x := by omega
      have hmem : s.data.toList.getD k 0 ∈ s.data.toList := by
        have hk' : k < s.data.toList.length := by have := HN.out; omega
        rw [List.getD, List.getElem?_eq_getElem hk']
        exact List.getElem_mem hk'
      have hok := demand_ok
      have hno := demand_no
      by_cases h1 : 48 ≤ x
      · by_cases h2 : x ≤ 57
        · have HMX := Lib.hid (And.intro hx hmem)
          have HLM := Lib.hid (show ((digL s).take k).length ≤ 1000000 by rw [List.length_take]; omega)
          clear hx hmem hno
          go_wp2_with (first | (go_at_call 120; refine (hok _).mono ?_; rintro e w' ⟨rfl, rfl⟩) | (at_builtin; refine append_i64 (.tmp 20) (.tmp 24) rfl rfl W.heap.size _ _ (x - 48) wr rfl rfl hr.out.1 rfl HLM.out hr.out.2.1.size ?_))
          intro v' w6 ho6 hg6 hd6
          have R2 := Lib.hid (show OwnI w6 W.heap.size v' ((digL s).take (k + 1)) ∧ Below W.heap.size W w6 ∧ ∀ c ∈ s.data.toList.take (k + 1), 48 ≤ c.toNat ∧ c.toNat ≤ 57 from by
            have hk' : k < s.data.toList.length := by have := HN.out; omega
            have e1 : s.data.toList.take (k + 1) = s.data.toList.take k ++ [s.data.toList.getD k 0] := by
              rw [List.take_succ_eq_append_getElem hk', List.getD, List.getElem?_eq_getElem hk']; rfl
            have e2 : (digL s).take (k + 1) = (digL s).take k ++ [x - 48] := by
              unfold digL
              rw [← List.map_take, e1, List.map_append, List.map_take, HMX.out.1]; rfl
            rw [e2, e1]
            refine ⟨ho6, hr.out.2.1.grown hg6 hr.out.2.1.size (fun g hg => (hr.out.1.lt' g hg).1), fun c hc => ?_⟩
            rcases List.mem_append.1 hc with hc | hc
            · exact hr.out.2.2 c hc
            · rw [List.mem_singleton.1 hc]; have := HMX.out.1; omega)
          clear ho6 hg6 hd6 hr HMX
          go_wp2
          go_roundw
          case rel => exact ⟨k + 1, by go_num, by omega, R2⟩
          case measure => simp [intOf]; omega
        · have HB := Lib.hid (show ¬ DigT s from fun h => by have := (h _ hmem).2; omega)
          have HE := Lib.hid (show Below w.heap.size w wr from hb0.out.trans (hr.out.2.1.mono HG.out))
          clear hr hx hmem HN hok
          go_wp2_with (go_at_call 120; refine (hno _).mono ?_; rintro e w' ⟨rfl, rfl⟩)
          exact ⟨rfl, .inr ⟨rfl, HB.out⟩, HE.out⟩
      · have HB := Lib.hid (show ¬ DigT s from fun h => by have := (h _ hmem).1; omega)
        have HE := Lib.hid (show Below w.heap.size w wr from hb0.out.trans (hr.out.2.1.mono HG.out))
        clear hr hx hmem HN hok
        go_wp2_with (go_at_call 120; refine (hno _).mono ?_; rintro e w' ⟨rfl, rfl⟩)
        exact ⟨rfl, .inr ⟨rfl, HB.out⟩, HE.out⟩
    · obtain rfl : k = n := by omega
      have HE := Lib.hid (show DigT s ∧ OwnI wr w.heap.size u3 (digL s) ∧ Below w.heap.size w wr from by
        have h1 : s.data.toList.take k = s.data.toList := by rw [HN.out]; exact List.take_length
        have h2 : (digL s).take k = digL s := by
          have : (digL s).length = s.data.toList.length := List.length_map ..
          rw [HN.out, ← this]; exact List.take_length
        obtain ⟨r1, r2, r3⟩ := hr.out
        rw [h1] at r3
        rw [h2] at r1
        exact ⟨r3, r1.down HG.out, hb0.out.trans (r2.mono HG.out)⟩)
      clear hr HN HC
      go_wp2
      go_ret
      exact ⟨.inl ⟨_, rfl, HE.out.1, HE.out.2.1⟩, HE.out.2.2⟩
end Go.Proofs.YtgmokojdlbdjeaaGreatDoor
