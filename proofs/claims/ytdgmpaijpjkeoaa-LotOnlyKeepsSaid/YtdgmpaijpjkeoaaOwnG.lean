/-
  THE REFERENCE: Same, of equal genealogies.
-/
import Derived.Test.YtdgmpaijpjkeoaaLotJ
import Derived.Deep.DeepCutAuto
namespace Go.Proofs.Ytdgmpaijpjkeoaa
open Go.RowKit
set_option maxRecDepth 100000 in
set_option maxHeartbeats 1000000 in
theorem same_lots (l : List LotD) (hl : l.length ≤ 1000) (hps : ∀ x ∈ l, x.parts.length ≤ 1000) (A : Option Addr) (c : Nat) (B : Option Addr) (d : Nat) (w : World) (hA : LotsIn w A l) (hB : LotsIn w B l) :
    Calls Try.prog 34 #[.slice A l.length c, .slice B l.length d] w fun e w' => e = .returned (.bool true) ∧ Below w.heap.size w w' := by
  have HA := Lib.hid hA
  have HB := Lib.hid hB
  have HPS := Lib.hid hps
  clear hA hB hps
  go_enter Try.func34, Try.ntmps34
  go_wp2
  go_loopw [5] (fun t wr => ∃ (k e : Nat), t = .int .i64 k ∧ wr = w.drewN e ∧ k ≤ l.length) (fun t _ => l.length - (intOf t).toNat)
  case atStart => exact ⟨0, 0, rfl, rfl, by omega⟩
  case round =>
    obtain ⟨k, e, rfl, rfl, hk⟩ := hrel
    by_cases hlt : k < l.length
    · obtain ⟨b1, o1, rfl, hc1⟩ := HA.out (by omega)
      obtain ⟨b2, o2, rfl, hc2⟩ := HB.out (by omega)
      obtain ⟨-, -, e3, e4, e5, A1, c1, e6, -, e7⟩ := hc1 k hlt
      obtain ⟨-, -, f3, f4, f5, A2, c2, f6, -, f7⟩ := hc2 k hlt
      have hpl := HPS.out _ (List.getElem_mem hlt)
      obtain ⟨x, hx⟩ : ∃ x, x = l[k] := ⟨_, rfl⟩
      rw [← hx] at e4 e5 e6 e7 f4 f5 f6 f7 hpl
      obtain ⟨kd, ms, ps⟩ := x
      simp only at e4 e5 e6 e7 f4 f5 f6 f7 hpl
      have HP1 := Lib.hid e7
      have HP2 := Lib.hid f7
      have d1 : (kd != kd) = false := by simp
      have d2 : (ms != ms) = false := by simp
      have d3 : ((ps.length : Int) != (ps.length : Int)) = false := by simp
      clear hc1 hc2 hx e7 f7
      go_wp2
      go_quiet (fail)
      go_wp2
      clear d1 d2 d3
      go_loopw [6] (fun t wq => ∃ (m e' : Nat), t = .int .i64 m ∧ wq = w.drewN e' ∧ m ≤ ps.length) (fun t _ => ps.length - (intOf t).toNat)
      case atStart => exact ⟨0, e + nq, rfl, (by unfold World.drewN; simp [Nat.add_assoc]), by omega⟩
      case round =>
        obtain ⟨m, e', rfl, rfl, hm⟩ := hrel
        by_cases hml : m < ps.length
        · obtain ⟨b3, o3, rfl, g1, hc3⟩ := HP1.out.2 (by omega)
          obtain ⟨b4, o4, rfl, g2, hc4⟩ := HP2.out.2 (by omega)
          obtain ⟨z1, z2⟩ := hc3 m hml
          obtain ⟨z3, z4⟩ := hc4 m hml
          obtain ⟨P, hP⟩ : ∃ P, P = ps[m] := ⟨_, rfl⟩
          rw [← hP] at z1 z2 z3 z4
          obtain ⟨p, q⟩ := P
          simp only at z1 z2 z3 z4
          have dpp : (p == p) = true := by simp
          have dqq : (q == q) = true := by simp
          have dpn : (p != p) = false := by simp
          have dqn : (q != q) = false := by simp
          clear hc3 hc4 hP
          go_wp2
          go_quiet (fail)
          go_wp2
          go_roundw
          case rel => exact ⟨m + 1, _, by go_num, rfl, by omega⟩
          case measure => simp [intOf]; omega
        · obtain rfl : m = ps.length := by omega
          go_wp2
          go_roundw
          case rel => exact ⟨k + 1, _, by go_num, rfl, by omega⟩
          case measure => simp [intOf]; omega
    · obtain rfl : k = l.length := by omega
      go_wp2
      go_ret
      exact ⟨rfl, below_drewN (Below.refl _ _) e⟩
end Go.Proofs.Ytdgmpaijpjkeoaa
