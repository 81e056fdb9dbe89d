/-
  THE WALK OF THE LAW LotAudits: it returns true.
-/
import Derived.Test.YtdgmpaijpjkeoaaLotK
import Derived.Test.YtdgmpaijpjkeoaaAudA
namespace Go.Proofs.Ytdgmpaijpjkeoaa
open Go.RowKit
theorem aud_small {l : List LotD} {r f o a z : Int} (h : auditE l = (r, f, o, a, z)) : (0 ≤ r ∧ r ≤ 100000000) ∧ (0 ≤ f ∧ f ≤ 100000000) ∧ (0 ≤ o ∧ o ≤ 100000000) ∧ (0 ≤ a ∧ a ≤ 100000000) := by
  unfold auditE at h
  by_cases hv : valE l = 0
  · rw [if_neg (by simpa using hv)] at h
    obtain ⟨rfl, rfl, rfl, rfl, rfl⟩ := five_inj h
    have hg := valE_zero hv
    have h1 := aud_bd hg (k := l.length) (Nat.le_refl _)
    have h2 := leftA_bd hg (k := l.length) (Nat.le_refl _)
    have h3 := hg.len
    rw [List.take_length] at h1
    omega
  · rw [if_pos hv] at h
    obtain ⟨rfl, rfl, rfl, rfl, rfl⟩ := five_inj h
    decide
set_option maxRecDepth 100000 in
set_option maxHeartbeats 1000000 in
theorem lotAudits_walk (A : Option Addr) (c : Nat) (l : List LotD) (w : World) (hL : LotsIn w A l) (hl : l.length ≤ maxLen) :
    Calls Try.prog 4 #[.slice A l.length c] w fun e w' => e = .returned (.bool true) ∧ Below w.heap.size w w' := by
  have HL := Lib.hid hL
  clear hL
  cases hlong : longB l with
  | true =>
    have HLO := Lib.hid hlong
    clear hlong
    go_enter Try.func4, Try.ntmps4
    go_wp2_with fail
    refine (long_any l true HLO.out A c _ HL.out hl).mono ?_
    rintro e w' ⟨rfl, rfl⟩
    go_wp2_with fail
    refine (known_any _).mono ?_
    rintro e w1 ⟨rfl, hb1⟩
    go_wp2
    go_ret
    exact ⟨rfl, hb1⟩
  | false =>
    obtain ⟨hl40, hps20⟩ := long_small hlong
    have HLO := Lib.hid hlong
    have HPS := Lib.hid (show ∀ x ∈ l, x.parts.length ≤ 1000 from fun x hx => by have := hps20 x hx; omega)
    obtain ⟨r, f, o, a, z, hm1⟩ : ∃ r f o a z, auditE l = (r, f, o, a, z) := ⟨_, _, _, _, _, rfl⟩
    have hlaw := audit_law hm1
    have hsm := aud_small hm1
    have HM1 := Lib.hid hm1
    clear hlong hps20 hm1
    go_enter Try.func4, Try.ntmps4
    go_wp2_with fail
    refine (long_any l false HLO.out A c _ HL.out hl).mono ?_
    rintro e w' ⟨rfl, rfl⟩
    go_wp2_with fail
    refine (lotAudit_any l (by omega) HPS.out r f o a z HM1.out A c w HL.out).mono ?_
    rintro e w1 ⟨rfl, hb1⟩
    have ib := Lib.hid hb1
    clear hb1
    go_wp2_with fail
    refine (refAudit_any l (by omega) HPS.out r f o a z HM1.out A c w1 (HL.out.below ib.out)).mono ?_
    rintro e w2 ⟨rfl, hb1⟩
    have jb := Lib.hid (ib.out.trans (hb1.mono ib.out.size))
    clear hb1 ib
    have d1 : (r + a == f + o) = true := by rw [beq_iff_eq]; exact hlaw
    go_wp2_with (go_at_call 16; refine (known_any _).mono ?_; rintro e w7 ⟨rfl, hb6⟩)
    go_ret
    exact ⟨rfl, jb.out.trans (hb6.mono jb.out.size)⟩
end Go.Proofs.Ytdgmpaijpjkeoaa
