/-
  WHOLE NUMBERS: Times, Plus.
-/
import Derived.Test.YtdgmpaijpjkeoaaWhoA
namespace Go.Proofs.Ytdgmpaijpjkeoaa
open Go.RowKit
set_option maxRecDepth 100000 in
set_option maxHeartbeats 1000000 in
theorem wtimes_any (A : Option Addr) (n c a m : Nat) (hm : m ≤ 274877906944) (ha : a < topW) (w : World) (hW : IsW w A n a) :
    Calls Try.prog 91 #[.slice A n c, .int .i64 m] w (RetW w (a * m)) := by
  obtain ⟨zs, hwn, rfl, hL⟩ := hW
  have hlen := hwn.len100 ha
  have HWN := Lib.hid hwn
  have HL := Lib.hid hL
  have HT := Lib.hid (topW_mul ha hm)
  clear hwn hL ha
  by_cases hm0 : m = 0
  · subst hm0
    show Calls Try.prog 91 #[.slice A zs.length c, .int .i64 0] w (RetW w (a * 0))
    by_cases hz : 0 < zs.length
    · have d1 : decide (0 < zs.length) = true := decide_eq_true hz
      go_enter Try.func91, Try.ntmps91
      go_wp2
      go_loopw [5, 6, 7] (fun v t i wr => v = .slice none 0 0 ∧ t = .int .i64 0 ∧ i = .int .i64 0 ∧ wr = w) (fun _ _ _ _ => 0)
      case atStart => exact ⟨rfl, rfl, rfl, rfl⟩
      case round =>
        obtain ⟨rfl, rfl, rfl, rfl⟩ := hrel
        go_wp2
        go_loopw [5, 6] (fun v t wx => v = .slice none 0 0 ∧ t = .int .i64 0 ∧ wx = wr) (fun _ _ _ => 0)
        case atStart => exact ⟨rfl, rfl, rfl⟩
        case round =>
          obtain ⟨rfl, rfl, rfl⟩ := hrel
          go_wp2
          go_ret
          rw [Nat.mul_zero]
          exact ⟨none, 0, 0, rfl, IsW.zero, Below.refl _ _, fun _ h => by cases h⟩
    · have hz0 : zs.length = 0 := by omega
      have d1 : decide (0 < zs.length) = false := decide_eq_false hz
      go_enter Try.func91, Try.ntmps91
      go_wp2
      go_loopw [5, 6, 7] (fun v t i wr => v = .slice none 0 0 ∧ t = .int .i64 0 ∧ i = .int .i64 0 ∧ wr = w) (fun _ _ _ _ => 0)
      case atStart => exact ⟨rfl, rfl, rfl, rfl⟩
      case round =>
        obtain ⟨rfl, rfl, rfl, rfl⟩ := hrel
        go_wp2
        go_loopw [5, 6] (fun v t wx => v = .slice none 0 0 ∧ t = .int .i64 0 ∧ wx = wr) (fun _ _ _ => 0)
        case atStart => exact ⟨rfl, rfl, rfl⟩
        case round =>
          obtain ⟨rfl, rfl, rfl⟩ := hrel
          go_wp2
          go_ret
          rw [Nat.mul_zero]
          exact ⟨none, 0, 0, rfl, IsW.zero, Below.refl _ _, fun _ h => by cases h⟩
  · have hmp : 0 < m := by omega
    clear hm0
    go_enter Try.func91, Try.ntmps91
    go_wp2
    go_loopw [5, 6, 7] (fun v t i wr => ∃ (xs : List Nat) (cy k : Nat), t = .int .i64 cy ∧ i = .int .i64 k ∧ cy ≤ m ∧ k ≤ zs.length ∧ Hid (xs.length = k ∧ MkK xs cy (vlW (zs.take k) * m) ∧ OwnW w wr v xs)) (fun _ _ i _ => zs.length - (intOf i).toNat)
    case atStart => exact ⟨[], 0, 0, rfl, rfl, by omega, by omega, Lib.hid ⟨rfl, by simpa [vlW] using MkK.start 0, OwnW.nil w⟩⟩
    case round =>
      obtain ⟨xs, cy, k, rfl, rfl, hcy, hk, hr⟩ := hrel
      have hsz := hr.out.2.2.2.size
      by_cases hlt : k < zs.length
      · obtain ⟨b, o, rfl, hb, hc⟩ := (HL.out.below hr.out.2.2.2).digit hlt rfl
        have hz := HWN.out.dgAt hlt
        have hst := times_step hr.out.1 hr.out.2.1 hlt
        obtain ⟨z, hzz⟩ : ∃ z, z = zs[k] := ⟨_, rfl⟩
        rw [← hzz] at hc hz hst
        obtain ⟨x, hx⟩ : ∃ x, z * m = x := ⟨_, rfl⟩
        have hx2 : x ≤ 4611686001247518720 := by rw [← hx]; exact Nat.le_trans (Nat.mul_le_mul (show z ≤ 16777215 by omega) hm) (by decide)
        have hxi : (z : Int) * (m : Int) = (x : Int) := by rw [← hx]; simp
        have hcr := times_carry hcy hz
        rw [hx] at hst hcr
        have HST := Lib.hid hst
        have HX := Lib.hid hx
        have hxl : xs.length ≤ 100 := by rw [hr.out.1]; omega
        have LEN := Lib.hid hr.out.1
        clear hx hst hzz
        go_wp2_with (at_builtin; refine append_w (.tmp 26) (.tmp 29) rfl rfl w.heap.size _ _ _ wr rfl rfl hr.out.2.2.1 rfl (by rw [casts_length]; omega) hsz ?_; intro v' w1 ho hg _)
        have h1 := Lib.hid (hr.out.2.2.app (z := (cy + x) % 16777216) ho hg)
        clear ho hg
        go_wp2
        go_roundw
        case rel => exact ⟨xs ++ [(cy + x) % 16777216], (cy + x) / 16777216, k + 1, by go_num, by go_num, hcr, by omega, Lib.hid ⟨by rw [List.length_append, LEN.out]; rfl, HST.out, h1.out⟩⟩
        case measure => simp [intOf]; omega
      · obtain rfl : k = zs.length := by omega
        have hmw := hr.out.2.1.top (by rw [hr.out.1, List.take_length, HWN.out.vl]; exact times_top HWN.out hmp)
        rw [List.take_length, HWN.out.vl] at hmw
        have HM := Lib.hid (show MkW xs cy (a * m) ∧ OwnW w wr u5 xs from ⟨hmw, hr.out.2.2⟩)
        clear hmw hr
        go_wp2
        go_loopw [5, 6] (fun v t wr => ∃ (xs : List Nat) (cy : Nat), t = .int .i64 cy ∧ cy ≤ m ∧ Hid (MkW xs cy (a * m) ∧ OwnW w wr v xs)) (fun _ t _ => (intOf t).toNat)
        case atStart => exact ⟨xs, cy, rfl, hcy, HM⟩
        case round =>
          clear HM hsz
          obtain ⟨xs, cy, rfl, hcy, hr⟩ := hrel
          have hsz := hr.out.2.2.size
          by_cases h0 : 0 < cy
          · have hlen2 := hr.out.1.len HT.out
            have hst := hr.out.1.step h0
            have HST := Lib.hid hst
            clear hst
            go_wp2_with (at_builtin; refine append_w (.tmp 35) (.tmp 38) rfl rfl w.heap.size _ _ _ wr rfl rfl hr.out.2.1 rfl (by rw [casts_length]; omega) hsz ?_; intro v' w1 ho hg _)
            have h1 := Lib.hid (hr.out.2.app (z := cy % 16777216) ho hg)
            clear ho hg
            go_wp2
            go_roundw
            case rel => exact ⟨xs ++ [cy % 16777216], cy / 16777216, by go_num, by omega, Lib.hid ⟨HST.out, h1.out⟩⟩
            case measure => simp [intOf]; omega
          · obtain rfl : cy = 0 := by omega
            go_wp2
            go_ret
            exact hr.out.2.ret hr.out.1.done
end Go.Proofs.Ytdgmpaijpjkeoaa
