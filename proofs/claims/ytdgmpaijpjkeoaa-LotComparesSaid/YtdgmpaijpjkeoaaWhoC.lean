/-
  WHOLE NUMBERS: Plus, Compare, even.
-/
import Derived.Test.YtdgmpaijpjkeoaaWhoB
import Derived.Test.YtdgmpaijpjkeoaaNatD
namespace Go.Proofs.Ytdgmpaijpjkeoaa
open Go.RowKit
theorem atW_at {zs : List Nat} {k : Nat} (h : k < zs.length) : atW zs k = zs[k] := by rw [atW, List.getD_eq_getElem?_getD, List.getElem?_eq_getElem h]; rfl
theorem atW_out {zs : List Nat} {k : Nat} (h : zs.length ≤ k) : atW zs k = 0 := by rw [atW, List.getD_eq_getElem?_getD, List.getElem?_eq_none h]; rfl
theorem plus_lt {a b : Nat} (ha : a < topW) (hb : b < topW) : a + b < 16777216 ^ 101 := by
  have : topW + topW < 16777216 ^ 101 := by unfold topW; decide +kernel
  omega
theorem plus_len {k s : Nat} (h : 0 < k → 16777216 ^ (k - 1) ≤ s) (hs : s < 16777216 ^ 101) : k ≤ 101 := by
  rcases Nat.lt_or_ge 101 k with g | g
  · have h1 := h (by omega)
    have h2 := pwW_le (show 101 ≤ k - 1 by omega)
    omega
  · exact g
theorem plus_done {zs ys xs : List Nat} {a b k : Nat} (hz : WN zs a) (hy : WN ys b) (hl : xs.length = k) (h : MkK xs 0 (vlW (zs.take k) + vlW (ys.take k))) (h1 : zs.length ≤ k) (h2 : ys.length ≤ k) (ht : 0 < k → 16777216 ^ (k - 1) ≤ a + b) : WN xs (a + b) := by
  rw [List.take_of_length_le h1, List.take_of_length_le h2, hz.vl, hy.vl] at h
  exact (h.top (by rw [hl]; exact ht)).done
theorem plus_step' {zs ys xs : List Nat} {c k z y : Nat} (hl : xs.length = k) (h : MkK xs c (vlW (zs.take k) + vlW (ys.take k))) (hz : atW zs k = z) (hy : atW ys k = y) :
    MkK (xs ++ [(c + z + y) % 16777216]) ((c + z + y) / 16777216) (vlW (zs.take (k + 1)) + vlW (ys.take (k + 1))) := by
  have := plus_step hl h
  rw [hz, hy, ← Nat.add_assoc] at this
  exact this
set_option maxRecDepth 100000 in
set_option maxHeartbeats 1000000 in
theorem wplus_any (A : Option Addr) (n c a : Nat) (B : Option Addr) (n' c' b : Nat) (ha : a < topW) (hb : b < topW) (w : World) (hW : IsW w A n a) (hX : IsW w B n' b) :
    Calls Try.prog 92 #[.slice A n c, .slice B n' c'] w (RetW w (a + b)) := by
  obtain ⟨zs, hwn, rfl, hL⟩ := hW
  obtain ⟨ys, hyn, rfl, hM⟩ := hX
  have hlen := hwn.len100 ha
  have hlen2 := hyn.len100 hb
  have HZ := Lib.hid hwn
  have HY := Lib.hid hyn
  have HL := Lib.hid hL
  have HM := Lib.hid hM
  have HS := Lib.hid (plus_lt ha hb)
  clear hwn hL hyn hM ha hb
  go_enter Try.func92, Try.ntmps92
  go_wp2
  go_loopw [5, 6, 7] (fun v t i wr => ∃ (xs : List Nat) (cy k : Nat), t = .int .i64 cy ∧ i = .int .i64 k ∧ cy ≤ 1 ∧ Hid (xs.length = k ∧ MkK xs cy (vlW (zs.take k) + vlW (ys.take k)) ∧ (0 < k → 16777216 ^ (k - 1) ≤ a + b) ∧ OwnW w wr v xs)) (fun _ _ i _ => 200 - (intOf i).toNat)
  case atStart => exact ⟨[], 0, 0, rfl, rfl, by omega, Lib.hid ⟨rfl, by simpa [vlW] using MkK.start 0, by simp, OwnW.nil w⟩⟩
  case round =>
    obtain ⟨xs, cy, k, rfl, rfl, hcy, hr⟩ := hrel
    have hsz := hr.out.2.2.2.2.size
    have hk := plus_len hr.out.2.2.1 HS.out
    have hxl : xs.length ≤ 101 := by rw [hr.out.1]; omega
    by_cases h1 : k < zs.length
    · obtain ⟨p, o, rfl, hp, hc⟩ := (HL.out.below hr.out.2.2.2.2).digit h1 rfl
      have hz := HZ.out.dgAt h1
      have hza := atW_at h1
      have htp := HZ.out.top (by omega)
      have hpw := pwW_le (show k ≤ zs.length - 1 by omega)
      have HTP := Lib.hid (show 16777216 ^ k ≤ a + b by omega)
      obtain ⟨z, hzz⟩ : ∃ z, z = zs[k] := ⟨_, rfl⟩
      rw [← hzz] at hc hz hza
      clear htp hpw hzz
      by_cases h2 : k < ys.length
      · obtain ⟨p', o', rfl, hp', hc'⟩ := (HM.out.below hr.out.2.2.2.2).digit h2 rfl
        have hy := HY.out.dgAt h2
        have hya := atW_at h2
        obtain ⟨y, hyy⟩ : ∃ y, y = ys[k] := ⟨_, rfl⟩
        rw [← hyy] at hc' hy hya
        have HST := Lib.hid (plus_step' hr.out.1 hr.out.2.1 hza hya)
        have LEN := Lib.hid hr.out.1
        clear hza hya hyy
        go_wp2_with (at_builtin; refine append_w (.tmp 44) (.tmp 47) rfl rfl w.heap.size _ _ _ wr rfl rfl hr.out.2.2.2.1 rfl (by rw [casts_length]; omega) hsz ?_; intro v' w1 ho hg _)
        have h3 := Lib.hid (hr.out.2.2.2.app (z := (cy + z + y) % 16777216) ho hg)
        clear ho hg
        go_wp2
        go_roundw
        case rel => exact ⟨xs ++ [(cy + z + y) % 16777216], (cy + z + y) / 16777216, k + 1, by go_num, by go_num, by omega, Lib.hid ⟨by rw [List.length_append, LEN.out]; rfl, HST.out, fun _ => HTP.out, h3.out⟩⟩
        case measure => simp [intOf]; omega
      · have HST := Lib.hid (plus_step' hr.out.1 hr.out.2.1 hza (atW_out (by omega)))
        have LEN := Lib.hid hr.out.1
        have d2 : decide (k < ys.length) = false := decide_eq_false h2
        clear hza
        go_wp2_with (at_builtin; refine append_w (.tmp 44) (.tmp 47) rfl rfl w.heap.size _ _ _ wr rfl rfl hr.out.2.2.2.1 rfl (by rw [casts_length]; omega) hsz ?_; intro v' w1 ho hg _)
        have h3 := Lib.hid (hr.out.2.2.2.app (z := (cy + z + 0) % 16777216) ho hg)
        clear ho hg
        go_wp2
        go_roundw
        case rel => exact ⟨xs ++ [(cy + z + 0) % 16777216], (cy + z + 0) / 16777216, k + 1, by go_num, by go_num, by omega, Lib.hid ⟨by rw [List.length_append, LEN.out]; rfl, HST.out, fun _ => HTP.out, h3.out⟩⟩
        case measure => simp [intOf]; omega
    · have d1 : decide (k < zs.length) = false := decide_eq_false h1
      by_cases h2 : k < ys.length
      · obtain ⟨p', o', rfl, hp', hc'⟩ := (HM.out.below hr.out.2.2.2.2).digit h2 rfl
        have hy := HY.out.dgAt h2
        have hya := atW_at h2
        have htp := HY.out.top (by omega)
        have hpw := pwW_le (show k ≤ ys.length - 1 by omega)
        have HTP := Lib.hid (show 16777216 ^ k ≤ a + b by omega)
        obtain ⟨y, hyy⟩ : ∃ y, y = ys[k] := ⟨_, rfl⟩
        rw [← hyy] at hc' hy hya
        have HST := Lib.hid (plus_step' hr.out.1 hr.out.2.1 (atW_out (by omega)) hya)
        have LEN := Lib.hid hr.out.1
        clear hya hyy htp hpw
        go_wp2_with (at_builtin; refine append_w (.tmp 44) (.tmp 47) rfl rfl w.heap.size _ _ _ wr rfl rfl hr.out.2.2.2.1 rfl (by rw [casts_length]; omega) hsz ?_; intro v' w1 ho hg _)
        have h3 := Lib.hid (hr.out.2.2.2.app (z := (cy + 0 + y) % 16777216) ho hg)
        clear ho hg
        go_wp2
        go_roundw
        case rel => exact ⟨xs ++ [(cy + 0 + y) % 16777216], (cy + 0 + y) / 16777216, k + 1, by go_num, by go_num, by omega, Lib.hid ⟨by rw [List.length_append, LEN.out]; rfl, HST.out, fun _ => HTP.out, h3.out⟩⟩
        case measure => simp [intOf]; omega
      · have d2 : decide (k < ys.length) = false := decide_eq_false h2
        by_cases h0 : 0 < cy
        · have HST := Lib.hid (plus_step' hr.out.1 hr.out.2.1 (atW_out (by omega)) (atW_out (by omega)))
          have hvl := hr.out.2.1.vl
          rw [List.take_of_length_le (by omega), List.take_of_length_le (by omega), HZ.out.vl, HY.out.vl, hr.out.1] at hvl
          have : 16777216 ^ k * 1 ≤ 16777216 ^ k * cy := Nat.mul_le_mul_left _ h0
          have HTP := Lib.hid (show 16777216 ^ k ≤ a + b by omega)
          have LEN := Lib.hid hr.out.1
          clear hvl this
          go_wp2_with (at_builtin; refine append_w (.tmp 44) (.tmp 47) rfl rfl w.heap.size _ _ _ wr rfl rfl hr.out.2.2.2.1 rfl (by rw [casts_length]; omega) hsz ?_; intro v' w1 ho hg _)
          have h3 := Lib.hid (hr.out.2.2.2.app (z := (cy + 0 + 0) % 16777216) ho hg)
          clear ho hg
          go_wp2
          go_roundw
          case rel => exact ⟨xs ++ [(cy + 0 + 0) % 16777216], (cy + 0 + 0) / 16777216, k + 1, by go_num, by go_num, by omega, Lib.hid ⟨by rw [List.length_append, LEN.out]; rfl, HST.out, fun _ => HTP.out, h3.out⟩⟩
          case measure => simp [intOf]; omega
        · obtain rfl : cy = 0 := by omega
          have HD := Lib.hid (plus_done HZ.out HY.out hr.out.1 hr.out.2.1 (by omega) (by omega) hr.out.2.2.1)
          go_wp2
          go_ret
          exact hr.out.2.2.2.ret HD.out
end Go.Proofs.Ytdgmpaijpjkeoaa
