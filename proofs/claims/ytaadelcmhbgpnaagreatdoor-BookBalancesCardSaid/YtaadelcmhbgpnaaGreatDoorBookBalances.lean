/-
  THE WALK OF THE LAW BookBalances: it returns true.
-/
import Derived.Test.YtaadelcmhbgpnaaGreatDoorAccT
import Derived.Test.YtaadelcmhbgpnaaGreatDoorWriA
namespace Go.Proofs.YtaadelcmhbgpnaaGreatDoor
open Go.RowKit
open Go.Lib
theorem triV_facts (l : List Po) : (triV l).length ≤ 128 ∧ (∀ y ∈ triV l, -140737488355328 ≤ y ∧ y ≤ 140737488355328) ∧ (triV l).sum = 0 := by
  unfold triV accsV
  split
  · rename_i h
    obtain ⟨h1, h2⟩ := val_bd h
    have h3 := accT_len (sdL l)
    have h4 := sdL_len l
    refine ⟨by rw [List.length_map]; omega, fun y hy => ?_, trial_zero l⟩
    obtain ⟨a, -, rfl⟩ := List.mem_map.1 hy
    obtain ⟨h5, h6⟩ := balS_bound (sdL l) h2 a
    omega
  · exact ⟨by simp, fun y hy => by simp at hy, rfl⟩
theorem accsV_le (l : List Po) : (accsV l).length ≤ 1000000 := by
  have h := (triV_facts l).1
  unfold triV at h
  rw [List.length_map] at h
  omega
theorem take_sum {T : List Int} {k : Nat} (h : k < T.length) : (T.take (k + 1)).sum = (T.take k).sum + T.getD k 0 := by
  rw [List.take_succ_eq_append_getElem h, List.sum_append]
  simp [h]
theorem sum_bd {T : List Int} (hb : ∀ y ∈ T, -140737488355328 ≤ y ∧ y ≤ 140737488355328) : ∀ k, k ≤ T.length → -(k * 140737488355328) ≤ (T.take k).sum ∧ (T.take k).sum ≤ k * 140737488355328
  | 0, _ => by simp
  | k + 1, h => by
    obtain ⟨h1, h2⟩ := sum_bd hb k (by omega)
    have hk : k < T.length := by omega
    have := hb (T.getD k 0) (by simp [hk])
    rw [take_sum hk]
    omega
attribute [local go_sem] grow_cell grow_frozen
set_option maxRecDepth 100000 in
set_option maxHeartbeats 4000000 in
theorem bookBalances_walk (A : Option Addr) (c : Nat) (l : List Po) (a : ByteArray) (hm : l.length ≤ 9223372036854775807) (w : World) (hI : IsPo w A l) (hl : LibOK w) :
    Calls Tryz.prog 6 #[.slice A l.length c, .string a] w fun e w' => e = .returned (.bool true) ∧ Below w.heap.size w w' := by
  have HI := Lib.hid hI
  have HL := Lib.hid hl
  clear hI hl
  by_cases h200 : 200 < l.length
  · have d0 : (200 : Int) < (l.length : Int) := by omega
    clear hm h200
    go_enter Tryz.func6, Tryz.ntmps6
    go_wp2_with fail
    refine (sane_any _ HL.out).mono ?_
    rintro e w2 ⟨rfl, hb2⟩
    go_wp2
    go_ret
    exact ⟨rfl, hb2⟩
  have hn : l.length ≤ 200 := by omega
  have d0 : ¬ (200 : Int) < (l.length : Int) := by omega
  clear hm h200
  go_enter Tryz.func6, Tryz.ntmps6
  go_wp2_with fail
  refine (pbal_any l A c a (by omega) w HI.out).mono ?_
  rintro e w1 ⟨rfl, hb1⟩
  have HB1 := Lib.hid hb1
  clear hb1
  go_wp2_with fail
  refine (rbal_any l A c a (by omega) w1 (HI.out.below HB1.out)).mono ?_
  rintro e w2 ⟨rfl, hb2⟩
  have HB2 := Lib.hid (HB1.out.trans (hb2.mono HB1.out.size))
  clear hb2
  go_wp2_with fail
  refine (paccs_any l A c (by omega) w2 (HI.out.below HB2.out)).mono ?_
  rintro e w3 ⟨D3, d3, rfl, hS3, hb3⟩
  have HS3 := Lib.hid hS3
  have HB3 := Lib.hid (HB2.out.trans (hb3.mono HB2.out.size))
  clear hb3 hS3
  go_wp2_with fail
  refine (raccs_any l A c (by omega) w3 (HI.out.below HB3.out)).mono ?_
  rintro e w4 ⟨D4, d4, rfl, hS4, hb4⟩
  have HS4 := Lib.hid hS4
  have HS3b := Lib.hid (HS3.out.below hb4)
  have HB4 := Lib.hid (HB3.out.trans (hb4.mono HB3.out.size))
  clear hb4 hS4 HS3
  go_wp2_with fail
  refine (ptri_any l A c (by omega) w4 (HI.out.below HB4.out)).mono ?_
  rintro e w5 ⟨v5, rfl, hO5, hb5⟩
  obtain ⟨A5, c5, rfl, hT5⟩ := hO5.isL
  have HT5 := Lib.hid hT5
  have HS3c := Lib.hid (HS3b.out.below hb5)
  have HS4b := Lib.hid (HS4.out.below hb5)
  have HB5 := Lib.hid (HB4.out.trans (hb5.mono HB4.out.size))
  clear hb5 hO5 hT5 HS3b HS4
  go_wp2_with fail
  refine (rtri_any l A c (by omega) w5 (HI.out.below HB5.out)).mono ?_
  rintro e w6 ⟨v6, rfl, hO6, hb6⟩
  obtain ⟨A6, c6, rfl, hT6⟩ := hO6.isL
  have HT6 := Lib.hid hT6
  have HT5b := Lib.hid (HT5.out.below hb6)
  have HS3d := Lib.hid (HS3c.out.below hb6)
  have HS4c := Lib.hid (HS4b.out.below hb6)
  have HB6 := Lib.hid (HB5.out.trans (hb6.mono HB5.out.size))
  clear hb6 hO6 hT6 HS3c HS4b HT5
  obtain ⟨f1, f2, f3⟩ := triV_facts l
  have f4 := accsV_le l
  obtain ⟨T, hT⟩ : ∃ T, T = triV l := ⟨_, rfl⟩
  obtain ⟨N, hN⟩ : ∃ N, N = accsV l := ⟨_, rfl⟩
  rw [← hT] at f1 f2 f3 HT6 HT5b
  rw [← hN] at f4 HS3d HS4c
  rw [← hT, ← hN]
  have HF2 := Lib.hid f2
  have HF3 := Lib.hid f3
  clear hT hN f2 f3
  go_wp2_with fail
  refine (pval_any l A c (by omega) w6 (HI.out.below HB6.out)).mono ?_
  rintro e w7 ⟨rfl, hb7⟩
  have HT6b := Lib.hid (HT6.out.below hb7)
  have HT5c := Lib.hid (HT5b.out.below hb7)
  have HS3e := Lib.hid (HS3d.out.below hb7)
  have HS4d := Lib.hid (HS4c.out.below hb7)
  have HB7 := Lib.hid (HB6.out.trans (hb7.mono HB6.out.size))
  clear hb7 HT6 HT5b HS3d HS4c
  go_wp2_with fail
  refine (rval_any l A c (by omega) w7 (HI.out.below HB7.out)).mono ?_
  rintro e w8 ⟨rfl, hb8⟩
  have HT6c := Lib.hid (HT6b.out.below hb8)
  have HT5d := Lib.hid (HT5c.out.below hb8)
  have HS3f := Lib.hid (HS3e.out.below hb8)
  have HS4e := Lib.hid (HS4d.out.below hb8)
  have HB8 := Lib.hid (HB7.out.trans (hb8.mono HB7.out.size))
  clear hb8 HT6b HT5c HS3e HS4d
  go_wp2_with fail
  refine (rsamet_any N D3 D4 d3 d4 f4 w8 HS3f.out HS4e.out).mono ?_
  rintro e w9 ⟨rfl, hb9⟩
  have HT6d := Lib.hid (HT6c.out.below hb9)
  have HT5e := Lib.hid (HT5d.out.below hb9)
  have HB9 := Lib.hid (HB8.out.trans (hb9.mono HB8.out.size))
  clear hb9 HT6c HT5d HS3f HS4e
  go_upto_region 13 with fail
  go_loopw [17, 18] (fun v i wr => ∃ (S : Int) (k : Nat), v = .int .i64 S ∧ i = .int .i64 k ∧ k ≤ T.length ∧ Hid (S = (T.take k).sum) ∧ Hid (Below w9.heap.size w9 wr)) (fun _ i _ => T.length - (RowKit.intOf i).toNat)
  case atStart => exact ⟨0, 0, rfl, rfl, by omega, Lib.hid rfl, Lib.hid (Below.refl _ _)⟩
  case round =>
    obtain ⟨S, k, rfl, rfl, hk, hS, hB⟩ := hrel
    by_cases hlt : k < T.length
    · have dl : decide ((k : Int) < (T.length : Int)) = true := decide_eq_true (by omega)
      obtain ⟨b, o, rfl, hb, hc⟩ := (HT5e.out.below hB.out).2 (by omega)
      obtain ⟨b2, o2, rfl, hb2, hc2⟩ := (HT6d.out.below hB.out).2 (by omega)
      have q0 := hc k hlt
      have p0 := hc2 k hlt
      have hst := take_sum hlt
      obtain ⟨s1, s2⟩ := sum_bd HF2.out k hk
      obtain ⟨s3, s4⟩ := HF2.out (T.getD k 0) (by simp [hlt])
      obtain ⟨x, hx⟩ : ∃ x, x = T.getD k 0 := ⟨_, rfl⟩
      rw [← hx] at q0 p0 hst s3 s4
      rw [← hS.out] at hst s1 s2
      have HST := Lib.hid hst
      clear hc hc2 hx hst hS
      go_upto_region 15 with fail
      refine region_grow (by kernel_rfl) (by kernel_rfl) ?_
      repeat (go_big_quiet_step ((fail)))
      refine wpQuiet_nil ?_
      rintro w5x ⟨xg, hxg⟩
      have hb5x := below_grow wr xg
      rw [← hxg] at hb5x
      clear hxg xg
      have HB5x := Lib.hid (hB.out.trans (hb5x.mono hB.out.size))
      have q1 := (hb5x.cell (p := ⟨b, o + k, none⟩) hb).trans q0
      clear hb5x q0 p0
      go_wp2
      go_roundw
      case rel => exact ⟨S + x, k + 1, by go_num, by go_num, by omega, Lib.hid HST.out.symm, HB5x⟩
      case measure => simp [RowKit.intOf]; omega
    · obtain rfl : k = T.length := by omega
      have dl : decide ((T.length : Int) < (T.length : Int)) = false := decide_eq_false (by omega)
      have hS0 : S = 0 := by
        have := hS.out
        rw [List.take_length, HF3.out] at this
        exact this
      subst hS0
      have HL9 := Lib.hid ((HL.out.below HB9.out).below hB.out)
      have HBw := Lib.hid (HB9.out.trans (hB.out.mono HB9.out.size))
      clear hS hB
      go_wp2_with fail
      refine (sane_any _ HL9.out).mono ?_
      rintro e w10 ⟨rfl, hb10⟩
      have HBx := Lib.hid (HBw.out.trans (hb10.mono HBw.out.size))
      clear hb10
      go_wp2
      go_ret
      exact ⟨rfl, HBx.out⟩
end Go.Proofs.YtaadelcmhbgpnaaGreatDoor
