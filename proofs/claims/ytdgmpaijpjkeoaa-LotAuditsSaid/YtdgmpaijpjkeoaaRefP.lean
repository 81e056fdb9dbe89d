/-
  THE REFERENCE: Left, Lost, Received.
-/
import Derived.Test.YtdgmpaijpjkeoaaRefB
import Derived.Test.YtdgmpaijpjkeoaaLotP
namespace Go.Proofs.Ytdgmpaijpjkeoaa
open Go.RowKit
attribute [local go_sem] grow_cell grow_frozen
set_option maxRecDepth 100000 in
set_option maxHeartbeats 1000000 in
theorem refLeft_any (l : List LotD) (hl : l.length ≤ 1000) (hps : ∀ x ∈ l, x.parts.length ≤ 1000) (n v z : Int) (hm : leftE l n = (v, z)) (hn : -9223372036854775808 ≤ n) (kn : n ≤ 9223372036854775807) (A : Option Addr) (c : Nat) (w : World) (hL : LotsIn w A l) :
    Calls Try.prog 38 #[.slice A l.length c, .int .i64 n] w fun e w' => e = .returned (.tuple #[.int .i64 v, .int .i64 z]) ∧ Below w.heap.size w w' := by
  have HM := Lib.hid hm
  have HL := Lib.hid hL
  have HPS := Lib.hid hps
  clear hm hL hps
  obtain ⟨E, hE⟩ : ∃ E, E = chkE l [n] := ⟨_, rfl⟩
  have HE := Lib.hid hE
  clear hE
  go_enter Try.func38, Try.ntmps38
  go_wp2_with fail
  refine (named_any l hl HPS.out n n A c w HL.out).mono ?_
  rw [chk_one, ← HE.out]
  rintro e w1 ⟨rfl, hb1⟩
  have ib := Lib.hid hb1
  clear hb1
  by_cases hz : E = 0
  · subst hz
    have hm2 := HM.out
    unfold leftE at hm2
    rw [if_neg (by rw [← HE.out]; decide)] at hm2
    obtain ⟨hgl, hin⟩ := chk_zero HE.out.symm
    have h1 := hin n (by simp)
    obtain ⟨n, rfl⟩ : ∃ k : Nat, n = k := ⟨n.toNat, by omega⟩
    rw [Int.toNat_natCast] at hm2
    have HM2 := Lib.hid hm2
    have HG := Lib.hid hgl.lot
    have hn : n < l.length := by omega
    clear hm2 hgl hin h1
    go_wp2_with fail
    refine (left_any l hl HG.out n hn A c w1 (HL.out.below ib.out)).mono ?_
    rintro e w2 ⟨rfl, rfl⟩
    go_wp2
    refine bodyPost_ret (v := .tuple #[.int .i64 (v), .int .i64 (z)]) (by simp only [results, Try.results38]; go_simp; exact Prod.mk.inj HM2.out) rfl ⟨rfl, ?_⟩
    exact ib.out
  · have hm2 := HM.out
    unfold leftE at hm2
    rw [if_pos (by rw [← HE.out]; exact hz), ← HE.out] at hm2
    have HM2 := Lib.hid hm2
    have d1 : (E == 0) = false := by rw [beq_eq_false_iff_ne]; exact hz
    have d2 : (E != 0) = true := by rw [bne_iff_ne]; exact hz
    clear hm2 hz
    go_wp2
    refine bodyPost_ret (v := .tuple #[.int .i64 (v), .int .i64 (z)]) (by simp only [results, Try.results38]; go_simp; exact Prod.mk.inj HM2.out) rfl ⟨rfl, ?_⟩
    exact ib.out
set_option maxRecDepth 100000 in
set_option maxHeartbeats 1000000 in
theorem refLost_any (l : List LotD) (hl : l.length ≤ 1000) (hps : ∀ x ∈ l, x.parts.length ≤ 1000) (n v z : Int) (hm : lostE l n = (v, z)) (hn : -9223372036854775808 ≤ n) (kn : n ≤ 9223372036854775807) (A : Option Addr) (c : Nat) (w : World) (hL : LotsIn w A l) :
    Calls Try.prog 40 #[.slice A l.length c, .int .i64 n] w fun e w' => e = .returned (.tuple #[.int .i64 v, .int .i64 z]) ∧ Below w.heap.size w w' := by
  have HM := Lib.hid hm
  have HL := Lib.hid hL
  have HPS := Lib.hid hps
  clear hm hL hps
  obtain ⟨E, hE⟩ : ∃ E, E = chkE l [n] := ⟨_, rfl⟩
  have HE := Lib.hid hE
  clear hE
  go_enter Try.func40, Try.ntmps40
  go_wp2_with fail
  refine (named_any l hl HPS.out n n A c w HL.out).mono ?_
  rw [chk_one, ← HE.out]
  rintro e w1 ⟨rfl, hb1⟩
  have ib := Lib.hid hb1
  clear hb1
  by_cases hz : E = 0
  · subst hz
    have hm2 := HM.out
    unfold lostE at hm2
    rw [if_neg (by rw [← HE.out]; decide)] at hm2
    obtain ⟨hgl, hin⟩ := chk_zero HE.out.symm
    have h1 := hin n (by simp)
    obtain ⟨n, rfl⟩ : ∃ k : Nat, n = k := ⟨n.toNat, by omega⟩
    have hn : n < l.length := by omega
    rw [Int.toNat_natCast, getD_at' hn] at hm2
    obtain ⟨b, o, rfl, hc⟩ := (HL.out.below ib.out) (by omega)
    obtain ⟨e1, e2, e3, e4, e5, A', c', e6, e8, e7⟩ := hc n hn
    have hgd := hgl.lot n hn
    have htk := fun w (hP : PartsIn w A' (l[n]'hn).parts) => rtakes_any (l[n]'hn) A' c' w hP hgd.small
    have hsb := hgd.sum
    have hm0 := hgd.mass0
    have hm1 := hgd.mass1
    have hpl := hgd.plen
    obtain ⟨x, hx⟩ : ∃ x, x = l[n] := ⟨_, rfl⟩
    rw [← hx] at e4 e5 e6 e7 htk hm2 hsb hm0 hm1 hpl
    have hlo : lostL x = if x.parts.length = 0 then 0 else sumP x.parts - x.mass := rfl
    rw [hlo] at hm2
    obtain ⟨kd, ms, ps⟩ := x
    simp only at e4 e5 e6 e7 htk hm2 hsb hm0 hm1 hpl
    obtain ⟨S, hS⟩ : ∃ S, S = sumP ps := ⟨_, rfl⟩
    rw [← hS] at htk hm2 hsb
    have HTK := Lib.hid (fun x => htk (grow w1 x) (e7.below (below_grow w1 x)))
    have HP := Lib.hid e7
    have HM1 := Lib.hid hm2
    have hz3 : b < w1.heap.size := e3
    clear hm2 hgl hin h1 hc htk e1 e2 e7 hx hgd hlo hS
    by_cases h0 : ps.length = 0
    · have HM2 := Lib.hid (show ((0 : Int), (0 : Int)) = (v, z) by have := HM1.out; rwa [if_pos h0] at this)
      have d0 : ((ps.length : Int) == 0) = true := by rw [beq_iff_eq]; omega
      go_wp2
      refine bodyPost_ret (v := .tuple #[.int .i64 (v), .int .i64 (z)]) (by simp only [results, Try.results40]; go_simp; exact Prod.mk.inj HM2.out) rfl ⟨rfl, ?_⟩
      exact ib.out
    · have HM2 := Lib.hid (show (S - ms, (0 : Int)) = (v, z) by have := HM1.out; rwa [if_neg h0] at this)
      have d0 : ((ps.length : Int) == 0) = false := by rw [beq_eq_false_iff_ne]; omega
      go_wp2
      refine region_grow (by kernel_rfl) (by kernel_rfl) ?_
      repeat (go_big_quiet_step ((go_at_call 22; exact grow_call (HTK.out _))))
      refine wpQuiet_nil ?_
      rintro w3 ⟨xg, hxg⟩
      have hb3 := below_grow w1 xg
      rw [← hxg] at hb3
      clear hxg xg
      have HB := Lib.hid (ib.out.trans (hb3.mono ib.out.size))
      clear hb3
      go_wp2
      refine bodyPost_ret (v := .tuple #[.int .i64 (v), .int .i64 (z)]) (by simp only [results, Try.results40]; go_simp; exact Prod.mk.inj HM2.out) rfl ⟨rfl, ?_⟩
      exact HB.out
  · have hm2 := HM.out
    unfold lostE at hm2
    rw [if_pos (by rw [← HE.out]; exact hz), ← HE.out] at hm2
    have HM2 := Lib.hid hm2
    have d1 : (E == 0) = false := by rw [beq_eq_false_iff_ne]; exact hz
    have d2 : (E != 0) = true := by rw [bne_iff_ne]; exact hz
    clear hm2 hz
    go_wp2
    refine bodyPost_ret (v := .tuple #[.int .i64 (v), .int .i64 (z)]) (by simp only [results, Try.results40]; go_simp; exact Prod.mk.inj HM2.out) rfl ⟨rfl, ?_⟩
    exact ib.out
set_option maxRecDepth 100000 in
set_option maxHeartbeats 1000000 in
theorem refRecv_any (l : List LotD) (hl : l.length ≤ 1000) (hps : ∀ x ∈ l, x.parts.length ≤ 1000) (n v z : Int) (hm : recE l n = (v, z)) (hn : -9223372036854775808 ≤ n) (kn : n ≤ 9223372036854775807) (A : Option Addr) (c : Nat) (w : World) (hL : LotsIn w A l) :
    Calls Try.prog 42 #[.slice A l.length c, .int .i64 n] w fun e w' => e = .returned (.tuple #[.int .i64 v, .int .i64 z]) ∧ Below w.heap.size w w' := by
  have HM := Lib.hid hm
  have HL := Lib.hid hL
  have HPS := Lib.hid hps
  clear hm hL hps
  obtain ⟨E, hE⟩ : ∃ E, E = valE l := ⟨_, rfl⟩
  have HE := Lib.hid hE
  clear hE
  go_enter Try.func42, Try.ntmps42
  go_wp2_with fail
  refine (rvalidate_any l hl HPS.out A c w HL.out).mono ?_
  rw [← HE.out]
  rintro e w1 ⟨rfl, hb1⟩
  have ib := Lib.hid hb1
  clear hb1
  by_cases hz : E = 0
  · subst hz
    have hm2 := HM.out
    unfold recE at hm2
    rw [if_neg (by rw [← HE.out]; decide)] at hm2
    have hgl := valE_zero HE.out.symm
    have HG := Lib.hid hgl.lot
    have hl24 := hgl.len
    clear hgl
    obtain ⟨B, hB⟩ : ∃ B, B = (decide ((0 : Int) ≤ n) && decide (n ≤ 7)) := ⟨_, rfl⟩
    go_wp2_with fail
    refine (rwithin_any n 0 7 B hB.symm w1).mono ?_
    rintro e w2 ⟨rfl, rfl⟩
    cases B with
    | false =>
      have h8 : n < 0 ∨ 8 ≤ n := by
        have := hB.symm
        rw [Bool.and_eq_false_iff, decide_eq_false_iff_not, decide_eq_false_iff_not] at this
        omega
      rw [if_pos h8] at hm2
      have HM2 := Lib.hid hm2
      clear hm2 hB h8
      go_wp2
      refine bodyPost_ret (v := .tuple #[.int .i64 (v), .int .i64 (z)]) (by simp only [results, Try.results42]; go_simp; exact Prod.mk.inj HM2.out) rfl ⟨rfl, ?_⟩
      exact ib.out
    | true =>
        have h8 : 0 ≤ n ∧ n ≤ 7 := by
          have := hB.symm
          simpa using this
        clear hB
        rw [if_neg (by omega)] at hm2
        have HM2 := Lib.hid hm2
        clear hm2
        go_wp2
        go_loopw [7, 8] (fun s t wr => ∃ k : Nat, s = .int .i64 (recL n (l.take k)) ∧ t = .int .i64 k ∧ k ≤ l.length ∧ Hid (Below w.heap.size w wr)) (fun _ t _ => l.length - (intOf t).toNat)
        case atStart => exact ⟨0, by simp [recL], rfl, by omega, ib⟩
        case round =>
          obtain ⟨k, rfl, rfl, hk, hr⟩ := hrel
          by_cases hlt : k < l.length
          · obtain ⟨b, o, rfl, hc⟩ := (HL.out.below hr.out) (by omega)
            obtain ⟨e1, e2, e3, e4, e5, A', c', e6, e8, e7⟩ := hc k hlt
            have hgd := HG.out k hlt
            have hbd := recL_bd (kd := n) HG.out k hk
            have htk := recL_take (kd := n) hlt
            have hm0 := hgd.mass0
            have hm1 := hgd.mass1
            have hpl := hgd.plen
            obtain ⟨x, hx⟩ : ∃ x, x = l[k] := ⟨_, rfl⟩
            rw [← hx] at e1 e4 e5 e6 htk hm0 hm1 hpl
            obtain ⟨kd, ms, ps⟩ := x
            simp only at e1 e4 e5 e6 htk hm0 hm1 hpl
            obtain ⟨R, hR⟩ : ∃ R, R = recL n (l.take k) := ⟨_, rfl⟩
            rw [← hR] at htk hbd ⊢
            have HTK := Lib.hid htk
            clear hc e2 e7 hgd hx hR htk
            by_cases h0 : ps.length = 0
            · have d0 : ((ps.length : Int) == 0) = true := by rw [beq_iff_eq]; omega
              by_cases hk2 : kd = n
              · have H2 := Lib.hid (HTK.out.trans (by rw [if_pos ⟨h0, hk2⟩]))
                have d1 : (kd == n) = true := by rw [beq_iff_eq]; exact hk2
                clear hk2
                go_wp2
                go_roundw
                case rel => exact ⟨k + 1, by rw [H2.out], by go_num, by omega, hr⟩
                case measure => simp [intOf]; omega
              · have H2 := Lib.hid (HTK.out.trans (by rw [if_neg (fun h => hk2 h.2), Int.add_zero]))
                have d1 : (kd == n) = false := by rw [beq_eq_false_iff_ne]; exact hk2
                clear hk2
                go_wp2
                go_roundw
                case rel => exact ⟨k + 1, by rw [H2.out], by go_num, by omega, hr⟩
                case measure => simp [intOf]; omega
            · have d0 : ((ps.length : Int) == 0) = false := by rw [beq_eq_false_iff_ne]; omega
              have H2 := Lib.hid (HTK.out.trans (by rw [if_neg (fun h => h0 h.1), Int.add_zero]))
              go_wp2
              go_roundw
              case rel => exact ⟨k + 1, by rw [H2.out], by go_num, by omega, hr⟩
              case measure => simp [intOf]; omega
          · obtain rfl : k = l.length := by omega
            rw [List.take_length]
            go_wp2
            refine bodyPost_ret (v := .tuple #[.int .i64 (v), .int .i64 (z)]) (by simp only [results, Try.results42]; go_simp; exact Prod.mk.inj HM2.out) rfl ⟨rfl, ?_⟩
            exact hr.out
  · have hm2 := HM.out
    unfold recE at hm2
    rw [if_pos (by rw [← HE.out]; exact hz), ← HE.out] at hm2
    have HM2 := Lib.hid hm2
    have d1 : (E == 0) = false := by rw [beq_eq_false_iff_ne]; exact hz
    have d2 : (E != 0) = true := by rw [bne_iff_ne]; exact hz
    clear hm2 hz
    go_wp2
    refine bodyPost_ret (v := .tuple #[.int .i64 (v), .int .i64 (z)]) (by simp only [results, Try.results42]; go_simp; exact Prod.mk.inj HM2.out) rfl ⟨rfl, ?_⟩
    exact ib.out
end Go.Proofs.Ytdgmpaijpjkeoaa
