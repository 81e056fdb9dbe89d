/-
  Audit, the program's and the reference's.
-/
import Derived.Test.YtdgmpaijpjkeoaaAudM
import Derived.Test.YtdgmpaijpjkeoaaRefP
namespace Go.Proofs.Ytdgmpaijpjkeoaa
open Go.RowKit
attribute [local go_sem] grow_cell grow_frozen
set_option maxRecDepth 100000 in
set_option maxHeartbeats 1000000 in
theorem lotAudit_any (l : List LotD) (hl : l.length ≤ 1000) (hps : ∀ x ∈ l, x.parts.length ≤ 1000) (r f o a z : Int) (hm : auditE l = (r, f, o, a, z)) (A : Option Addr) (c : Nat) (w : World) (hL : LotsIn w A l) :
    Calls Try.prog 19 #[.slice A l.length c] w fun e w' => e = .returned (.tuple #[.int .i64 r, .int .i64 f, .int .i64 o, .int .i64 a, .int .i64 z]) ∧ Below w.heap.size w w' := by
  have HM := Lib.hid hm
  have HL := Lib.hid hL
  have HPS := Lib.hid hps
  clear hm hL hps
  obtain ⟨E, hE⟩ : ∃ E, E = valE l := ⟨_, rfl⟩
  have HE := Lib.hid hE
  clear hE
  go_enter Try.func19, Try.ntmps19
  go_wp2_with fail
  refine (validate_any l hl HPS.out A c w HL.out).mono ?_
  rw [← HE.out]
  rintro e w1 ⟨rfl, hb1⟩
  have ib := Lib.hid hb1
  clear hb1
  by_cases hz : E = 0
  · subst hz
    have hm2 := HM.out
    unfold auditE at hm2
    rw [if_neg (by rw [← HE.out]; decide)] at hm2
    have hgl := valE_zero HE.out.symm
    have HGL := Lib.hid hgl
    have hl24 := hgl.len
    have HM2 := Lib.hid hm2
    clear hgl hm2
    go_wp2_with fail
    refine (rest_any l hl HGL.out.lot A c w1 (HL.out.below ib.out)).mono ?_
    rintro e w2 ⟨rfl, hr, hb2⟩
    have jb := Lib.hid (show Below w.heap.size w w2 ∧ RowI w2 w1.heap.size (restL l) from ⟨ib.out.trans (hb2.mono ib.out.size), hr⟩)
    clear hr hb2 ib
    go_wp2
    go_loopw [2, 3, 4, 5, 18] (fun s2 s3 s4 s5 t wr => ∃ k : Nat, s2 = .int .i64 (recA (l.take k)) ∧ s3 = .int .i64 (leftA l k) ∧ s4 = .int .i64 (lossA (l.take k)) ∧ s5 = .int .i64 (airA (l.take k)) ∧ t = .int .i64 k ∧ k ≤ l.length ∧ Hid (Below w.heap.size w wr ∧ RowI wr w1.heap.size (restL l))) (fun _ _ _ _ t _ => l.length - (intOf t).toNat)
    case atStart => exact ⟨0, by simp [recA], by simp [leftA], by simp [lossA], by simp [airA], rfl, by omega, jb⟩
    case round =>
      clear jb
      obtain ⟨k, rfl, rfl, rfl, rfl, rfl, hk, hr⟩ := hrel
      by_cases hlt : k < l.length
      · obtain ⟨b, o', rfl, hc⟩ := HL.out (by omega)
        obtain ⟨e1, e2, e3, e4, e5, A', c', e6, e8, e7⟩ := hc k hlt
        have r4 := (hr.out.1.cell (p := ⟨b, _, none⟩) e3).trans e4
        have r5 := (hr.out.1.cell (p := ⟨b, _, none⟩) e3).trans e5
        have r6 := (hr.out.1.cell (p := ⟨b, _, none⟩) e3).trans e6
        have r3 := Nat.lt_of_lt_of_le e3 hr.out.1.size
        have hgd := HGL.out.lot k hlt
        have hbd := aud_bd HGL.out hk
        have hlb := leftL_bd HGL.out hlt
        have hla := leftA_bd HGL.out hk
        have hlo := lost_bd hgd
        have t1 := msum_take recX hlt
        have t2 := msum_take (fun x => max 0 (lostL x)) hlt
        have t3 := msum_take (fun x => max 0 (-(lostL x))) hlt
        have t4 := leftA_succ l k
        have hcall := fun w (hP : PartsIn w A' (l[k]'hlt).parts) => lost_any l k (l[k]'hlt) hgd A' c' w hP
        have q0 := hr.out.2.get k (by simp [restL]; exact hlt)
        rw [rest_at hlt] at q0
        have q1 := Row.lt hr.out.2
        have hm0 := hgd.mass0
        have hm1 := hgd.mass1
        have hpl := hgd.plen
        change recA (l.take (k + 1)) = recA (l.take k) + _ at t1
        change lossA (l.take (k + 1)) = lossA (l.take k) + _ at t2
        change airA (l.take (k + 1)) = airA (l.take k) + _ at t3
        have hrx : recX l[k] = if l[k].parts.length = 0 then l[k].mass else 0 := rfl
        rw [hrx] at t1
        obtain ⟨x, hx⟩ : ∃ x, x = l[k] := ⟨_, rfl⟩
        rw [← hx] at e7 r4 r5 r6 t1 t2 t3 hcall hlo hm0 hm1 hpl
        obtain ⟨kd, ms, ps⟩ := x
        obtain ⟨S, hS⟩ : ∃ S, S = lostL ⟨kd, ms, ps⟩ := ⟨_, rfl⟩
        simp only [← hS] at t2 t3 hcall hlo
        simp only at e7 r4 r5 r6 t1 hcall hm0 hm1 hpl
        obtain ⟨R1, hR1⟩ : ∃ R, R = recA (l.take k) := ⟨_, rfl⟩
        obtain ⟨R2, hR2⟩ : ∃ R, R = leftA l k := ⟨_, rfl⟩
        obtain ⟨R3, hR3⟩ : ∃ R, R = lossA (l.take k) := ⟨_, rfl⟩
        obtain ⟨R4, hR4⟩ : ∃ R, R = airA (l.take k) := ⟨_, rfl⟩
        obtain ⟨Z, hZ⟩ : ∃ Z, Z = leftL l k := ⟨_, rfl⟩
        rw [← hR1] at t1 hbd ⊢
        rw [← hR2, ← hZ] at t4
        rw [← hR2] at hla ⊢
        rw [← hR3] at t2 hbd ⊢
        rw [← hR4] at t3 hbd ⊢
        rw [← hZ] at hlb q0
        have HT1 := Lib.hid t1
        have HT2 := Lib.hid t2
        have HT3 := Lib.hid t3
        have HT4 := Lib.hid t4
        have HC := Lib.hid hcall
        have HP := Lib.hid e7
        clear hc e1 e2 e4 e5 e6 e7 hgd hx hS hR1 hR2 hR3 hR4 hZ t1 t2 t3 t4 hcall hrx
        by_cases h0 : ps.length = 0
        · have d0 : ((ps.length : Int) == 0) = true := by rw [beq_iff_eq]; omega
          have HT5 := Lib.hid (HT1.out.trans (by rw [if_pos h0]))
          clear h0
          go_wp2_with fail
          refine (HC.out wr (HP.out.below hr.out.1)).mono ?_
          rintro e w3 ⟨rfl, hb3⟩
          have s3 := Nat.lt_of_lt_of_le r3 hb3.size
          have s4 := (hb3.cell (p := ⟨b, _, none⟩) r3).trans r4
          have s5 := (hb3.cell (p := ⟨b, _, none⟩) r3).trans r5
          have s6 := (hb3.cell (p := ⟨b, _, none⟩) r3).trans r6
          have h3 := Lib.hid (show Below w.heap.size w w3 ∧ RowI w3 w1.heap.size (restL l) from ⟨hr.out.1.trans (hb3.mono hr.out.1.size), hr.out.2.keep hb3⟩)
          clear hr hb3 r3 r4 r5 r6 q0 q1
          go_wp2_with fail
          refine (HC.out w3 (HP.out.below h3.out.1)).mono ?_
          rintro e w4 ⟨rfl, hb4⟩
          have h4 := Lib.hid (show Below w.heap.size w w4 ∧ RowI w4 w1.heap.size (restL l) from ⟨h3.out.1.trans (hb4.mono h3.out.1.size), h3.out.2.keep hb4⟩)
          clear h3 hb4 s3 s4 s5 s6
          go_wp2
          go_roundw
          case rel => exact ⟨k + 1, by rw [HT5.out], by rw [HT4.out], by rw [HT2.out], by rw [HT3.out], by go_num, by omega, h4⟩
          case measure => simp [intOf]; omega
        · have d0 : ((ps.length : Int) == 0) = false := by rw [beq_eq_false_iff_ne]; omega
          have HT5 := Lib.hid (HT1.out.trans (by rw [if_neg h0, Int.add_zero]))
          clear h0
          go_wp2_with fail
          refine (HC.out wr (HP.out.below hr.out.1)).mono ?_
          rintro e w3 ⟨rfl, hb3⟩
          have s3 := Nat.lt_of_lt_of_le r3 hb3.size
          have s4 := (hb3.cell (p := ⟨b, _, none⟩) r3).trans r4
          have s5 := (hb3.cell (p := ⟨b, _, none⟩) r3).trans r5
          have s6 := (hb3.cell (p := ⟨b, _, none⟩) r3).trans r6
          have h3 := Lib.hid (show Below w.heap.size w w3 ∧ RowI w3 w1.heap.size (restL l) from ⟨hr.out.1.trans (hb3.mono hr.out.1.size), hr.out.2.keep hb3⟩)
          clear hr hb3 r3 r4 r5 r6 q0 q1
          go_wp2_with fail
          refine (HC.out w3 (HP.out.below h3.out.1)).mono ?_
          rintro e w4 ⟨rfl, hb4⟩
          have h4 := Lib.hid (show Below w.heap.size w w4 ∧ RowI w4 w1.heap.size (restL l) from ⟨h3.out.1.trans (hb4.mono h3.out.1.size), h3.out.2.keep hb4⟩)
          clear h3 hb4 s3 s4 s5 s6
          go_wp2
          go_roundw
          case rel => exact ⟨k + 1, by rw [HT5.out], by rw [HT4.out], by rw [HT2.out], by rw [HT3.out], by go_num, by omega, h4⟩
          case measure => simp [intOf]; omega
      · obtain rfl : k = l.length := by omega
        rw [List.take_length]
        go_wp2
        refine bodyPost_ret (v := .tuple #[.int .i64 (r), .int .i64 (f), .int .i64 (o), .int .i64 (a), .int .i64 (z)]) (by simp only [results, Try.results19]; go_simp; exact five_inj HM2.out) rfl ⟨rfl, ?_⟩
        exact hr.out.1
  · have hm2 := HM.out
    unfold auditE at hm2
    rw [if_pos (by rw [← HE.out]; exact hz), ← HE.out] at hm2
    have HM2 := Lib.hid hm2
    have d1 : (E == 0) = false := by rw [beq_eq_false_iff_ne]; exact hz
    have d2 : (E != 0) = true := by rw [bne_iff_ne]; exact hz
    clear hm2 hz
    go_wp2
    refine bodyPost_ret (v := .tuple #[.int .i64 (r), .int .i64 (f), .int .i64 (o), .int .i64 (a), .int .i64 (z)]) (by simp only [results, Try.results19]; go_simp; exact five_inj HM2.out) rfl ⟨rfl, ?_⟩
    exact ib.out
set_option maxRecDepth 100000 in
set_option maxHeartbeats 1000000 in
theorem refAudit_any (l : List LotD) (hl : l.length ≤ 1000) (hps : ∀ x ∈ l, x.parts.length ≤ 1000) (r f o a z : Int) (hm : auditE l = (r, f, o, a, z)) (A : Option Addr) (c : Nat) (w : World) (hL : LotsIn w A l) :
    Calls Try.prog 20 #[.slice A l.length c] w fun e w' => e = .returned (.tuple #[.int .i64 r, .int .i64 f, .int .i64 o, .int .i64 a, .int .i64 z]) ∧ Below w.heap.size w w' := by
  have HM := Lib.hid hm
  have HL := Lib.hid hL
  have HPS := Lib.hid hps
  clear hm hL hps
  obtain ⟨E, hE⟩ : ∃ E, E = valE l := ⟨_, rfl⟩
  have HE := Lib.hid hE
  clear hE
  go_enter Try.func20, Try.ntmps20
  go_wp2_with fail
  refine (rvalidate_any l hl HPS.out A c w HL.out).mono ?_
  rw [← HE.out]
  rintro e w1 ⟨rfl, hb1⟩
  have ib := Lib.hid hb1
  clear hb1
  by_cases hz : E = 0
  · subst hz
    have hm2 := HM.out
    unfold auditE at hm2
    rw [if_neg (by rw [← HE.out]; decide)] at hm2
    have hgl := valE_zero HE.out.symm
    have HGL := Lib.hid hgl
    have hl24 := hgl.len
    have HM2 := Lib.hid hm2
    clear hgl hm2
    go_wp2
    go_loopw [8, 9, 10, 11, 12] (fun s2 s3 s4 s5 t wr => ∃ k : Nat, s2 = .int .i64 (recA (l.take k)) ∧ s3 = .int .i64 (leftA l k) ∧ s4 = .int .i64 (lossA (l.take k)) ∧ s5 = .int .i64 (airA (l.take k)) ∧ t = .int .i64 k ∧ k ≤ l.length ∧ Hid (Below w.heap.size w wr)) (fun _ _ _ _ t _ => l.length - (intOf t).toNat)
    case atStart => exact ⟨0, by simp [recA], by simp [leftA], by simp [lossA], by simp [airA], rfl, by omega, ib⟩
    case round =>
      clear ib
      obtain ⟨k, rfl, rfl, rfl, rfl, rfl, hk, hr⟩ := hrel
      by_cases hlt : k < l.length
      · obtain ⟨b, o', rfl, hc⟩ := HL.out (by omega)
        obtain ⟨e1, e2, e3, e4, e5, A', c', e6, e8, e7⟩ := hc k hlt
        have r4 := (hr.out.cell (p := ⟨b, _, none⟩) e3).trans e4
        have r5 := (hr.out.cell (p := ⟨b, _, none⟩) e3).trans e5
        have r6 := (hr.out.cell (p := ⟨b, _, none⟩) e3).trans e6
        have r3 := Nat.lt_of_lt_of_le e3 hr.out.size
        have hgd := HGL.out.lot k hlt
        have hbd := aud_bd HGL.out hk
        have hlb := leftL_bd HGL.out hlt
        have hla := leftA_bd HGL.out hk
        have hlo := lost_bd hgd
        have t1 := msum_take recX hlt
        have t2 := msum_take (fun x => max 0 (lostL x)) hlt
        have t3 := msum_take (fun x => max 0 (-(lostL x))) hlt
        have t4 := leftA_succ l k
        have htk := fun w (hP : PartsIn w A' (l[k]'hlt).parts) => rtakes_any (l[k]'hlt) A' c' w hP hgd.small
        have hle := fun w (hL : LotsIn w (some ⟨b, o', none⟩) l) => left_any l hl HGL.out.lot k hlt (some ⟨b, o', none⟩) c w hL
        have hsb := hgd.sum
        have hlx : lostL (l[k]'hlt) = if (l[k]'hlt).parts.length = 0 then 0 else sumP (l[k]'hlt).parts - (l[k]'hlt).mass := rfl
        have hm0 := hgd.mass0
        have hm1 := hgd.mass1
        have hpl := hgd.plen
        change recA (l.take (k + 1)) = recA (l.take k) + _ at t1
        change lossA (l.take (k + 1)) = lossA (l.take k) + _ at t2
        change airA (l.take (k + 1)) = airA (l.take k) + _ at t3
        have hrx : recX l[k] = if l[k].parts.length = 0 then l[k].mass else 0 := rfl
        rw [hrx] at t1
        obtain ⟨x, hx⟩ : ∃ x, x = l[k] := ⟨_, rfl⟩
        rw [← hx] at e7 r4 r5 r6 t1 t2 t3 htk hlo hsb hlx hm0 hm1 hpl
        obtain ⟨kd, ms, ps⟩ := x
        obtain ⟨S, hS⟩ : ∃ S, S = lostL ⟨kd, ms, ps⟩ := ⟨_, rfl⟩
        simp only [← hS] at t2 t3 hlo hlx
        simp only at e7 r4 r5 r6 t1 htk hsb hlx hm0 hm1 hpl
        obtain ⟨T, hT⟩ : ∃ T, T = sumP ps := ⟨_, rfl⟩
        rw [← hT] at htk hsb hlx
        obtain ⟨R1, hR1⟩ : ∃ R, R = recA (l.take k) := ⟨_, rfl⟩
        obtain ⟨R2, hR2⟩ : ∃ R, R = leftA l k := ⟨_, rfl⟩
        obtain ⟨R3, hR3⟩ : ∃ R, R = lossA (l.take k) := ⟨_, rfl⟩
        obtain ⟨R4, hR4⟩ : ∃ R, R = airA (l.take k) := ⟨_, rfl⟩
        obtain ⟨Z, hZ⟩ : ∃ Z, Z = leftL l k := ⟨_, rfl⟩
        rw [← hR1] at t1 hbd ⊢
        rw [← hR2, ← hZ] at t4
        rw [← hR2] at hla ⊢
        rw [← hR3] at t2 hbd ⊢
        rw [← hR4] at t3 hbd ⊢
        rw [← hZ] at hlb
        simp only [← hZ] at hle
        have HLE := Lib.hid hle
        have HLX := Lib.hid hlx
        have HT1 := Lib.hid t1
        have HT2 := Lib.hid t2
        have HT3 := Lib.hid t3
        have HT4 := Lib.hid t4
        have HTK := Lib.hid htk
        have HP := Lib.hid e7
        clear hc e1 e2 e4 e5 e6 e7 hgd hx hS hR1 hR2 hR3 hR4 hZ t1 t2 t3 t4 htk hrx hle hlx hT
        go_wp2_with fail
        refine (HLE.out wr (HL.out.below hr.out)).mono ?_
        rintro e w3 ⟨rfl, rfl⟩
        by_cases h0 : ps.length = 0
        · have d0 : ((ps.length : Int) == 0) = true := by rw [beq_iff_eq]; omega
          have HT5 := Lib.hid (HT1.out.trans (by rw [if_pos h0]))
          have hS0 : S = 0 := HLX.out.trans (if_pos h0)
          subst hS0
          have HT6 := Lib.hid (HT2.out.trans (show R3 + max 0 0 = R3 by omega))
          have HT7 := Lib.hid (HT3.out.trans (show R4 + max 0 (-0) = R4 by omega))
          clear h0
          go_wp2
          go_roundw
          case rel => exact ⟨k + 1, by rw [HT5.out], by rw [HT4.out], by rw [HT6.out], by rw [HT7.out], by go_num, by omega, hr⟩
          case measure => simp [intOf]; omega
        · have d0 : ((ps.length : Int) == 0) = false := by rw [beq_eq_false_iff_ne]; omega
          have HT5 := Lib.hid (HT1.out.trans (by rw [if_neg h0, Int.add_zero]))
          have hS0 : S = T - ms := HLX.out.trans (if_neg h0)
          subst hS0
          have HTK2 := Lib.hid (fun x => HTK.out (grow wr x) ((HP.out.below hr.out).below (below_grow wr x)))
          clear h0
          go_upto_region 11 with fail
          refine region_grow (by kernel_rfl) (by kernel_rfl) ?_
          repeat (go_big_quiet_step ((go_at_call 22; exact grow_call (HTK2.out _))))
          refine wpQuiet_nil ?_
          rintro w3 ⟨xg, hxg⟩
          have hb3 := below_grow wr xg
          rw [← hxg] at hb3
          clear hxg xg
          have h3 := Lib.hid (show Below w.heap.size w w3 from hr.out.trans (hb3.mono hr.out.size))
          clear hr hb3 r3 r4 r5 r6
          by_cases hp : 0 < T - ms
          · have HT6 := Lib.hid (HT2.out.trans (show R3 + max 0 (T - ms) = R3 + (T - ms) by omega))
            have HT7 := Lib.hid (HT3.out.trans (show R4 + max 0 (-(T - ms)) = R4 by omega))
            have d1 : decide (0 < T - ms) = true := decide_eq_true hp
            have d2 : decide (ms < T) = true := decide_eq_true (by omega)
            clear hp
            go_wp2
            go_roundw
            case rel => exact ⟨k + 1, by rw [HT5.out], by rw [HT4.out], by rw [HT6.out], by rw [HT7.out], by go_num, by omega, h3⟩
            case measure => simp [intOf]; omega
          · have HT6 := Lib.hid (HT2.out.trans (show R3 + max 0 (T - ms) = R3 by omega))
            have HT7 := Lib.hid (HT3.out.trans (show R4 + max 0 (-(T - ms)) = R4 - (T - ms) by omega))
            have d1 : decide (0 < T - ms) = false := decide_eq_false hp
            have d2 : decide (ms < T) = false := decide_eq_false (by omega)
            clear hp
            go_wp2
            go_roundw
            case rel => exact ⟨k + 1, by rw [HT5.out], by rw [HT4.out], by rw [HT6.out], by rw [HT7.out], by go_num, by omega, h3⟩
            case measure => simp [intOf]; omega
      · obtain rfl : k = l.length := by omega
        rw [List.take_length]
        go_wp2
        refine bodyPost_ret (v := .tuple #[.int .i64 (r), .int .i64 (f), .int .i64 (o), .int .i64 (a), .int .i64 (z)]) (by simp only [results, Try.results20]; go_simp; exact five_inj HM2.out) rfl ⟨rfl, ?_⟩
        exact hr.out
  · have hm2 := HM.out
    unfold auditE at hm2
    rw [if_pos (by rw [← HE.out]; exact hz), ← HE.out] at hm2
    have HM2 := Lib.hid hm2
    have d1 : (E == 0) = false := by rw [beq_eq_false_iff_ne]; exact hz
    have d2 : (E != 0) = true := by rw [bne_iff_ne]; exact hz
    clear hm2 hz
    go_wp2
    refine bodyPost_ret (v := .tuple #[.int .i64 (r), .int .i64 (f), .int .i64 (o), .int .i64 (a), .int .i64 (z)]) (by simp only [results, Try.results20]; go_simp; exact five_inj HM2.out) rfl ⟨rfl, ?_⟩
    exact ib.out
end Go.Proofs.Ytdgmpaijpjkeoaa
