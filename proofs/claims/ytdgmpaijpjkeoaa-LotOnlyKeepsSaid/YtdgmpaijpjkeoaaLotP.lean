/-
  Left, lost, Lost, Received (the program's).
-/
import Derived.Test.YtdgmpaijpjkeoaaLotJ
namespace Go.Proofs.Ytdgmpaijpjkeoaa
open Go.RowKit
attribute [local go_sem] grow_cell grow_frozen
theorem isL_one (W : World) (x : Int) (t : TypeId) : IsL (W.alloc (.cells #[.int .i64 x] t)) (some ⟨W.heap.size, 0, none⟩) 1 [x] :=
  ⟨rfl, fun _ => ⟨W.heap.size, 0, rfl, by simp, fun i hi => by
    rcases i with _ | i
    · simp
    · omega⟩⟩
theorem chk_one (l : List LotD) (n : Int) : chkE l [n, n] = chkE l [n] := by
  unfold chkE
  simp
theorem ret_ii {a b c d : Int} (h : (a, b) = (c, d)) : Ending.returned (.tuple #[.int .i64 a, .int .i64 b]) = .returned (.tuple #[.int .i64 c, .int .i64 d]) := by
  simp only [Prod.mk.injEq] at h
  rw [h.1, h.2]
/-- What is left of a lot, or the error. -/
def leftE (l : List LotD) (n : Int) : Int × Int := if chkE l [n] ≠ 0 then (0, chkE l [n]) else (leftL l n.toNat, 0)
theorem rest_at {l : List LotD} {n : Nat} (hn : n < l.length) : (restL l).getD n 0 = leftL l n := by
  unfold restL
  rw [List.getD_eq_getElem?_getD, List.getElem?_map, List.getElem?_range hn]
  rfl
set_option maxRecDepth 100000 in
set_option maxHeartbeats 1000000 in
theorem lotLeft_any (l : List LotD) (hl : l.length ≤ 1000) (hps : ∀ x ∈ l, x.parts.length ≤ 1000) (n v z : Int) (hm : leftE l n = (v, z)) (hn : -9223372036854775808 ≤ n) (kn : n ≤ 9223372036854775807) (A : Option Addr) (c : Nat) (w : World) (hL : LotsIn w A l) :
    Calls Try.prog 37 #[.slice A l.length c, .int .i64 n] w fun e w' => e = .returned (.tuple #[.int .i64 v, .int .i64 z]) ∧ Below w.heap.size w w' := by
  have HM := Lib.hid hm
  have HL := Lib.hid hL
  have HPS := Lib.hid hps
  clear hm hL hps
  go_enter Try.func37, Try.ntmps37
  go_wp2_with fail
  obtain ⟨W, hW⟩ : ∃ W, W = w.alloc (.cells #[.int .i64 n] 3) := ⟨_, rfl⟩
  rw [← hW]
  have hb := Lib.hid (show Below w.heap.size w W by rw [hW]; exact (by repeat' (first | (with_reducible exact Below.refl _ _) | (with_reducible assumption) | (with_reducible refine below_drewN ?_ _) | (with_reducible refine below_step (by assumption) ?_ ?_) | (with_reducible refine Below.alloc ?_ ?_ _) | (with_reducible refine Below.setCell ?_ ?_ _) | (with_reducible refine Below.drew ?_) | go_size | (exact Below.size (by assumption)) | (refine Nat.le_trans (Below.size (by assumption)) ?_))))
  have hI := Lib.hid (show IsL W (some ⟨w.heap.size, 0, none⟩) 1 [n] by rw [hW]; exact isL_one w n _)
  clear hW
  obtain ⟨E, hE⟩ : ∃ E, E = chkE l [n] := ⟨_, rfl⟩
  have HE := Lib.hid hE
  clear hE
  refine (check_any l hl HPS.out A c _ 1 1 [n] W (HL.out.below hb.out) hI.out (by omega) (fun x hx => by simp at hx; subst hx; exact ⟨by omega, by omega⟩)).mono ?_
  rw [← HE.out]
  rintro e w1 ⟨rfl, hb1⟩
  have ib := Lib.hid (hb.out.trans (hb1.mono hb.out.size))
  clear hb1 hI hb
  by_cases hz : E = 0
  · subst hz
    have hm2 := HM.out
    unfold leftE at hm2
    rw [if_neg (by rw [← HE.out]; decide)] at hm2
    obtain ⟨hgl, hin⟩ := chk_zero HE.out.symm
    have h1 := hin n (by simp)
    obtain ⟨n, rfl⟩ : ∃ k : Nat, n = k := ⟨n.toNat, by omega⟩
    rw [Int.toNat_natCast] at hm2
    have HM2 := Lib.hid hm2
    have HG := Lib.hid hgl.lot
    have hn : n < l.length := by omega
    clear hm2 hgl hin h1
    go_wp2_with fail
    refine (rest_any l hl HG.out A c w1 (HL.out.below ib.out)).mono ?_
    rintro e w2 ⟨rfl, hr, hb2⟩
    have jb := Lib.hid (ib.out.trans (hb2.mono ib.out.size))
    have q0 := hr.get n (by simp [restL]; exact hn)
    rw [rest_at hn] at q0
    have q1 := Row.lt hr
    clear hr hb2 ib
    go_wp2
    refine bodyPost_ret (v := .tuple #[.int .i64 (v), .int .i64 (z)]) (by simp only [results, Try.results37]; go_simp; exact Prod.mk.inj HM2.out) rfl ⟨rfl, ?_⟩
    exact jb.out
  · have hm2 := HM.out
    unfold leftE at hm2
    rw [if_pos (by rw [← HE.out]; exact hz), ← HE.out] at hm2
    have HM2 := Lib.hid hm2
    have d1 : (E == 0) = false := by rw [beq_eq_false_iff_ne]; exact hz
    have d2 : (E != 0) = true := by rw [bne_iff_ne]; exact hz
    clear hm2 hz
    go_wp2
    refine bodyPost_ret (v := .tuple #[.int .i64 (v), .int .i64 (z)]) (by simp only [results, Try.results37]; go_simp; exact Prod.mk.inj HM2.out) rfl ⟨rfl, ?_⟩
    exact ib.out
/-- What a lot lost. -/
def lostL (x : LotD) : Int := if x.parts.length = 0 then 0 else sumP x.parts - x.mass
def lostE (l : List LotD) (n : Int) : Int × Int := if chkE l [n] ≠ 0 then (0, chkE l [n]) else (lostL (l.getD n.toNat default), 0)
theorem GoodLot.small {l : List LotD} {i : Nat} {x : LotD} (h : GoodLot l i x) : SmallP x.parts := ⟨by have := h.plen; omega, fun p hp => by have := h.part p hp; omega⟩
theorem GoodLot.sum {l : List LotD} {i : Nat} {x : LotD} (h : GoodLot l i x) : 0 ≤ sumP x.parts ∧ sumP x.parts ≤ 600000 := by
  have := sumP_bd (fun p hp => (h.part p hp).2.2)
  have := h.plen
  omega
set_option maxRecDepth 100000 in
set_option maxHeartbeats 1000000 in
theorem lost_any (l : List LotD) (i : Nat) (x : LotD) (hg : GoodLot l i x) (A : Option Addr) (c : Nat) (w : World) (hP : PartsIn w A x.parts) :
    Calls Try.prog 66 #[.agg #[.int .i64 x.kind, .int .i64 x.mass, .slice A x.parts.length c]] w fun e w' => e = .returned (.int .i64 (lostL x)) ∧ Below w.heap.size w w' := by
  have hsm := hg.small
  have hsb := hg.sum
  have hk0 := hg.kind0
  have hk1 := hg.kind1
  have hm0 := hg.mass0
  have hm1 := hg.mass1
  have hpl := hg.plen
  have htk := fun w hP => takes_any x A c w hP hsm
  have hlo : lostL x = if x.parts.length = 0 then 0 else sumP x.parts - x.mass := rfl
  clear hg hsm
  obtain ⟨kd, ms, ps⟩ := x
  simp only at *
  obtain ⟨S, hS⟩ : ∃ S, S = sumP ps := ⟨_, rfl⟩
  rw [← hS] at htk hlo hsb
  have HP := Lib.hid hP
  have HTK := Lib.hid htk
  have HLO := Lib.hid hlo
  clear hP htk hlo hS
  go_enter Try.func66, Try.ntmps66
  go_upto_region 1 with fail
  obtain ⟨W, hW⟩ : ∃ W, W = w.alloc (.cells #[.int .i64 kd, .int .i64 ms, .slice A ps.length c] 37) := ⟨_, rfl⟩
  rw [← hW]
  have q0 : W.cell? ⟨w.heap.size, 0, none⟩ = some (.int .i64 kd) := by rw [hW]; simp
  have q1 : W.cell? ⟨w.heap.size, 1, none⟩ = some (.int .i64 ms) := by rw [hW]; simp
  have q2 : W.cell? ⟨w.heap.size, 2, none⟩ = some (.slice A ps.length c) := by rw [hW]; simp
  have qz : w.heap.size < W.heap.size := by rw [hW]; simp
  have hb := Lib.hid (show Below w.heap.size w W by rw [hW]; exact (by repeat' (first | (with_reducible exact Below.refl _ _) | (with_reducible assumption) | (with_reducible refine below_drewN ?_ _) | (with_reducible refine below_step (by assumption) ?_ ?_) | (with_reducible refine Below.alloc ?_ ?_ _) | (with_reducible refine Below.setCell ?_ ?_ _) | (with_reducible refine Below.drew ?_) | go_size | (exact Below.size (by assumption)) | (refine Nat.le_trans (Below.size (by assumption)) ?_))))
  clear hW
  by_cases h0 : ps.length = 0
  · have HL2 := Lib.hid (HLO.out.trans (if_pos h0))
    have d0 : ((ps.length : Int) == 0) = true := by rw [beq_iff_eq]; omega
    go_wp2
    go_ret
    exact ⟨by rw [HL2.out]; rfl, hb.out⟩
  · have HL2 := Lib.hid (HLO.out.trans (if_neg h0))
    have d0 : ((ps.length : Int) == 0) = false := by rw [beq_eq_false_iff_ne]; omega
    have HTK2 := Lib.hid (fun x => HTK.out (grow W x) ((HP.out.below hb.out).below (below_grow W x)))
    go_wp2
    refine region_grow (by kernel_rfl) (by kernel_rfl) ?_
    repeat (go_big_quiet_step ((go_at_call 96; exact grow_call (HTK2.out _))))
    refine wpQuiet_nil ?_
    rintro w3 ⟨xg, hxg⟩
    have hb3 := below_grow W xg
    rw [← hxg] at hb3
    clear hxg xg
    have HB := Lib.hid (hb.out.trans (hb3.mono hb.out.size))
    clear hb3
    go_wp2
    go_ret
    exact ⟨by rw [HL2.out]; rfl, HB.out⟩
set_option maxRecDepth 100000 in
set_option maxHeartbeats 1000000 in
theorem lotLost_any (l : List LotD) (hl : l.length ≤ 1000) (hps : ∀ x ∈ l, x.parts.length ≤ 1000) (n v z : Int) (hm : lostE l n = (v, z)) (hn : -9223372036854775808 ≤ n) (kn : n ≤ 9223372036854775807) (A : Option Addr) (c : Nat) (w : World) (hL : LotsIn w A l) :
    Calls Try.prog 39 #[.slice A l.length c, .int .i64 n] w fun e w' => e = .returned (.tuple #[.int .i64 v, .int .i64 z]) ∧ Below w.heap.size w w' := by
  have HM := Lib.hid hm
  have HL := Lib.hid hL
  have HPS := Lib.hid hps
  clear hm hL hps
  go_enter Try.func39, Try.ntmps39
  go_wp2_with fail
  obtain ⟨W, hW⟩ : ∃ W, W = w.alloc (.cells #[.int .i64 n] 3) := ⟨_, rfl⟩
  rw [← hW]
  have hb := Lib.hid (show Below w.heap.size w W by rw [hW]; exact (by repeat' (first | (with_reducible exact Below.refl _ _) | (with_reducible assumption) | (with_reducible refine below_drewN ?_ _) | (with_reducible refine below_step (by assumption) ?_ ?_) | (with_reducible refine Below.alloc ?_ ?_ _) | (with_reducible refine Below.setCell ?_ ?_ _) | (with_reducible refine Below.drew ?_) | go_size | (exact Below.size (by assumption)) | (refine Nat.le_trans (Below.size (by assumption)) ?_))))
  have hI := Lib.hid (show IsL W (some ⟨w.heap.size, 0, none⟩) 1 [n] by rw [hW]; exact isL_one w n _)
  clear hW
  obtain ⟨E, hE⟩ : ∃ E, E = chkE l [n] := ⟨_, rfl⟩
  have HE := Lib.hid hE
  clear hE
  refine (check_any l hl HPS.out A c _ 1 1 [n] W (HL.out.below hb.out) hI.out (by omega) (fun x hx => by simp at hx; subst hx; exact ⟨by omega, by omega⟩)).mono ?_
  rw [← HE.out]
  rintro e w1 ⟨rfl, hb1⟩
  have ib := Lib.hid (hb.out.trans (hb1.mono hb.out.size))
  clear hb1 hI hb
  by_cases hz : E = 0
  · subst hz
    have hm2 := HM.out
    unfold lostE at hm2
    rw [if_neg (by rw [← HE.out]; decide)] at hm2
    obtain ⟨hgl, hin⟩ := chk_zero HE.out.symm
    have h1 := hin n (by simp)
    obtain ⟨n, rfl⟩ : ∃ k : Nat, n = k := ⟨n.toNat, by omega⟩
    have hn : n < l.length := by omega
    rw [Int.toNat_natCast, getD_at' hn] at hm2
    obtain ⟨b, o, rfl, hc⟩ := (HL.out.below ib.out) (by omega)
    obtain ⟨e1, e2, e3, e4, e5, A', c', e6, e8, e7⟩ := hc n hn
    have hcall := fun A c w (hP : PartsIn w A (l[n]'hn).parts) => lost_any l n (l[n]'hn) (hgl.lot n hn) A c w hP
    obtain ⟨x, hx⟩ : ∃ x, x = l[n] := ⟨_, rfl⟩
    rw [← hx] at e4 e5 e6 e7 hcall hm2
    obtain ⟨kd, ms, ps⟩ := x
    simp only at e4 e5 e6 e7 hcall
    have HM2 := Lib.hid hm2
    have HC := Lib.hid (hcall A' c' _ e7)
    clear hm2 hgl hin h1 hc hcall e1 e2 e7 hx
    go_wp2_with fail
    refine HC.out.mono ?_
    rintro e w2 ⟨rfl, hb2⟩
    have jb := Lib.hid (ib.out.trans (hb2.mono ib.out.size))
    clear hb2 ib
    go_wp2
    refine bodyPost_ret (v := .tuple #[.int .i64 (v), .int .i64 (z)]) (by simp only [results, Try.results39]; go_simp; exact Prod.mk.inj HM2.out) rfl ⟨rfl, ?_⟩
    exact jb.out
  · have hm2 := HM.out
    unfold lostE at hm2
    rw [if_pos (by rw [← HE.out]; exact hz), ← HE.out] at hm2
    have HM2 := Lib.hid hm2
    have d1 : (E == 0) = false := by rw [beq_eq_false_iff_ne]; exact hz
    have d2 : (E != 0) = true := by rw [bne_iff_ne]; exact hz
    clear hm2 hz
    go_wp2
    refine bodyPost_ret (v := .tuple #[.int .i64 (v), .int .i64 (z)]) (by simp only [results, Try.results39]; go_simp; exact Prod.mk.inj HM2.out) rfl ⟨rfl, ?_⟩
    exact ib.out
/-- What was received of a kind. -/
def recL (kd : Int) (l : List LotD) : Int := (l.map fun x => if x.parts.length = 0 ∧ x.kind = kd then x.mass else 0).sum
def recE (l : List LotD) (kd : Int) : Int × Int := if valE l ≠ 0 then (0, valE l) else if kd < 0 ∨ 8 ≤ kd then (0, 1) else (recL kd l, 0)
theorem recL_take {kd : Int} {l : List LotD} {k : Nat} (h : k < l.length) : recL kd (l.take (k + 1)) = recL kd (l.take k) + (if l[k].parts.length = 0 ∧ l[k].kind = kd then l[k].mass else 0) := by
  rw [List.take_succ_eq_append_getElem h]
  simp only [recL, List.map_append, List.sum_append, List.map_cons, List.map_nil, List.sum_cons, List.sum_nil, Int.add_zero]
theorem recL_bd {kd : Int} {l : List LotD} (hg : GoodAll l) (k : Nat) (hk : k ≤ l.length) : 0 ≤ recL kd (l.take k) ∧ recL kd (l.take k) ≤ 100000 * k := by
  induction k with
  | zero => simp [recL]
  | succ k ih =>
    have h1 := ih (by omega)
    rw [recL_take (by omega)]
    have h2 := hg k (by omega)
    have := h2.mass0
    have := h2.mass1
    split <;> omega
set_option maxRecDepth 100000 in
set_option maxHeartbeats 1000000 in
theorem lotRecv_any (l : List LotD) (hl : l.length ≤ 1000) (hps : ∀ x ∈ l, x.parts.length ≤ 1000) (n v z : Int) (hm : recE l n = (v, z)) (hn : -9223372036854775808 ≤ n) (kn : n ≤ 9223372036854775807) (A : Option Addr) (c : Nat) (w : World) (hL : LotsIn w A l) :
    Calls Try.prog 41 #[.slice A l.length c, .int .i64 n] w fun e w' => e = .returned (.tuple #[.int .i64 v, .int .i64 z]) ∧ Below w.heap.size w w' := by
  have HM := Lib.hid hm
  have HL := Lib.hid hL
  have HPS := Lib.hid hps
  clear hm hL hps
  obtain ⟨E, hE⟩ : ∃ E, E = valE l := ⟨_, rfl⟩
  have HE := Lib.hid hE
  clear hE
  go_enter Try.func41, Try.ntmps41
  go_wp2_with fail
  refine (validate_any l hl HPS.out A c w HL.out).mono ?_
  rw [← HE.out]
  rintro e w1 ⟨rfl, hb1⟩
  have ib := Lib.hid hb1
  clear hb1
  by_cases hz : E = 0
  · subst hz
    have hm2 := HM.out
    unfold recE at hm2
    rw [if_neg (by rw [← HE.out]; decide)] at hm2
    have hgl := valE_zero HE.out.symm
    have HG := Lib.hid hgl.lot
    have hl24 := hgl.len
    clear hgl
    by_cases h1 : n < 0
    · rw [if_pos (.inl h1)] at hm2
      have HM2 := Lib.hid hm2
      clear hm2
      go_wp2
      refine bodyPost_ret (v := .tuple #[.int .i64 (v), .int .i64 (z)]) (by simp only [results, Try.results41]; go_simp; exact Prod.mk.inj HM2.out) rfl ⟨rfl, ?_⟩
      exact ib.out
    · by_cases h2 : 8 ≤ n
      · rw [if_pos (.inr h2)] at hm2
        have HM2 := Lib.hid hm2
        clear hm2
        go_wp2
        refine bodyPost_ret (v := .tuple #[.int .i64 (v), .int .i64 (z)]) (by simp only [results, Try.results41]; go_simp; exact Prod.mk.inj HM2.out) rfl ⟨rfl, ?_⟩
        exact ib.out
      · rw [if_neg (by omega)] at hm2
        have HM2 := Lib.hid hm2
        clear hm2
        go_wp2
        go_loopw [7, 23] (fun s t wr => ∃ k : Nat, s = .int .i64 (recL n (l.take k)) ∧ t = .int .i64 k ∧ k ≤ l.length ∧ Hid (Below w.heap.size w wr)) (fun _ t _ => l.length - (intOf t).toNat)
        case atStart => exact ⟨0, by simp [recL], rfl, by omega, ib⟩
        case round =>
          obtain ⟨k, rfl, rfl, hk, hr⟩ := hrel
          by_cases hlt : k < l.length
          · obtain ⟨b, o, rfl, hc⟩ := (HL.out.below hr.out) (by omega)
            obtain ⟨e1, e2, e3, e4, e5, A', c', e6, e8, e7⟩ := hc k hlt
            have hgd := HG.out k hlt
            have hbd := recL_bd (kd := n) HG.out k hk
            have htk := recL_take (kd := n) hlt
            have hm0 := hgd.mass0
            have hm1 := hgd.mass1
            have hpl := hgd.plen
            obtain ⟨x, hx⟩ : ∃ x, x = l[k] := ⟨_, rfl⟩
            rw [← hx] at e1 e4 e5 e6 htk hm0 hm1 hpl
            obtain ⟨kd, ms, ps⟩ := x
            simp only at e1 e4 e5 e6 htk hm0 hm1 hpl
            obtain ⟨R, hR⟩ : ∃ R, R = recL n (l.take k) := ⟨_, rfl⟩
            rw [← hR] at htk hbd ⊢
            have HTK := Lib.hid htk
            clear hc e2 e7 hgd hx hR htk
            by_cases h0 : ps.length = 0
            · have d0 : ((ps.length : Int) == 0) = true := by rw [beq_iff_eq]; omega
              by_cases hk2 : kd = n
              · have H2 := Lib.hid (HTK.out.trans (by rw [if_pos ⟨h0, hk2⟩]))
                have d1 : (kd == n) = true := by rw [beq_iff_eq]; exact hk2
                clear hk2
                go_wp2
                go_roundw
                case rel => exact ⟨k + 1, by rw [H2.out], by go_num, by omega, Lib.hid (hr.out.alloc hr.out.size _)⟩
                case measure => simp [intOf]; omega
              · have H2 := Lib.hid (HTK.out.trans (by rw [if_neg (fun h => hk2 h.2), Int.add_zero]))
                have d1 : (kd == n) = false := by rw [beq_eq_false_iff_ne]; exact hk2
                clear hk2
                go_wp2
                go_roundw
                case rel => exact ⟨k + 1, by rw [H2.out], by go_num, by omega, Lib.hid (hr.out.alloc hr.out.size _)⟩
                case measure => simp [intOf]; omega
            · have d0 : ((ps.length : Int) == 0) = false := by rw [beq_eq_false_iff_ne]; omega
              have H2 := Lib.hid (HTK.out.trans (by rw [if_neg (fun h => h0 h.1), Int.add_zero]))
              go_wp2
              go_roundw
              case rel => exact ⟨k + 1, by rw [H2.out], by go_num, by omega, Lib.hid (hr.out.alloc hr.out.size _)⟩
              case measure => simp [intOf]; omega
          · obtain rfl : k = l.length := by omega
            rw [List.take_length]
            go_wp2
            refine bodyPost_ret (v := .tuple #[.int .i64 (v), .int .i64 (z)]) (by simp only [results, Try.results41]; go_simp; exact Prod.mk.inj HM2.out) rfl ⟨rfl, ?_⟩
            exact hr.out
  · have hm2 := HM.out
    unfold recE at hm2
    rw [if_pos (by rw [← HE.out]; exact hz), ← HE.out] at hm2
    have HM2 := Lib.hid hm2
    have d1 : (E == 0) = false := by rw [beq_eq_false_iff_ne]; exact hz
    have d2 : (E != 0) = true := by rw [bne_iff_ne]; exact hz
    clear hm2 hz
    go_wp2
    refine bodyPost_ret (v := .tuple #[.int .i64 (v), .int .i64 (z)]) (by simp only [results, Try.results41]; go_simp; exact Prod.mk.inj HM2.out) rfl ⟨rfl, ?_⟩
    exact ib.out
end Go.Proofs.Ytdgmpaijpjkeoaa
