/-
  THE REFERENCE: Paths, Depth.
-/
import Derived.Test.YtdgmpaijpjkeoaaPthM
import Derived.Test.YtdgmpaijpjkeoaaRefP
import Derived.Deep.DeepCutAuto
namespace Go.Proofs.Ytdgmpaijpjkeoaa
open Go.RowKit
attribute [local go_sem] grow_cell grow_frozen
set_option maxRecDepth 100000 in
set_option maxHeartbeats 1000000 in
theorem refPaths_any (l : List LotD) (hl : l.length ≤ 1000) (hps : ∀ x ∈ l, x.parts.length ≤ 1000) (of i v z : Int) (hm : pathsE l of i = (v, z)) (hof : -9223372036854775808 ≤ of) (kof : of ≤ 9223372036854775807) (hi : -9223372036854775808 ≤ i) (ki : i ≤ 9223372036854775807) (A : Option Addr) (c : Nat) (w : World) (hL : LotsIn w A l) :
    Calls Try.prog 26 #[.slice A l.length c, .int .i64 of, .int .i64 i] w fun e w' => e = .returned (.tuple #[.int .i64 v, .int .i64 z]) ∧ Below w.heap.size w w' := by
  have hmk := fun w => make_i64 l.length (by omega) w
  have HM := Lib.hid hm
  have HL := Lib.hid hL
  have HPS := Lib.hid hps
  clear hm hL hps
  obtain ⟨E, hE⟩ : ∃ E, E = chkE l [of, i] := ⟨_, rfl⟩
  have HE := Lib.hid hE
  clear hE
  go_enter Try.func26, Try.ntmps26
  go_wp2_with fail
  refine (named_any l hl HPS.out of i A c w HL.out).mono ?_
  rw [← HE.out]
  rintro e w1 ⟨rfl, hb1⟩
  have ib := Lib.hid hb1
  clear hb1
  by_cases hz : E = 0
  · subst hz
    have hm2 := HM.out
    unfold pathsE at hm2
    rw [if_neg (by rw [← HE.out]; decide)] at hm2
    obtain ⟨hgl, hin⟩ := chk_zero HE.out.symm
    have h1 := hin of (by simp)
    have h2 := hin i (by simp)
    obtain ⟨of, rfl⟩ : ∃ n : Nat, of = n := ⟨of.toNat, by omega⟩
    obtain ⟨i, rfl⟩ : ∃ n : Nat, i = n := ⟨i.toNat, by omega⟩
    rw [Int.toNat_natCast, Int.toNat_natCast] at hm2
    have HM2 := Lib.hid hm2
    have HG := Lib.hid hgl.lot
    have hl24 := hgl.len
    have hi : i < l.length := by omega
    have hof : of < l.length := by omega
    clear hm2 hgl hin h1 h2
    go_upto_region 5 with fail
    obtain ⟨wa, hwa⟩ : ∃ wa, wa = w1.alloc (.cells (zcells l.length) 3) := ⟨_, rfl⟩
    rw [← hwa]
    have ha := Lib.hid (show RowI wa w1.heap.size (List.replicate l.length 0) ∧ Below w.heap.size w wa ∧ w.heap.size ≤ w1.heap.size by
      rw [hwa]
      exact ⟨RowI.zeros _ _, ib.out.alloc ib.out.size _, ib.out.size⟩)
    clear hwa ib
    have q0 := ha.out.1.get of (by simpa using hof)
    have q1 : wa.frozen? ⟨w1.heap.size, of, none⟩ = false := Row.free ha.out.1 of
    have q2 : w1.heap.size < wa.heap.size := Row.lt ha.out.1
    go_wp2
    obtain ⟨wb, hwb⟩ : ∃ wb, wb = wa.setCell ⟨w1.heap.size, of, none⟩ (.int .i64 1) := ⟨_, rfl⟩
    rw [← hwb]
    have h0 := Lib.hid (show RowI wb w1.heap.size (rowT (pathV l of) (pathP l of) l.length (of + 1) 0) ∧ Below w.heap.size w wb by
      rw [hwb, ← path_start HG.out hof]
      exact ⟨ha.out.1.set of 1, ha.out.2.1.setCell ha.out.2.2 _⟩)
    have hgz := ha.out.2.2
    clear hwb ha q0 q1 q2 hmk
    go_loopw [10] (fun t wr => ∃ k : Nat, t = .int .i64 k ∧ of < k ∧ k ≤ l.length ∧ Hid (RowI wr w1.heap.size (rowT (pathV l of) (pathP l of) l.length k 0) ∧ Below w.heap.size w wr)) (fun t _ => l.length - (intOf t).toNat)
    case atStart => exact ⟨of + 1, by go_num, by omega, by omega, h0⟩
    case round =>
      clear h0
      obtain ⟨k, rfl, hk0, hk, hr⟩ := hrel
      by_cases hlt : k < l.length
      · obtain ⟨b, o, rfl, hc⟩ := HL.out (by omega)
        have hkl : k < l.length := by omega
        obtain ⟨e1, e2, e3, e4, e5, A', c', e6, e8, e7⟩ := hc k hkl
        have hgd := HG.out k hkl
        have hpl := hgd.plen
        have hpt := hgd.part
        have hst := path_step' (of := of) hkl
        have hfu := path_full HG.out hk0
        rw [getD_at' hkl] at hfu
        obtain ⟨ps, hps⟩ : ∃ ps, ps = l[k].parts := ⟨_, rfl⟩
        rw [← hps] at e6 e8 e7 hpl hpt hfu hst
        have HST := Lib.hid hst
        have HFU := Lib.hid hfu
        have HPT := Lib.hid hpt
        have HP := Lib.hid (show PartsIn w A' ps ∧ b < w.heap.size ∧ w.cell? ⟨b, o + k * 3 + 2, none⟩ = some (.slice A' ps.length c') from ⟨e7, e3, e6⟩)
        clear hc e1 e2 e3 e4 e5 e6 e7 hgd hpt hst hfu hps
        go_wp2
        go_loopw [11] (fun t wq => ∃ m : Nat, t = .int .i64 m ∧ m ≤ ps.length ∧ Hid (RowI wq w1.heap.size (rowT (pathV l of) (pathP l of) l.length k m) ∧ Below w.heap.size w wq)) (fun t _ => ps.length - (intOf t).toNat)
        case atStart => exact ⟨0, rfl, by omega, hr⟩
        case round =>
          clear hr
          obtain ⟨m, rfl, hmle, hq⟩ := hrel
          have e3 := Nat.lt_of_lt_of_le HP.out.2.1 hq.out.2.size
          have e6 := (hq.out.2.cell (p := ⟨b, o + k * 3 + 2, none⟩) HP.out.2.1).trans HP.out.2.2
          by_cases hml : m < ps.length
          · obtain ⟨b', o', rfl, hb', hcc⟩ := (HP.out.1.below hq.out.2).2 (by omega)
            obtain ⟨q0, q1⟩ := hcc m hml
            have hpg := HPT.out _ (List.getElem_mem hml)
            have hst := HST.out m _ (List.getElem?_eq_getElem hml)
            obtain ⟨p, hp⟩ : ∃ p, p = ps[m] := ⟨_, rfl⟩
            rw [← hp] at q0 q1 hpg hst
            obtain ⟨p1, p2⟩ := p
            simp only at q0 q1 hpg hst
            obtain ⟨a, rfl⟩ : ∃ a : Nat, p1 = a := ⟨p1.toNat, by omega⟩
            rw [Int.toNat_natCast] at hst
            have hak : a < k := by omega
            have hal : a < l.length := by omega
            have b1 := path_bd HG.out (of := of) (i := a) (by omega)
            have b2 := pathP_bd HG.out (of := of) (k := k) (m := m) (by omega)
            have b3 := pathP_bd HG.out (of := of) (k := k) (m := m + 1) (by omega)
            rw [hst] at b3
            obtain ⟨x, hx⟩ : ∃ x, x = pathP l of k m := ⟨_, rfl⟩
            obtain ⟨y, hy⟩ : ∃ y, y = pathV l of a := ⟨_, rfl⟩
            rw [← hx, ← hy] at hst b3
            rw [← hx] at b2
            rw [← hy] at b1
            have HX := Lib.hid hx
            have HY := Lib.hid hy
            have HS := Lib.hid hst
            clear hcc hp hst hx hy
            have k1 := hq.out.1.get k (by rw [rowT_length]; exact hkl)
            have k2 := hq.out.1.get a (by rw [rowT_length]; exact hal)
            rw [rowT_at hkl, ← HX.out] at k1
            rw [rowT_lt hal hak, ← HY.out] at k2
            have k3 : wr.frozen? ⟨w1.heap.size, k, none⟩ = false := Row.free hq.out.1 k
            have k4 : w1.heap.size < wr.heap.size := Row.lt hq.out.1
            go_wp2
            refine region_grow_tail 18 (by kernel_rfl) (by kernel_rfl) ?_
            simp only [List.take_succ_cons, List.take_zero, List.drop_succ_cons, List.drop_zero]
            repeat (go_big_quiet_step (fail))
            refine wpQuiet_nil ?_
            rintro w2 ⟨xg, hxg⟩
            have hb2 := below_grow wr xg
            rw [← hxg] at hb2
            clear hxg xg
            have h2d := Lib.hid (show RowI w2 w1.heap.size (rowT (pathV l of) (pathP l of) l.length k m) ∧ Below w.heap.size w w2 from ⟨hq.out.1.keep hb2, hq.out.2.trans (hb2.mono hq.out.2.size)⟩)
            have k5 := h2d.out.1.get k (by rw [rowT_length]; exact hkl)
            have k6 : w2.frozen? ⟨w1.heap.size, k, none⟩ = false := Row.free h2d.out.1 k
            have k7 : w1.heap.size < w2.heap.size := Row.lt h2d.out.1
            clear k1 k2 k3 k4 hb2 hq q0 q1
            go_wp2
            go_roundw
            case rel => exact ⟨m + 1, by go_num, by omega, Lib.hid ⟨by rw [← rowT_set HS.out]; exact h2d.out.1.set k _, h2d.out.2.setCell hgz _⟩⟩
            case measure => simp [intOf]; omega
          · obtain rfl : m = ps.length := by omega
            have hq2 := Lib.hid (show RowI wr w1.heap.size (rowT (pathV l of) (pathP l of) l.length (k + 1) 0) ∧ Below w.heap.size w wr from ⟨(rowT_end HFU.out (show pathP l of (k + 1) 0 = 0 by simp [pathP])) ▸ hq.out.1, hq.out.2⟩)
            clear hq
            go_wp2
            go_roundw
            case rel => exact ⟨k + 1, by go_num, by omega, by omega, hq2⟩
            case measure => simp [intOf]; omega
      · obtain rfl : k = l.length := by omega
        have q0 := hr.out.1.get i (by rw [rowT_length]; exact hi)
        rw [rowT_lt hi (by omega)] at q0
        have q2 := Row.lt hr.out.1
        go_wp2
        refine bodyPost_ret (v := .tuple #[.int .i64 (v), .int .i64 (z)]) (by simp only [results, Try.results26]; go_simp; exact Prod.mk.inj HM2.out) rfl ⟨rfl, ?_⟩
        exact hr.out.2
  · have hm2 := HM.out
    unfold pathsE at hm2
    rw [if_pos (by rw [← HE.out]; exact hz), ← HE.out] at hm2
    have HM2 := Lib.hid hm2
    have d1 : (E == 0) = false := by rw [beq_eq_false_iff_ne]; exact hz
    have d2 : (E != 0) = true := by rw [bne_iff_ne]; exact hz
    clear hm2 hz
    go_wp2
    refine bodyPost_ret (v := .tuple #[.int .i64 (v), .int .i64 (z)]) (by simp only [results, Try.results26]; go_simp; exact Prod.mk.inj HM2.out) rfl ⟨rfl, ?_⟩
    exact ib.out
theorem rowT_same {V : Nat → Int} {P : Nat → Nat → Int} {n k m m' : Nat} (h : P k m = P k m') : rowT V P n k m = rowT V P n k m' := by
  unfold rowT
  rw [h]
set_option maxRecDepth 100000 in
set_option maxHeartbeats 1000000 in
theorem refDepth_any (l : List LotD) (hl : l.length ≤ 1000) (hps : ∀ x ∈ l, x.parts.length ≤ 1000) (i v z : Int) (hm : depthE l i = (v, z)) (hi : -9223372036854775808 ≤ i) (ki : i ≤ 9223372036854775807) (A : Option Addr) (c : Nat) (w : World) (hL : LotsIn w A l) :
    Calls Try.prog 28 #[.slice A l.length c, .int .i64 i] w fun e w' => e = .returned (.tuple #[.int .i64 v, .int .i64 z]) ∧ Below w.heap.size w w' := by
  have hmk := fun w => make_i64 l.length (by omega) w
  have HM := Lib.hid hm
  have HL := Lib.hid hL
  have HPS := Lib.hid hps
  clear hm hL hps
  obtain ⟨E, hE⟩ : ∃ E, E = chkE l [i] := ⟨_, rfl⟩
  have HE := Lib.hid hE
  clear hE
  go_enter Try.func28, Try.ntmps28
  go_wp2_with fail
  refine (named_any l hl HPS.out i i A c w HL.out).mono ?_
  rw [chk_one, ← HE.out]
  rintro e w1 ⟨rfl, hb1⟩
  have ib := Lib.hid hb1
  clear hb1
  by_cases hz : E = 0
  · subst hz
    have hm2 := HM.out
    unfold depthE at hm2
    rw [if_neg (by rw [← HE.out]; decide)] at hm2
    obtain ⟨hgl, hin⟩ := chk_zero HE.out.symm
    have h2 := hin i (by simp)
    obtain ⟨i, rfl⟩ : ∃ n : Nat, i = n := ⟨i.toNat, by omega⟩
    rw [Int.toNat_natCast] at hm2
    have HM2 := Lib.hid hm2
    have HG := Lib.hid hgl.lot
    have hl24 := hgl.len
    have hi : i < l.length := by omega
    clear hm2 hgl hin h2
    go_upto_region 5 with fail
    obtain ⟨wa, hwa⟩ : ∃ wa, wa = w1.alloc (.cells (zcells l.length) 3) := ⟨_, rfl⟩
    rw [← hwa]
    have h0 := Lib.hid (show RowI wa w1.heap.size (rowT (depV l) (depP l) l.length 0 0) ∧ Below w.heap.size w wa by
      rw [hwa, rowT_start (show depP l 0 0 = 0 by simp [depP])]
      exact ⟨RowI.zeros _ _, ib.out.alloc ib.out.size _⟩)
    have hgz := ib.out.size
    clear hwa ib hmk
    go_wp2
    go_loopw [8] (fun t wr => ∃ k : Nat, t = .int .i64 k ∧ k ≤ l.length ∧ Hid (RowI wr w1.heap.size (rowT (depV l) (depP l) l.length k 0) ∧ Below w.heap.size w wr)) (fun t _ => l.length - (intOf t).toNat)
    case atStart => exact ⟨0, rfl, by omega, h0⟩
    case round =>
      clear h0
      obtain ⟨k, rfl, hk, hr⟩ := hrel
      by_cases hlt : k < l.length
      · obtain ⟨b, o, rfl, hc⟩ := HL.out (by omega)
        have hkl := hlt
        obtain ⟨e1, e2, e3, e4, e5, A', c', e6, e8, e7⟩ := hc k hkl
        have hgd := HG.out k hkl
        have hpl := hgd.plen
        have hpt := hgd.part
        have hst := dep_step' hkl
        have hfu := dep_full HG.out (k := k)
        rw [getD_at' hkl] at hfu
        obtain ⟨ps, hps⟩ : ∃ ps, ps = l[k].parts := ⟨_, rfl⟩
        rw [← hps] at e6 e8 e7 hpl hpt hfu hst
        have HST := Lib.hid hst
        have HFU := Lib.hid hfu
        have HPT := Lib.hid hpt
        have HP := Lib.hid (show PartsIn w A' ps ∧ b < w.heap.size ∧ w.cell? ⟨b, o + k * 3 + 2, none⟩ = some (.slice A' ps.length c') from ⟨e7, e3, e6⟩)
        clear hc e1 e2 e3 e4 e5 e6 e7 hgd hpt hst hfu hps
        go_wp2
        go_loopw [9] (fun t wq => ∃ m : Nat, t = .int .i64 m ∧ m ≤ ps.length ∧ Hid (RowI wq w1.heap.size (rowT (depV l) (depP l) l.length k m) ∧ Below w.heap.size w wq)) (fun t _ => ps.length - (intOf t).toNat)
        case atStart => exact ⟨0, rfl, by omega, hr⟩
        case round =>
          clear hr
          obtain ⟨m, rfl, hmle, hq⟩ := hrel
          have e3 := Nat.lt_of_lt_of_le HP.out.2.1 hq.out.2.size
          have e6 := (hq.out.2.cell (p := ⟨b, o + k * 3 + 2, none⟩) HP.out.2.1).trans HP.out.2.2
          by_cases hml : m < ps.length
          · obtain ⟨b', o', rfl, hb', hcc⟩ := (HP.out.1.below hq.out.2).2 (by omega)
            obtain ⟨q0, q1⟩ := hcc m hml
            have hpg := HPT.out _ (List.getElem_mem hml)
            have hst := HST.out m _ (List.getElem?_eq_getElem hml)
            obtain ⟨p, hp⟩ : ∃ p, p = ps[m] := ⟨_, rfl⟩
            rw [← hp] at q0 q1 hpg hst
            obtain ⟨p1, p2⟩ := p
            simp only at q0 q1 hpg hst
            obtain ⟨a, rfl⟩ : ∃ a : Nat, p1 = a := ⟨p1.toNat, by omega⟩
            rw [Int.toNat_natCast] at hst
            have hak : a < k := by omega
            have hal : a < l.length := by omega
            have b1 := dep_bd HG.out a
            have b2 := depP_bd HG.out (k := k) (m := m)
            obtain ⟨x, hx⟩ : ∃ x, x = depP l k m := ⟨_, rfl⟩
            obtain ⟨y, hy⟩ : ∃ y, y = depV l a := ⟨_, rfl⟩
            rw [← hx, ← hy] at hst
            rw [← hx] at b2
            rw [← hy] at b1
            have HX := Lib.hid hx
            have HY := Lib.hid hy
            have HS := Lib.hid hst
            clear hcc hp hst hx hy
            have k1 := hq.out.1.get k (by rw [rowT_length]; exact hkl)
            have k2 := hq.out.1.get a (by rw [rowT_length]; exact hal)
            rw [rowT_at hkl, ← HX.out] at k1
            rw [rowT_lt hal hak, ← HY.out] at k2
            have k3 : wr.frozen? ⟨w1.heap.size, k, none⟩ = false := Row.free hq.out.1 k
            have k4 : w1.heap.size < wr.heap.size := Row.lt hq.out.1
            by_cases hxy : x < y + 1
            · have HS2 := Lib.hid (HS.out.trans (show max x (y + 1) = y + 1 by omega))
              have d1 : decide (x < y + 1) = true := decide_eq_true hxy
              clear hxy
              go_wp2
              go_roundw
              case rel => exact ⟨m + 1, by go_num, by omega, Lib.hid ⟨by rw [← rowT_set HS2.out]; exact hq.out.1.set k _, hq.out.2.setCell hgz _⟩⟩
              case measure => simp [intOf]; omega
            · have HS2 := Lib.hid (HS.out.trans (show max x (y + 1) = x by omega))
              have d1 : decide (x < y + 1) = false := decide_eq_false hxy
              clear hxy
              go_wp2
              go_roundw
              case rel => exact ⟨m + 1, by go_num, by omega, Lib.hid ⟨by rw [← rowT_same (HX.out.symm.trans HS2.out.symm)]; exact hq.out.1, hq.out.2⟩⟩
              case measure => simp [intOf]; omega
          · obtain rfl : m = ps.length := by omega
            have hq2 := Lib.hid (show RowI wr w1.heap.size (rowT (depV l) (depP l) l.length (k + 1) 0) ∧ Below w.heap.size w wr from ⟨(rowT_end HFU.out (show depP l (k + 1) 0 = 0 by simp [depP])) ▸ hq.out.1, hq.out.2⟩)
            clear hq
            go_wp2
            go_roundw
            case rel => exact ⟨k + 1, by go_num, by omega, hq2⟩
            case measure => simp [intOf]; omega
      · obtain rfl : k = l.length := by omega
        have q0 := hr.out.1.get i (by rw [rowT_length]; exact hi)
        rw [rowT_lt hi (by omega)] at q0
        have q2 := Row.lt hr.out.1
        go_wp2
        refine bodyPost_ret (v := .tuple #[.int .i64 (v), .int .i64 (z)]) (by simp only [results, Try.results28]; go_simp; exact Prod.mk.inj HM2.out) rfl ⟨rfl, ?_⟩
        exact hr.out.2
  · have hm2 := HM.out
    unfold depthE at hm2
    rw [if_pos (by rw [← HE.out]; exact hz), ← HE.out] at hm2
    have HM2 := Lib.hid hm2
    have d1 : (E == 0) = false := by rw [beq_eq_false_iff_ne]; exact hz
    have d2 : (E != 0) = true := by rw [bne_iff_ne]; exact hz
    clear hm2 hz
    go_wp2
    refine bodyPost_ret (v := .tuple #[.int .i64 (v), .int .i64 (z)]) (by simp only [results, Try.results28]; go_simp; exact Prod.mk.inj HM2.out) rfl ⟨rfl, ?_⟩
    exact ib.out
end Go.Proofs.Ytdgmpaijpjkeoaa
