/-
  Paths, Depth (the program's).
-/
import Derived.Test.YtdgmpaijpjkeoaaPthM
import Derived.Deep.DeepCutAuto
namespace Go.Proofs.Ytdgmpaijpjkeoaa
open Go.RowKit
attribute [local go_sem] grow_cell grow_frozen
set_option maxRecDepth 100000 in
set_option maxHeartbeats 1000000 in
theorem lotPaths_any (l : List LotD) (hl : l.length ≤ 1000) (hps : ∀ x ∈ l, x.parts.length ≤ 1000) (of i v z : Int) (hm : pathsE l of i = (v, z)) (hof : -9223372036854775808 ≤ of) (kof : of ≤ 9223372036854775807) (hi : -9223372036854775808 ≤ i) (ki : i ≤ 9223372036854775807) (A : Option Addr) (c : Nat) (w : World) (hL : LotsIn w A l) :
    Calls Try.prog 25 #[.slice A l.length c, .int .i64 of, .int .i64 i] w fun e w' => e = .returned (.tuple #[.int .i64 v, .int .i64 z]) ∧ Below w.heap.size w w' := by
  have hmk := fun w => make_i64 l.length (by omega) w
  have HM := Lib.hid hm
  have HL := Lib.hid hL
  have HPS := Lib.hid hps
  clear hm hL hps
  go_enter Try.func25, Try.ntmps25
  go_wp2_with fail
  obtain ⟨W, hW⟩ : ∃ W, W = w.alloc (.cells #[.int .i64 of, .int .i64 i] 3) := ⟨_, rfl⟩
  rw [← hW]
  have hb := Lib.hid (show Below w.heap.size w W by rw [hW]; exact (by repeat' (first | (with_reducible exact Below.refl _ _) | (with_reducible assumption) | (with_reducible refine below_drewN ?_ _) | (with_reducible refine below_step (by assumption) ?_ ?_) | (with_reducible refine Below.alloc ?_ ?_ _) | (with_reducible refine Below.setCell ?_ ?_ _) | (with_reducible refine Below.drew ?_) | go_size | (exact Below.size (by assumption)) | (refine Nat.le_trans (Below.size (by assumption)) ?_))))
  have hI := Lib.hid (show IsL W (some ⟨w.heap.size, 0, none⟩) 2 [of, i] by rw [hW]; exact isL_two w of i _)
  clear hW
  obtain ⟨E, hE⟩ : ∃ E, E = chkE l [of, i] := ⟨_, rfl⟩
  have HE := Lib.hid hE
  clear hE
  refine (check_any l hl HPS.out A c _ 2 2 [of, i] W (HL.out.below hb.out) hI.out (by omega) (fun x hx => by simp at hx; rcases hx with rfl | rfl <;> exact ⟨by omega, by omega⟩)).mono ?_
  rw [← HE.out]
  rintro e w1 ⟨rfl, hb1⟩
  have ib := Lib.hid (hb.out.trans (hb1.mono hb.out.size))
  clear hb1 hI hb
  by_cases hz : E = 0
  · subst hz
    have hm2 := HM.out
    unfold pathsE at hm2
    rw [if_neg (by rw [← HE.out]; decide)] at hm2
    obtain ⟨hgl, hin⟩ := chk_zero HE.out.symm
    have h1 := hin of (by simp)
    have h2 := hin i (by simp)
    obtain ⟨of, rfl⟩ : ∃ n : Nat, of = n := ⟨of.toNat, by omega⟩
    obtain ⟨i, rfl⟩ : ∃ n : Nat, i = n := ⟨i.toNat, by omega⟩
    rw [Int.toNat_natCast, Int.toNat_natCast] at hm2
    have HM2 := Lib.hid hm2
    have HG := Lib.hid hgl.lot
    have hl24 := hgl.len
    have hi : i < l.length := by omega
    have hof : of < l.length := by omega
    clear hm2 hgl hin h1 h2
    go_upto_region 5 with fail
    obtain ⟨wa, hwa⟩ : ∃ wa, wa = w1.alloc (.cells (zcells l.length) 3) := ⟨_, rfl⟩
    rw [← hwa]
    have ha := Lib.hid (show RowI wa w1.heap.size (List.replicate l.length 0) ∧ Below w.heap.size w wa ∧ w.heap.size ≤ w1.heap.size by
      rw [hwa]
      exact ⟨RowI.zeros _ _, ib.out.alloc ib.out.size _, ib.out.size⟩)
    clear hwa ib
    have q0 := ha.out.1.get of (by simpa using hof)
    have q1 : wa.frozen? ⟨w1.heap.size, of, none⟩ = false := Row.free ha.out.1 of
    have q2 : w1.heap.size < wa.heap.size := Row.lt ha.out.1
    go_wp2
    obtain ⟨wb, hwb⟩ : ∃ wb, wb = wa.setCell ⟨w1.heap.size, of, none⟩ (.int .i64 1) := ⟨_, rfl⟩
    rw [← hwb]
    have h0 := Lib.hid (show RowI wb w1.heap.size (rowT (pathV l of) (pathP l of) l.length (of + 1) 0) ∧ Below w.heap.size w wb by
      rw [hwb, ← path_start HG.out hof]
      exact ⟨ha.out.1.set of 1, ha.out.2.1.setCell ha.out.2.2 _⟩)
    have hgz := ha.out.2.2
    clear hwb ha q0 q1 q2 hmk
    go_loopw [10] (fun t wr => ∃ k : Nat, t = .int .i64 k ∧ of < k ∧ k ≤ l.length ∧ Hid (RowI wr w1.heap.size (rowT (pathV l of) (pathP l of) l.length k 0) ∧ Below w.heap.size w wr)) (fun t _ => l.length - (intOf t).toNat)
    case atStart => exact ⟨of + 1, by go_num, by omega, by omega, h0⟩
    case round =>
      clear h0
      obtain ⟨k, rfl, hk0, hk, hr⟩ := hrel
      by_cases hlt : k ≤ i
      · obtain ⟨b, o, rfl, hc⟩ := HL.out (by omega)
        have hkl : k < l.length := by omega
        obtain ⟨e1, e2, e3, e4, e5, A', c', e6, e8, e7⟩ := hc k hkl
        replace e6 := (hr.out.2.cell (p := ⟨b, _, none⟩) e3).trans e6
        replace e3 := Nat.lt_of_lt_of_le e3 hr.out.2.size
        have hgd := HG.out k hkl
        have hpl := hgd.plen
        have hpt := hgd.part
        have hst := path_step' (of := of) hkl
        have hfu := path_full HG.out hk0
        rw [getD_at' hkl] at hfu
        obtain ⟨ps, hps⟩ : ∃ ps, ps = l[k].parts := ⟨_, rfl⟩
        rw [← hps] at e6 e8 e7 hpl hpt hfu hst
        have HST := Lib.hid hst
        have HFU := Lib.hid hfu
        have HPT := Lib.hid hpt
        clear hc e1 e2 e4 e5 hgd hpt hst hfu hps
        have HP := Lib.hid e7
        clear e7
        go_wp2
        go_loopw [40] (fun t wq => ∃ m : Nat, t = .int .i64 m ∧ m ≤ ps.length ∧ Hid (RowI wq w1.heap.size (rowT (pathV l of) (pathP l of) l.length k m) ∧ Below w.heap.size w wq)) (fun t _ => ps.length - (intOf t).toNat)
        case atStart => exact ⟨0, rfl, by omega, hr⟩
        case round =>
          clear hr
          obtain ⟨m, rfl, hmle, hq⟩ := hrel
          by_cases hml : m < ps.length
          · obtain ⟨b', o', rfl, hb', hcc⟩ := (HP.out.below hq.out.2).2 (by omega)
            obtain ⟨q0, q1⟩ := hcc m hml
            have hpg := HPT.out _ (List.getElem_mem hml)
            have hst := HST.out m _ (List.getElem?_eq_getElem hml)
            obtain ⟨p, hp⟩ : ∃ p, p = ps[m] := ⟨_, rfl⟩
            rw [← hp] at q0 q1 hpg hst
            obtain ⟨p1, p2⟩ := p
            simp only at q0 q1 hpg hst
            obtain ⟨a, rfl⟩ : ∃ a : Nat, p1 = a := ⟨p1.toNat, by omega⟩
            rw [Int.toNat_natCast] at hst
            have hak : a < k := by omega
            have hal : a < l.length := by omega
            have b1 := path_bd HG.out (of := of) (i := a) (by omega)
            have b2 := pathP_bd HG.out (of := of) (k := k) (m := m) (by omega)
            have b3 := pathP_bd HG.out (of := of) (k := k) (m := m + 1) (by omega)
            rw [hst] at b3
            obtain ⟨x, hx⟩ : ∃ x, x = pathP l of k m := ⟨_, rfl⟩
            obtain ⟨y, hy⟩ : ∃ y, y = pathV l of a := ⟨_, rfl⟩
            rw [← hx, ← hy] at hst b3
            rw [← hx] at b2
            rw [← hy] at b1
            have HX := Lib.hid hx
            have HY := Lib.hid hy
            have HS := Lib.hid hst
            clear hcc hp hst hx hy
            go_upto_region 12 with fail
            obtain ⟨wd, hwd⟩ : ∃ wd, wd = wr.alloc (.cells #[.int .i64 a, .int .i64 p2] 39) := ⟨_, rfl⟩
            rw [← hwd]
            have k0 : wd.cell? ⟨wr.heap.size, 0, none⟩ = some (.int .i64 a) := by rw [hwd]; simp
            have kz : wr.heap.size < wd.heap.size := by rw [hwd]; simp
            have hd := Lib.hid (show RowI wd w1.heap.size (rowT (pathV l of) (pathP l of) l.length k m) ∧ Below w.heap.size w wd by rw [hwd]; exact ⟨hq.out.1.alloc _, hq.out.2.alloc hq.out.2.size _⟩)
            have k1 := hd.out.1.get k (by rw [rowT_length]; exact hkl)
            have k2 := hd.out.1.get a (by rw [rowT_length]; exact hal)
            rw [rowT_at hkl, ← HX.out] at k1
            rw [rowT_lt hal hak, ← HY.out] at k2
            have k3 : wd.frozen? ⟨w1.heap.size, k, none⟩ = false := Row.free hd.out.1 k
            have k4 : w1.heap.size < wd.heap.size := Row.lt hd.out.1
            clear hwd q0 q1 hq hb'
            refine region_grow_tail 11 (by kernel_rfl) (by kernel_rfl) ?_
            simp only [List.take_succ_cons, List.take_zero, List.drop_succ_cons, List.drop_zero]
            repeat (go_big_quiet_step (fail))
            refine wpQuiet_nil ?_
            rintro w2 ⟨xg, hxg⟩
            have hb2 := below_grow wd xg
            rw [← hxg] at hb2
            clear hxg xg
            have h2d := Lib.hid (show RowI w2 w1.heap.size (rowT (pathV l of) (pathP l of) l.length k m) ∧ Below w.heap.size w w2 from ⟨hd.out.1.keep hb2, hd.out.2.trans (hb2.mono hd.out.2.size)⟩)
            have k5 := h2d.out.1.get k (by rw [rowT_length]; exact hkl)
            have k6 : w2.frozen? ⟨w1.heap.size, k, none⟩ = false := Row.free h2d.out.1 k
            have k7 : w1.heap.size < w2.heap.size := Row.lt h2d.out.1
            clear k0 k1 k2 k3 k4 kz hb2
            go_wp2
            go_roundw
            case rel => exact ⟨m + 1, by go_num, by omega, Lib.hid ⟨by rw [← rowT_set HS.out]; exact h2d.out.1.set k _, h2d.out.2.setCell hgz _⟩⟩
            case measure => simp [intOf]; omega
          · obtain rfl : m = ps.length := by omega
            have hq2 := Lib.hid (show RowI wr w1.heap.size (rowT (pathV l of) (pathP l of) l.length (k + 1) 0) ∧ Below w.heap.size w wr from ⟨(rowT_end HFU.out (show pathP l of (k + 1) 0 = 0 by simp [pathP])) ▸ hq.out.1, hq.out.2⟩)
            clear hq
            go_wp2
            go_roundw
            case rel => exact ⟨k + 1, by go_num, by omega, by omega, hq2⟩
            case measure => simp [intOf]; omega
      · have q0 := hr.out.1.get i (by rw [rowT_length]; exact hi)
        rw [rowT_lt hi (by omega)] at q0
        have q2 := Row.lt hr.out.1
        go_wp2
        refine bodyPost_ret (v := .tuple #[.int .i64 (v), .int .i64 (z)]) (by simp only [results, Try.results25]; go_simp; exact Prod.mk.inj HM2.out) rfl ⟨rfl, ?_⟩
        exact hr.out.2
  · have hm2 := HM.out
    unfold pathsE at hm2
    rw [if_pos (by rw [← HE.out]; exact hz), ← HE.out] at hm2
    have HM2 := Lib.hid hm2
    have d1 : (E == 0) = false := by rw [beq_eq_false_iff_ne]; exact hz
    have d2 : (E != 0) = true := by rw [bne_iff_ne]; exact hz
    clear hm2 hz
    go_wp2
    refine bodyPost_ret (v := .tuple #[.int .i64 (v), .int .i64 (z)]) (by simp only [results, Try.results25]; go_simp; exact Prod.mk.inj HM2.out) rfl ⟨rfl, ?_⟩
    exact ib.out
set_option maxRecDepth 100000 in
set_option maxHeartbeats 1000000 in
theorem lotDepth_any (l : List LotD) (hl : l.length ≤ 1000) (hps : ∀ x ∈ l, x.parts.length ≤ 1000) (i v z : Int) (hm : depthE l i = (v, z)) (hi : -9223372036854775808 ≤ i) (ki : i ≤ 9223372036854775807) (A : Option Addr) (c : Nat) (w : World) (hL : LotsIn w A l) :
    Calls Try.prog 27 #[.slice A l.length c, .int .i64 i] w fun e w' => e = .returned (.tuple #[.int .i64 v, .int .i64 z]) ∧ Below w.heap.size w w' := by
  have hmk := fun w => make_i64 l.length (by omega) w
  have HM := Lib.hid hm
  have HL := Lib.hid hL
  have HPS := Lib.hid hps
  clear hm hL hps
  go_enter Try.func27, Try.ntmps27
  go_wp2_with fail
  obtain ⟨W, hW⟩ : ∃ W, W = w.alloc (.cells #[.int .i64 i] 3) := ⟨_, rfl⟩
  rw [← hW]
  have hb := Lib.hid (show Below w.heap.size w W by rw [hW]; exact (by repeat' (first | (with_reducible exact Below.refl _ _) | (with_reducible assumption) | (with_reducible refine below_drewN ?_ _) | (with_reducible refine below_step (by assumption) ?_ ?_) | (with_reducible refine Below.alloc ?_ ?_ _) | (with_reducible refine Below.setCell ?_ ?_ _) | (with_reducible refine Below.drew ?_) | go_size | (exact Below.size (by assumption)) | (refine Nat.le_trans (Below.size (by assumption)) ?_))))
  have hI := Lib.hid (show IsL W (some ⟨w.heap.size, 0, none⟩) 1 [i] by rw [hW]; exact isL_one w i _)
  clear hW
  obtain ⟨E, hE⟩ : ∃ E, E = chkE l [i] := ⟨_, rfl⟩
  have HE := Lib.hid hE
  clear hE
  refine (check_any l hl HPS.out A c _ 1 1 [i] W (HL.out.below hb.out) hI.out (by omega) (fun x hx => by simp at hx; subst hx; exact ⟨by omega, by omega⟩)).mono ?_
  rw [← HE.out]
  rintro e w1 ⟨rfl, hb1⟩
  have ib := Lib.hid (hb.out.trans (hb1.mono hb.out.size))
  clear hb1 hI hb
  by_cases hz : E = 0
  · subst hz
    have hm2 := HM.out
    unfold depthE at hm2
    rw [if_neg (by rw [← HE.out]; decide)] at hm2
    obtain ⟨hgl, hin⟩ := chk_zero HE.out.symm
    have h2 := hin i (by simp)
    obtain ⟨i, rfl⟩ : ∃ n : Nat, i = n := ⟨i.toNat, by omega⟩
    rw [Int.toNat_natCast] at hm2
    have HM2 := Lib.hid hm2
    have HG := Lib.hid hgl.lot
    have hl24 := hgl.len
    have hi : i < l.length := by omega
    clear hm2 hgl hin h2
    go_upto_region 5 with fail
    obtain ⟨wa, hwa⟩ : ∃ wa, wa = w1.alloc (.cells (zcells l.length) 3) := ⟨_, rfl⟩
    rw [← hwa]
    have h0 := Lib.hid (show RowI wa w1.heap.size (rowT (depV l) (depP l) l.length 0 0) ∧ Below w.heap.size w wa by
      rw [hwa, rowT_start (show depP l 0 0 = 0 by simp [depP])]
      exact ⟨RowI.zeros _ _, ib.out.alloc ib.out.size _⟩)
    have hgz := ib.out.size
    clear hwa ib hmk
    go_wp2
    go_loopw [24] (fun t wr => ∃ k : Nat, t = .int .i64 k ∧ k ≤ l.length ∧ Hid (RowI wr w1.heap.size (rowT (depV l) (depP l) l.length k 0) ∧ Below w.heap.size w wr)) (fun t _ => l.length - (intOf t).toNat)
    case atStart => exact ⟨0, rfl, by omega, h0⟩
    case round =>
      clear h0
      obtain ⟨k, rfl, hk, hr⟩ := hrel
      by_cases hlt : k < l.length
      · obtain ⟨b, o, rfl, hc⟩ := HL.out (by omega)
        have hkl := hlt
        obtain ⟨e1, e2, e3, e4, e5, A', c', e6, e8, e7⟩ := hc k hkl
        replace e4 := (hr.out.2.cell (p := ⟨b, _, none⟩) e3).trans e4
        replace e5 := (hr.out.2.cell (p := ⟨b, _, none⟩) e3).trans e5
        replace e6 := (hr.out.2.cell (p := ⟨b, _, none⟩) e3).trans e6
        replace e3 := Nat.lt_of_lt_of_le e3 hr.out.2.size
        have hgd := HG.out k hkl
        have hpl := hgd.plen
        have hpt := hgd.part
        have hst := dep_step' hkl
        have hfu := dep_full HG.out (k := k)
        rw [getD_at' hkl] at hfu
        obtain ⟨ps, hps⟩ : ∃ ps, ps = l[k].parts := ⟨_, rfl⟩
        rw [← hps] at e6 e8 e7 hpl hpt hfu hst
        have HST := Lib.hid hst
        have HFU := Lib.hid hfu
        have HPT := Lib.hid hpt
        obtain ⟨kd, hkd⟩ : ∃ kd, kd = l[k].kind := ⟨_, rfl⟩
        obtain ⟨ms, hms⟩ : ∃ ms, ms = l[k].mass := ⟨_, rfl⟩
        rw [← hkd] at e4
        rw [← hms] at e5
        clear hc e1 e2 hgd hpt hst hfu hps hkd hms
        have HP := Lib.hid e7
        clear e7
        go_upto_region 8 with fail
        obtain ⟨wb, hwb⟩ : ∃ wb, wb = wr.alloc (.cells #[.int .i64 kd, .int .i64 ms, .slice A' ps.length c'] 37) := ⟨_, rfl⟩
        rw [← hwb]
        have r2 : wb.cell? ⟨wr.heap.size, 2, none⟩ = some (.slice A' ps.length c') := by rw [hwb]; simp
        have hrb := Lib.hid (show RowI wb w1.heap.size (rowT (depV l) (depP l) l.length k 0) ∧ Below w.heap.size w wb by rw [hwb]; exact ⟨hr.out.1.alloc _, hr.out.2.alloc hr.out.2.size _⟩)
        clear hwb e3 e4 e5 e6 hr
        go_wp2
        go_loopw [32] (fun t wq => ∃ m : Nat, t = .int .i64 m ∧ m ≤ ps.length ∧ Hid (RowI wq w1.heap.size (rowT (depV l) (depP l) l.length k m) ∧ Below w.heap.size w wq)) (fun t _ => ps.length - (intOf t).toNat)
        case atStart => exact ⟨0, rfl, by omega, hrb⟩
        case round =>
          clear hrb r2
          obtain ⟨m, rfl, hmle, hq⟩ := hrel
          by_cases hml : m < ps.length
          · obtain ⟨b', o', rfl, hb', hcc⟩ := (HP.out.below hq.out.2).2 (by omega)
            obtain ⟨q0, q1⟩ := hcc m hml
            have hpg := HPT.out _ (List.getElem_mem hml)
            have hst := HST.out m _ (List.getElem?_eq_getElem hml)
            obtain ⟨p, hp⟩ : ∃ p, p = ps[m] := ⟨_, rfl⟩
            rw [← hp] at q0 q1 hpg hst
            obtain ⟨p1, p2⟩ := p
            simp only at q0 q1 hpg hst
            obtain ⟨a, rfl⟩ : ∃ a : Nat, p1 = a := ⟨p1.toNat, by omega⟩
            rw [Int.toNat_natCast] at hst
            have hak : a < k := by omega
            have hal : a < l.length := by omega
            have b1 := dep_bd HG.out a
            have b2 := depP_bd HG.out (k := k) (m := m)
            obtain ⟨x, hx⟩ : ∃ x, x = depP l k m := ⟨_, rfl⟩
            obtain ⟨y, hy⟩ : ∃ y, y = depV l a := ⟨_, rfl⟩
            rw [← hx, ← hy] at hst
            rw [← hx] at b2
            rw [← hy] at b1
            have HX := Lib.hid hx
            have HY := Lib.hid hy
            have HS := Lib.hid hst
            clear hcc hp hst hx hy
            go_upto_region 11 with fail
            obtain ⟨wd, hwd⟩ : ∃ wd, wd = wr.alloc (.cells #[.int .i64 a, .int .i64 p2] 39) := ⟨_, rfl⟩
            rw [← hwd]
            have k0 : wd.cell? ⟨wr.heap.size, 0, none⟩ = some (.int .i64 a) := by rw [hwd]; simp
            have kz : wr.heap.size < wd.heap.size := by rw [hwd]; simp
            have hd := Lib.hid (show RowI wd w1.heap.size (rowT (depV l) (depP l) l.length k m) ∧ Below w.heap.size w wd by rw [hwd]; exact ⟨hq.out.1.alloc _, hq.out.2.alloc hq.out.2.size _⟩)
            have k1 := hd.out.1.get k (by rw [rowT_length]; exact hkl)
            have k2 := hd.out.1.get a (by rw [rowT_length]; exact hal)
            rw [rowT_at hkl, ← HX.out] at k1
            rw [rowT_lt hal hak, ← HY.out] at k2
            have k3 : wd.frozen? ⟨w1.heap.size, k, none⟩ = false := Row.free hd.out.1 k
            have k4 : w1.heap.size < wd.heap.size := Row.lt hd.out.1
            clear hwd q0 q1 hq hb'
            refine region_grow_tail 14 (by kernel_rfl) (by kernel_rfl) ?_
            simp only [List.take_succ_cons, List.take_zero, List.drop_succ_cons, List.drop_zero]
            repeat (go_big_quiet_step (fail))
            refine wpQuiet_nil ?_
            rintro w2 ⟨xg, hxg⟩
            have hb2 := below_grow wd xg
            rw [← hxg] at hb2
            clear hxg xg
            have h2d := Lib.hid (show RowI w2 w1.heap.size (rowT (depV l) (depP l) l.length k m) ∧ Below w.heap.size w w2 from ⟨hd.out.1.keep hb2, hd.out.2.trans (hb2.mono hd.out.2.size)⟩)
            have k5 := h2d.out.1.get k (by rw [rowT_length]; exact hkl)
            have k6 : w2.frozen? ⟨w1.heap.size, k, none⟩ = false := Row.free h2d.out.1 k
            have k7 : w1.heap.size < w2.heap.size := Row.lt h2d.out.1
            clear k0 k1 k2 k3 k4 kz hb2
            go_wp2
            go_roundw
            case rel => exact ⟨m + 1, by go_num, by omega, Lib.hid ⟨by rw [← rowT_set HS.out]; exact h2d.out.1.set k _, h2d.out.2.setCell hgz _⟩⟩
            case measure => simp [intOf]; omega
          · obtain rfl : m = ps.length := by omega
            have hq2 := Lib.hid (show RowI wr w1.heap.size (rowT (depV l) (depP l) l.length (k + 1) 0) ∧ Below w.heap.size w wr from ⟨(rowT_end HFU.out (show depP l (k + 1) 0 = 0 by simp [depP])) ▸ hq.out.1, hq.out.2⟩)
            clear hq
            go_wp2
            go_roundw
            case rel => exact ⟨k + 1, by go_num, by omega, hq2⟩
            case measure => simp [intOf]; omega
      · obtain rfl : k = l.length := by omega
        have q0 := hr.out.1.get i (by rw [rowT_length]; exact hi)
        rw [rowT_lt hi (by omega)] at q0
        have q2 := Row.lt hr.out.1
        go_wp2
        refine bodyPost_ret (v := .tuple #[.int .i64 (v), .int .i64 (z)]) (by simp only [results, Try.results27]; go_simp; exact Prod.mk.inj HM2.out) rfl ⟨rfl, ?_⟩
        exact hr.out.2
  · have hm2 := HM.out
    unfold depthE at hm2
    rw [if_pos (by rw [← HE.out]; exact hz), ← HE.out] at hm2
    have HM2 := Lib.hid hm2
    have d1 : (E == 0) = false := by rw [beq_eq_false_iff_ne]; exact hz
    have d2 : (E != 0) = true := by rw [bne_iff_ne]; exact hz
    clear hm2 hz
    go_wp2
    refine bodyPost_ret (v := .tuple #[.int .i64 (v), .int .i64 (z)]) (by simp only [results, Try.results27]; go_simp; exact Prod.mk.inj HM2.out) rfl ⟨rfl, ?_⟩
    exact ib.out
end Go.Proofs.Ytdgmpaijpjkeoaa
