/-
  THE REFERENCE: Recolor.
-/
import Derived.Test.YtgmokojdlbdjeaaGreatDoorPrfH
namespace Go.Proofs.YtgmokojdlbdjeaaGreatDoor
open Go.RowKit
attribute [local go_sem] sub_cell sub_frozen
attribute [local irreducible] RP.plainUpon RP.stepC
theorem rleast_q (q : PatD) (hW : PatW q) (A : Option Addr) (cap : Nat) (w : World) (hi : PatIn w q A) :
    Calls Tryz.prog 57 #[.agg #[.int .i64 q.a, .int .i64 q.b, .int .i64 q.c, .slice A q.xs.length cap]] w fun e w' => ∃ v, e = .returned (.agg #[.int .i64 (lst (colF q)).a, .int .i64 (lst (colF q)).b, .int .i64 (lst (colF q)).c, v]) ∧ OwnI w' w.heap.size v (lst (colF q)).xs ∧ Below w.heap.size w w' := by
  obtain ⟨h1, h2⟩ := hW.base.lst
  have := rleast_any q hW _ _ _ h1 A cap w hi
  rw [← h2] at this
  exact this
def recL (cs xs : List Int) : List Int := xs.map fun x => cs.getD x.toNat 0
theorem recL_col {a b c : Int} {xs cs : List Int} (h : PatOK ⟨a, b, c, xs⟩) : colF ⟨a, b, c, recL cs xs⟩ = recF cs (colF ⟨a, b, c, xs⟩) := by
  funext x y
  obtain ⟨h1, h2, h3, h4⟩ := home_bd (b := b) (x := x) (y := y) h.a0 h.c0
  simp only at h1 h2 h3 h4
  obtain ⟨g5, g6⟩ := cell_bd h1 h2 h3 h4
  have hl := h.len
  simp only at hl
  unfold recF colF recL
  simp only
  have hk : (y % c * a + homeX a b c x y).toNat < xs.length := by omega
  generalize (y % c * a + homeX a b c x y).toNat = k at hk
  simp [List.getD, hk]
theorem recL_step {cs xs : List Int} {i : Nat} (h : i < xs.length) : (recL cs (xs.take i) ++ xs.drop i).set i (cs.getD (xs.getD i 0).toNat 0) = recL cs (xs.take (i + 1)) ++ xs.drop (i + 1) := by
  have hl : (recL cs (xs.take i)).length = i := by unfold recL; simp; omega
  rw [List.set_append_right _ _ (by omega), hl, Nat.sub_self, List.drop_eq_getElem_cons h, List.set_cons_zero, List.take_succ_eq_append_getElem h]
  unfold recL
  rw [List.map_append, List.append_assoc]
  congr 1
  simp [List.getD, h]
theorem recL_len (cs xs : List Int) : (recL cs xs).length = xs.length := by unfold recL; simp
set_option maxRecDepth 100000 in
set_option maxHeartbeats 2000000 in
theorem rrecolor_any (p : PatD) (hl : p.xs.length ≤ 1000000) (cs : List Int) (A : Option Addr) (cap : Nat) (A2 : Option Addr) (c2 : Nat) (w : World) (hi : PatIn w p A) (hcs : IsL w A2 cs.length cs) :
    Calls Tryz.prog 28 #[.agg #[.int .i64 p.a, .int .i64 p.b, .int .i64 p.c, .slice A p.xs.length cap], .slice A2 cs.length c2] w (OutP w (recT p cs) (.int .i64 (recZ p cs))) := by
  obtain ⟨T, hT⟩ : ∃ T, T = recT p cs := ⟨_, rfl⟩
  obtain ⟨Z, hZ⟩ : ∃ Z, Z = recZ p cs := ⟨_, rfl⟩
  obtain ⟨E, hE⟩ : ∃ E, E = valP p := ⟨_, rfl⟩
  rw [← hT, ← hZ]
  unfold recT at hT
  rw [← hZ] at hT
  have HZ := Lib.hid hZ
  unfold recZ at hZ
  rw [← hE] at hZ
  have HZU := Lib.hid hZ
  have HV := Lib.hid (fun w hi => rvalidateP_any p hl E hE.symm A cap w hi)
  have HCP := Lib.hid (fun w hi => copyP_any p (by omega) A cap w hi)
  have HT := Lib.hid hT
  have HE := Lib.hid hE
  have HI := Lib.hid (And.intro hi hcs)
  obtain ⟨n, hn⟩ : ∃ n, n = cs.length := ⟨_, rfl⟩
  have HN := Lib.hid hn
  rw [← hn] at HZU ⊢
  clear hi hT hE hZ hcs hn
  go_enter Tryz.func28, Tryz.ntmps28
  go_wp2_with fail
  obtain ⟨a0, a1, a2, a3⟩ := al2 w (.cells #[.int .i64 p.a, .int .i64 p.b, .int .i64 p.c, .slice A p.xs.length cap] 24) (.cells #[.int .i64 0, .int .i64 0, .int .i64 0, .slice none 0 0] 24)
  obtain ⟨V, hV⟩ : ∃ V, V = (w.alloc (.cells #[.int .i64 p.a, .int .i64 p.b, .int .i64 p.c, .slice A p.xs.length cap] 24)).alloc (.cells #[.int .i64 0, .int .i64 0, .int .i64 0, .slice none 0 0] 24) := ⟨_, rfl⟩
  rw [← hV] at a0 a1 a2 a3 ⊢
  refine (HV.out V (HI.out.1.below a3)).mono ?_
  rintro e w1 ⟨rfl, hb1⟩
  have H1 := Lib.hid (show PBox w1 w.heap.size p.a p.b p.c (.slice A p.xs.length cap) ∧ PBox w1 (w.heap.size + 1) 0 0 0 (.slice none 0 0) ∧ Below w.heap.size w w1 from
    ⟨PBox.keep (w := V) a1 hb1, PBox.keep (w := V) a2 hb1, a3.trans (hb1.mono a3.size)⟩)
  clear hV a0 a1 a2 a3 HV hb1 V
  by_cases hz : E = 0
  · subst hz
    have hZ := HZU.out
    rw [if_neg (by simp)] at hZ
    by_cases h8 : n = 8
    · have HZ8 := Lib.hid (show Z = if cs.any badC = true then 1 else 0 by
        rw [hZ]
        by_cases hb : cs.any badC = true
        · rw [if_pos (.inr hb), if_pos hb]
        · rw [if_neg (fun h => h.elim (fun h => h h8) hb), if_neg hb])
      have hN8 : (8 : Nat) = cs.length := by rw [← HN.out]; exact h8.symm
      subst h8
      obtain ⟨bc, oc, rfl, hbc, hcc⟩ := HI.out.2.2 (by omega)
      have HCC := Lib.hid (show ∀ i, i < 8 → w1.cell? ⟨bc, oc + i, none⟩ = some (.int .i64 (cs.getD i 0)) from fun i hi => (H1.out.2.2.cell (p := ⟨bc, oc + i, none⟩) hbc).trans (hcc i (by omega)))
      have R0 := Lib.hid (show (cs.take 0).any badC = false ∧ Below w1.heap.size w1 w1 from ⟨by simp, Below.refl _ _⟩)
      have hw1 : w.heap.size ≤ w1.heap.size := H1.out.2.2.size
      have HN8 := Lib.hid hN8
      clear hZ HZU hcc HN hN8
      obtain ⟨q0, q1, q2, q3, q4⟩ := H1.out.1.cells
      obtain ⟨r0, r1, r2, r3, r4⟩ := PBox.cells H1.out.2.1
      have f0 : (w1).frozen? ⟨w.heap.size + 1, 0, none⟩ = false := frozen_of_row (w1) (w.heap.size + 1) 0 _ _ H1.out.2.1
      have f1 : (w1).frozen? ⟨w.heap.size + 1, 1, none⟩ = false := frozen_of_row (w1) (w.heap.size + 1) 1 _ _ H1.out.2.1
      have f2 : (w1).frozen? ⟨w.heap.size + 1, 2, none⟩ = false := frozen_of_row (w1) (w.heap.size + 1) 2 _ _ H1.out.2.1
      have f3 : (w1).frozen? ⟨w.heap.size + 1, 3, none⟩ = false := frozen_of_row (w1) (w.heap.size + 1) 3 _ _ H1.out.2.1
      go_wp2
      go_loopw [7] (fun t wr => ∃ i : Nat, t = .int .i64 i ∧ i ≤ 8 ∧ Hid ((cs.take i).any badC = false ∧ Below w1.heap.size w1 wr)) (fun t _ => 8 - (intOf t).toNat)
      case atStart => exact ⟨0, rfl, by omega, R0⟩
      case round =>
        clear R0
        obtain ⟨i, rfl, hi, hr⟩ := hrel
        have hbw := hr.out.2
        have HBW := Lib.hid hbw
        clear q0 q1 q2 q3 q4 r0 r1 r2 r3 r4 f0 f1 f2 f3
        obtain ⟨r0, r1, r2, r3, r4⟩ := PBox.cells (H1.out.2.1.keep hbw)
        have f0 : (wr).frozen? ⟨w.heap.size + 1, 0, none⟩ = false := frozen_of_row (wr) (w.heap.size + 1) 0 _ _ (H1.out.2.1.keep hbw)
        have f1 : (wr).frozen? ⟨w.heap.size + 1, 1, none⟩ = false := frozen_of_row (wr) (w.heap.size + 1) 1 _ _ (H1.out.2.1.keep hbw)
        have f2 : (wr).frozen? ⟨w.heap.size + 1, 2, none⟩ = false := frozen_of_row (wr) (w.heap.size + 1) 2 _ _ (H1.out.2.1.keep hbw)
        have f3 : (wr).frozen? ⟨w.heap.size + 1, 3, none⟩ = false := frozen_of_row (wr) (w.heap.size + 1) 3 _ _ (H1.out.2.1.keep hbw)
        by_cases hlt : i < 8
        · have y1 := (hbw.cell (p := ⟨bc, oc + i, none⟩) (Nat.lt_of_lt_of_le hbc hw1)).trans (HCC.out i hlt)
          obtain ⟨z, hz⟩ : ∃ z, z = cs.getD i 0 := ⟨_, rfl⟩
          rw [← hz] at y1
          have hil : i < cs.length := by rw [← HN8.out]; exact hlt
          have htk : (cs.take (i + 1)).any badC = badC z := by
            rw [pany_take cs badC hil, hr.out.1, hz, pgetD_at hil]; rfl
          have hwi := fun w => pwithin_any z 0 7 (!badC z) (badC_within z) w
          have hbad : badC z = true → cs.any badC = true := fun h => pany_hit cs badC hil (by rw [pgetD_at hil, ← hz]; exact h)
          obtain ⟨t, ht⟩ : ∃ t, t = badC z := ⟨_, rfl⟩
          rw [← ht] at hwi htk hbad
          have HWI := Lib.hid hwi
          have HTK := Lib.hid htk
          have HBD := Lib.hid hbad
          have hi8 : (i : Int) < 8 := by omega
          clear hz ht hr hwi htk hbad hbw
          cases t with
          | true =>
            have hZ1 := HZ8.out
            rw [if_pos (HBD.out rfl)] at hZ1
            subst hZ1
            have HT2 := Lib.hid (show T = zeroP by rw [HT.out, if_pos (by decide)])
            have HP := Lib.hid (put_zero (H1.out.2.1.keep HBW.out) (H1.out.2.2.trans (HBW.out.mono hw1)) (by omega))
            clear HT HE HZ HZ8 H1 HTK HBD HBW
            go_wp2_with fail
            refine (HWI.out _).mono ?_
            rintro e w2 ⟨rfl, rfl⟩
            go_wp2
            refine bodyPost_ret (v := .tuple #[.agg #[.int .i64 0, .int .i64 0, .int .i64 0, .slice none 0 0], .int .i64 1]) (ret_pat2 rfl rfl rfl HP.out.1) rfl ?_
            rw [HT2.out]
            exact OutP.zero HP.out.2
          | false =>
            have R2 := Lib.hid (And.intro HTK.out HBW.out)
            clear HTK HBD HBW
            go_wp2_with fail
            refine (HWI.out _).mono ?_
            rintro e w2 ⟨rfl, rfl⟩
            go_wp2
            go_roundw
            case rel => exact ⟨i + 1, by go_num, by omega, R2⟩
            case measure => simp [intOf]; omega
        · obtain rfl : 8 = i := by omega
          have hall : cs.any badC = false := by
            have := hr.out.1
            rwa [HN8.out, List.take_length] at this
          have hZ1 := HZ8.out
          rw [hall, if_neg (by simp)] at hZ1
          subst hZ1
          have hT := HT.out
          rw [if_neg (by simp)] at hT
          obtain ⟨hv, hlen, hcol⟩ := recZ_zero HZ.out.symm
          have hg := valP_zero hv
          have HTT := Lib.hid hT
          have HG := Lib.hid (And.intro hg hcol)
          have HB := Lib.hid hbw
          clear hT hv hlen hcol hg hall HZ8 HZ HT HE hr r0 r1 r2 r3 r4 f0 f1 f2 f3 hlt
          obtain ⟨q0, q1, q2, q3, q4⟩ := (H1.out.1.keep hbw).cells
          clear hbw
          obtain ⟨wm, hwm⟩ : ∃ wm, wm = wr := ⟨_, rfl⟩
          subst hwm
          go_wp2_with fail
          refine (HCP.out wm (HI.out.1.below (H1.out.2.2.trans (HB.out.mono hw1)))).mono ?_
          rintro e w3 ⟨v, rfl, hown, hb3⟩
          have hB3 : Below w.heap.size w wm := H1.out.2.2.trans (HB.out.mono hw1)
          obtain ⟨hg, hcol⟩ := HG.out
          have hL0 : 0 < p.xs.length := by have := hg.len; have := Int.mul_pos hg.a0 hg.c0; omega
          obtain ⟨g, k3, rfl⟩ := own_some hown hL0
          obtain ⟨hrow, -, hgB⟩ := Row.of_own hown
          obtain ⟨L, hL⟩ : ∃ L, L = p.xs.length := ⟨_, rfl⟩
          have hb4 := below_new w3 (.cells #[.int .i64 p.a, .int .i64 p.b, .int .i64 p.c, .slice (some ⟨g, 0, none⟩) L k3] 24)
          have hob : PBox (w3.alloc (.cells #[.int .i64 p.a, .int .i64 p.b, .int .i64 p.c, .slice (some ⟨g, 0, none⟩) L k3] 24)) w3.heap.size p.a p.b p.c (.slice (some ⟨g, 0, none⟩) L k3) := PBox.new w3 _ _ _ _
          rw [← hL] at hown ⊢
          have HLL := Lib.hid hL
          clear hL
          go_wp2
          obtain ⟨W4, hW4⟩ : ∃ W4, W4 = w3.alloc (.cells #[.int .i64 p.a, .int .i64 p.b, .int .i64 p.c, .slice (some ⟨g, 0, none⟩) L k3] 24) := ⟨_, rfl⟩
          rw [← hW4] at hb4 hob ⊢
          have hg3 : g < w3.heap.size := hrow.lt
          obtain ⟨ob, hobe⟩ : ∃ ob, ob = w3.heap.size := ⟨_, rfl⟩
          rw [← hobe] at hob ⊢
          have hb34 : Below wm.heap.size wm W4 := hb3.trans (hb4.mono hb3.size)
          have H4 := Lib.hid (show PBox W4 ob p.a p.b p.c (.slice (some ⟨g, 0, none⟩) L k3) ∧ PBox W4 (w.heap.size + 1) 0 0 0 (.slice none 0 0) ∧ Below wm.heap.size wm W4 from ⟨hob, (H1.out.2.1.keep HB.out).keep hb34, hb34⟩)
          have hrow4 : RowI W4 g p.xs := Row.keep hb4 hrow
          have R0 := Lib.hid (show W4.grownBy W4 (some g) ∧ RowI W4 g (recL cs (p.xs.take 0) ++ p.xs.drop 0) from ⟨grown_of (Below.refl _ _) _, by simpa [recL] using hrow4⟩)
          have HL := Lib.hid (And.intro HLL.out (And.intro hg (And.intro hcol hB3)))
          have hgo : g ≠ ob := by omega
          have hL6 : L ≤ 1000000 := by rw [HLL.out]; exact hl
          have hbcg : bc < wm.heap.size := Nat.lt_of_lt_of_le hbc hB3.size
          have hrbg : w.heap.size + 1 < wm.heap.size := (Array.getElem?_eq_some_iff.1 (H1.out.2.1.keep HB.out)).1
          clear hW4 hb4 hob hb34 hrow4 hrow hown hb3 hg hcol hg3 hobe hL0 HLL q0 q1 q2 q3 q4
          go_loopw [9] (fun t wr => ∃ i : Nat, t = .int .i64 i ∧ i ≤ L ∧ Hid (W4.grownBy wr (some g) ∧ RowI wr g (recL cs (p.xs.take i) ++ p.xs.drop i))) (fun t _ => L - (intOf t).toNat)
          case atStart => exact ⟨0, rfl, by omega, R0⟩
          case round =>
            clear R0
            obtain ⟨i, rfl, hi, hr⟩ := hrel
            obtain ⟨q0, q1, q2, q3, q4⟩ := PBox.cells ((hr.out.1.block ob (Array.getElem?_eq_some_iff.1 H4.out.1).1 (fun e => hgo (by cases e; rfl))).trans H4.out.1)
            by_cases hlt : i < L
            · obtain ⟨hL, hg, hcol, hB3⟩ := HL.out
              have hix : i < p.xs.length := by omega
              have hxl := hg.col (p.xs.getD i 0) (pgetD_mem hix)
              obtain ⟨k, hk⟩ : ∃ k : Nat, p.xs.getD i 0 = k := ⟨(p.xs.getD i 0).toNat, by omega⟩
              have hk8 : k < 8 := by omega
              have hli : (recL cs (p.xs.take i) ++ p.xs.drop i).length = L := by rw [List.length_append, recL_len, List.length_take, List.length_drop]; omega
              have y0 := hr.out.2.get i (by omega)
              have hlc : (recL cs (p.xs.take i)).length = i := by rw [recL_len, List.length_take]; omega
              have e0 : (recL cs (p.xs.take i) ++ p.xs.drop i).getD i 0 = p.xs.getD i 0 := by
                rw [List.getD, List.getElem?_append_right (by omega), hlc, Nat.sub_self, List.getElem?_drop]
                rfl
              rw [e0, hk] at y0
              have hbw4 : Below wm.heap.size wm W4 := H4.out.2.2
              have y1 : wr.cell? ⟨bc, oc + k, none⟩ = some (.int .i64 (cs.getD k 0)) :=
                (World.cell?_of_block (a := ⟨bc, oc + k, none⟩) (hr.out.1.block bc (Nat.lt_of_lt_of_le hbcg hbw4.size) (fun e => by cases e; omega))).trans ((hbw4.cell (p := ⟨bc, oc + k, none⟩) hbcg).trans ((HB.out.cell (p := ⟨bc, oc + k, none⟩) (Nat.lt_of_lt_of_le hbc hw1)).trans (HCC.out k hk8)))
              have y2 : wr.frozen? ⟨g, i, none⟩ = false := hr.out.2.free i
              have hgq : g < wr.heap.size := hr.out.2.lt
              have hbq : bc < wr.heap.size := Nat.lt_of_lt_of_le (Nat.lt_of_lt_of_le hbcg hbw4.size) hr.out.1.size
              have hstep := recL_step (cs := cs) hix
              rw [hk, Int.toNat_natCast] at hstep
              have hset := hr.out.2.set i (cs.getD k 0)
              rw [hstep] at hset
              obtain ⟨z, hz⟩ : ∃ z, z = cs.getD k 0 := ⟨_, rfl⟩
              rw [← hz] at y1 hset
              have hgr := hr.out.1
              have R2 := Lib.hid (show W4.grownBy ((wr.drew).setCell ⟨g, i, none⟩ (.int .i64 z)) (some g) ∧ RowI ((wr.drew).setCell ⟨g, i, none⟩ (.int .i64 z)) g (recL cs (p.xs.take (i + 1)) ++ p.xs.drop (i + 1)) from
                ⟨set_grown wr.drew g i (.int .i64 z) (fun h => grown_then (grown_then hgr (grown_of (Below.refl _ wr).drew _)) h), hset⟩)
              have HLT := Lib.hid hlt
              have hz0 : (i : Int) < L := by omega
              clear hL hg hcol hB3 hix hxl hk hli hlc e0 hbw4 hstep hset hgr hz hr
              go_upto_region 15 with fail
              refine RP.region_treeP (C := fun w' => ∃ x : SubW wr.heap.size wr, w' = x.val) (fun _ _ _ => False) [0, 1, 2, 3, 4, 5, 6, 7, 8, 9, 10, 11] .nil 12 (fun _ _ _ h => h.elim) (by kernel_rfl) (by kernel_rfl) (sub_start _ wr) ?_
              simp only [pickL, List.getElem?_cons_zero, List.getElem?_cons_succ]
              repeat (go_big_quiet_step (fail))
              refine wpQuiet_nil ?_
              simp only [RP.treeS, atOp, List.getElem?_cons_zero, List.getElem?_cons_succ]
              obtain ⟨w5, hw5⟩ : ∃ w5 : World, w5 = { wr with drawn := wr.drawn + 1 } := ⟨_, rfl⟩
              rw [← hw5]
              have hc5 : ∃ x : SubW wr.heap.size wr, w5 = x.val := sub_of (by rw [hw5]; exact (Below.refl _ wr).drew)
              rw [show wr.drew = w5 from hw5.symm] at R2
              have z0 : w5.cell? ⟨g, i, none⟩ = some (.int .i64 k) := by rw [hw5]; exact y0
              have z2 : w5.frozen? ⟨g, i, none⟩ = false := by rw [hw5]; exact y2
              clear hw5 y0 y1 y2 q0 q1 q2 q3 q4
              refine ⟨hc5, ?_⟩
              refine RP.p_skip (w5.setCell ⟨g, i, none⟩ (.int .i64 z)) rfl (by go_simp) ?_
              obtain ⟨w6, hw6⟩ : ∃ w6, w6 = w5.setCell ⟨g, i, none⟩ (.int .i64 z) := ⟨_, rfl⟩
              rw [← hw6] at R2 ⊢
              clear hw6 z0 z2 hc5
              go_simp
              go_wp2
              go_roundw
              case rel => exact ⟨i + 1, by go_num, HLT.out, R2⟩
              case measure => have := HLT.out; simp [intOf]; omega
            · obtain rfl : L = i := by omega
              have hL := HL.out.1
              have hrow := hr.out.2
              rw [hL, List.take_length, List.drop_length, List.append_nil] at hrow
              obtain ⟨-, hg, -, hB3⟩ := HL.out
              have hok := hg.ok
              have hW : PatW ⟨p.a, p.b, p.c, recL cs p.xs⟩ := by
                obtain ⟨g1, g2, g3, g4, g5, g6, g7⟩ := hok
                exact ⟨g1, by simp only; omega, g3, by simp only; omega, g5, by simp only; omega, by simp only; rw [recL_len]; exact g7, by simp only; rw [recL_len]; omega⟩
              have hre := rleast_q ⟨p.a, p.b, p.c, recL cs p.xs⟩ hW (some ⟨g, 0, none⟩) k3 wr (RowI.isL hrow)
              rw [recL_col (xs := p.xs) hok, ← HTT.out] at hre
              simp only at hre
              rw [recL_len, ← hL] at hre
              have HRE := Lib.hid hre
              have hbB : Below w.heap.size w wr := (hB3.trans (H4.out.2.2.mono hB3.size)).grown hr.out.1 (Nat.le_trans hB3.size H4.out.2.2.size) (fun g' e => by cases e; have := hB3.size; omega)
              have HBB := Lib.hid hbB
              have hres : PBox wr (w.heap.size + 1) 0 0 0 (.slice none 0 0) := (hr.out.1.block (w.heap.size + 1) (Nat.lt_of_lt_of_le hrbg H4.out.2.2.size) (fun e => by cases e; omega)).trans H4.out.2.1
              have HRS := Lib.hid hres
              clear hL hrow hg hB3 hok hW hre hbB hres hr
              go_wp2_with fail
              refine HRE.out.mono ?_
              rintro e w5 ⟨v5, rfl, ho5, hb5⟩
              obtain ⟨A5, n5, rfl, -⟩ := ho5.isL
              have hr5 := HRS.out.keep hb5
              have HP := Lib.hid (put_ret hr5 (HBB.out.trans (hb5.mono HBB.out.size)) (by omega) T _ ho5 HBB.out.size (Array.getElem?_eq_some_iff.1 HRS.out).1)
              obtain ⟨r0, r1, r2, r3, r4⟩ := PBox.cells hr5
              have f0 : (w5).frozen? ⟨w.heap.size + 1, 0, none⟩ = false := frozen_of_row (w5) (w.heap.size + 1) 0 _ _ hr5
              have f1 : (w5).frozen? ⟨w.heap.size + 1, 1, none⟩ = false := frozen_of_row (w5) (w.heap.size + 1) 1 _ _ hr5
              have f2 : (w5).frozen? ⟨w.heap.size + 1, 2, none⟩ = false := frozen_of_row (w5) (w.heap.size + 1) 2 _ _ hr5
              have f3 : (w5).frozen? ⟨w.heap.size + 1, 3, none⟩ = false := frozen_of_row (w5) (w.heap.size + 1) 3 _ _ hr5
              clear ho5 hb5 hr5 HRE HRS HBB q0 q1 q2 q3 q4
              go_wp2
              refine bodyPost_ret (v := .tuple #[.agg #[.int .i64 T.a, .int .i64 T.b, .int .i64 T.c, .slice A5 T.xs.length n5], .int .i64 0]) (ret_pat2 rfl rfl rfl HP.out.1) rfl ?_
              exact ⟨_, rfl, HP.out.2⟩
    · have d8 : ((n : Int) != 8) = true := by rw [bne_iff_ne]; omega
      have d9 : ((n : Int) == 8) = false := by rw [beq_eq_false_iff_ne]; omega
      rw [if_pos (.inl h8)] at hZ
      subst hZ
      have HT2 := Lib.hid (show T = zeroP by rw [HT.out, if_pos (by decide)])
      have HP := Lib.hid (put_zero H1.out.2.1 H1.out.2.2 (by omega))
      obtain ⟨r0, r1, r2, r3, r4⟩ := PBox.cells H1.out.2.1
      have f0 : (w1).frozen? ⟨w.heap.size + 1, 0, none⟩ = false := frozen_of_row (w1) (w.heap.size + 1) 0 _ _ H1.out.2.1
      have f1 : (w1).frozen? ⟨w.heap.size + 1, 1, none⟩ = false := frozen_of_row (w1) (w.heap.size + 1) 1 _ _ H1.out.2.1
      have f2 : (w1).frozen? ⟨w.heap.size + 1, 2, none⟩ = false := frozen_of_row (w1) (w.heap.size + 1) 2 _ _ H1.out.2.1
      have f3 : (w1).frozen? ⟨w.heap.size + 1, 3, none⟩ = false := frozen_of_row (w1) (w.heap.size + 1) 3 _ _ H1.out.2.1
      clear h8 HT HE H1 HZ HZU HCP
      go_wp2
      refine bodyPost_ret (v := .tuple #[.agg #[.int .i64 0, .int .i64 0, .int .i64 0, .slice none 0 0], .int .i64 1]) (ret_pat2 rfl rfl rfl HP.out.1) rfl ?_
      rw [HT2.out]
      exact OutP.zero HP.out.2
  · have hZ := HZU.out
    rw [if_pos hz] at hZ
    subst hZ
    have d1 : (Z == 0) = false := by rw [beq_eq_false_iff_ne]; exact hz
    have d2 : (Z != 0) = true := by rw [bne_iff_ne]; exact hz
    have HT2 := Lib.hid (show T = zeroP by rw [HT.out, if_pos hz])
    have HP := Lib.hid (put_zero H1.out.2.1 H1.out.2.2 (by omega))
    obtain ⟨r0, r1, r2, r3, r4⟩ := PBox.cells H1.out.2.1
    have f0 : (w1).frozen? ⟨w.heap.size + 1, 0, none⟩ = false := frozen_of_row (w1) (w.heap.size + 1) 0 _ _ H1.out.2.1
    have f1 : (w1).frozen? ⟨w.heap.size + 1, 1, none⟩ = false := frozen_of_row (w1) (w.heap.size + 1) 1 _ _ H1.out.2.1
    have f2 : (w1).frozen? ⟨w.heap.size + 1, 2, none⟩ = false := frozen_of_row (w1) (w.heap.size + 1) 2 _ _ H1.out.2.1
    have f3 : (w1).frozen? ⟨w.heap.size + 1, 3, none⟩ = false := frozen_of_row (w1) (w.heap.size + 1) 3 _ _ H1.out.2.1
    clear hz HT HE H1 HZ HZU
    go_wp2
    refine bodyPost_ret (v := .tuple #[.agg #[.int .i64 0, .int .i64 0, .int .i64 0, .slice none 0 0], .int .i64 Z]) (ret_pat2 rfl rfl rfl HP.out.1) rfl ?_
    rw [HT2.out]
    exact OutP.zero HP.out.2
end Go.Proofs.YtgmokojdlbdjeaaGreatDoor
