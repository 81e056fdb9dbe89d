/-
  BOOKS: Postings of the program.
-/
import Derived.Test.YtaadelcmhbgpnaaGreatDoorPstA
import Derived.Test.YtaadelcmhbgpnaaGreatDoorBokY
import Derived.Test.YtaadelcmhbgpnaaGreatDoorBuiA
import Derived.Test.YtaadelcmhbgpnaaGreatDoorCopA
namespace Go.Proofs.YtaadelcmhbgpnaaGreatDoor
open Go.RowKit
open Go.Lib
/-- What Postings returns. -/
def OutPs (w : World) (X : List UInt8) (e : Ending) (w' : World) : Prop :=
  ∃ v, e = .returned (.tuple #[v, .int .i64 (postsV X).2]) ∧ OwnPo w' w.heap.size v (postsV X).1 ∧ Below w.heap.size w w'
theorem OutPs.of {w w' : World} {X : List UInt8} {e : Ending} {l : List Po} {z : Int} {v : Value} (h : postsV X = (l, z)) (he : e = .returned (.tuple #[v, .int .i64 z])) (ho : OwnPo w' w.heap.size v l) (hb : Below w.heap.size w w') : OutPs w X e w' :=
  ⟨v, by rw [h]; exact he, by rw [h]; exact ho, hb⟩
theorem OwnPo.grown {w w' : World} {B : Nat} {v : Value} {l : List Po} {row : Option Nat} (h : OwnPo w B v l) (hg : w.grownBy w' row) (hne : v.ownBlock = none ∨ v.ownBlock ≠ row) : OwnPo w' B v l := World.ownsRow.kept h hg hne
theorem OwnPo.down {w : World} {B B' : Nat} {v : Value} {l : List Po} (h : OwnPo w B v l) (hB : B' ≤ B) : OwnPo w B' v l := by
  refine ⟨h.1, ?_⟩
  rcases h.2 with h | ⟨g, cap, cur, e, h1, h2⟩
  · exact .inl h
  · exact .inr ⟨g, cap, cur, e, Nat.le_trans hB h1, h2⟩
set_option maxRecDepth 100000 in
set_option maxHeartbeats 4000000 in
theorem ppostings_any (s : ByteArray) (hs : s.size ≤ 1000000) (w : World) (hl : LibOK w) :
    Calls Tryz.prog 11 #[.string s] w (OutPs w s.data.toList) := by
  have HW := Lib.hid (pwhole_any s hs w hl)
  have HL := Lib.hid hl
  clear hl
  by_cases h0 : (readB 200 1 0 s.data.toList).2 = []
  rotate_left
  · have HV : Hid (postsV s.data.toList = ([], 15)) := Lib.hid (by unfold postsV; rw [if_pos h0])
    go_enter Tryz.func11, Tryz.ntmps11
    go_wp2_with fail
    refine HW.out.mono ?_
    rintro e w1 ⟨hb1, h⟩
    rcases h with ⟨h, rfl⟩ | ⟨h, v, rfl, hO⟩
    · clear HW h h0
      go_wp2
      go_ret2
      exact OutPs.of HV.out rfl (OwnPo.nil _ _) hb1
    · exact absurd h h0
  have h200 := read_200 s.data.toList
  have hrr := reads_rights s.data.toList
  obtain ⟨ts, hts⟩ : ∃ ts, ts = (readB 200 1 0 s.data.toList).1 := ⟨_, rfl⟩
  have HRD := Lib.hid (show readB 200 1 0 s.data.toList = (ts, []) by rw [hts, ← h0])
  have HV : Hid (postsV s.data.toList = match postL ts with | none => ([], 3) | some l => if 64 < l.length then ([], 4) else (l, 0)) := Lib.hid (by
    unfold postsV; rw [if_neg (fun h => h h0), ← hts]; cases postL ts <;> rfl)
  rw [← hts] at h200 hrr
  have HRR := Lib.hid hrr
  clear hts h0 hrr
  go_enter Tryz.func11, Tryz.ntmps11
  go_wp2_with fail
  refine HW.out.mono ?_
  rintro e w1 h
  obtain ⟨hb1, v1, rfl, hO1⟩ := whole_yes h HRD.out
  obtain ⟨A1, c1, rfl, hI1, -⟩ := hO1.parts
  rw [lnS_len]
  have HB1 := Lib.hid hb1
  have HI1 := Lib.hid hI1
  clear h hO1 hI1 hb1 HW
  go_upto_region 6 with fail
  go_loopw [6, 21] (fun v i wr => ∃ (k : Nat) (acc : List Po), i = .int .i64 k ∧ k ≤ ts.length ∧ acc.length ≤ k ∧ Hid (OwnPo wr w1.heap.size v acc) ∧ Hid (postL ts = (postL (ts.drop k)).map (acc ++ ·)) ∧ Hid (Below w1.heap.size w1 wr)) (fun _ i _ => ts.length - (RowKit.intOf i).toNat)
  case atStart => exact ⟨0, [], rfl, by omega, by simp, Lib.hid (OwnPo.nil _ _), Lib.hid (by simp), Lib.hid (Below.refl _ _)⟩
  case round =>
    obtain ⟨k, acc, rfl, hk, hacc, hO, hP, hB⟩ := hrel
    obtain ⟨A, c, rfl, -, -⟩ := hO.out.parts
    by_cases hlt : k < ts.length
    · have dl : decide ((k : Int) < (ts.length : Int)) = true := decide_eq_true (by omega)
      have hll := lnS_len ts 1 0
      obtain ⟨b, o, rfl, hb, hc⟩ := (HI1.out.below hB.out) (by omega)
      obtain ⟨q0, q1, q2⟩ := ln_at hlt hc
      have hrt := HRR.out ts[k] (List.getElem_mem hlt)
      have hsk := fun h => postL_skip (ts := ts) hlt h
      have hno := fun h h2 => postL_none (ts := ts) hlt h h2
      have hso := fun h x h2 => postL_some (ts := ts) hlt h (x := x) h2
      obtain ⟨t, ht⟩ : ∃ t, t = ts[k] := ⟨_, rfl⟩
      obtain ⟨y, hy⟩ : ∃ y, y = lineZ (1 + k) (endZ 1 0 (ts.take k)) ts[k] := ⟨_, rfl⟩
      obtain ⟨m, hm⟩ : ∃ m, m = 1 + k := ⟨_, rfl⟩
      rw [← hy] at q2
      rw [← ht] at q1 hrt hsk hno hso
      rw [← hm] at q0
      obtain ⟨T, hT⟩ : ∃ T : ByteArray, T = ⟨t.toArray⟩ := ⟨_, rfl⟩
      have hTl : T.data.toList = t := by rw [hT]
      rw [← hT] at q1
      rw [← hTl] at hrt hsk hno hso
      have hTs : T.size ≤ 80 := by rw [← lt_list]; exact (rightT_iff.1 hrt).2.1
      have hX := Box3.new wr (.int .i64 m) (.string T) (.int .i64 y) 33
      have hn := below_new wr (.cells #[.int .i64 m, .string T, .int .i64 y] 33)
      have HO1 := Lib.hid (hO.out.keep hn)
      have HB2 := Lib.hid (hB.out.trans (hn.mono hB.out.size))
      obtain ⟨u, hu⟩ : ∃ u, u = wr.alloc (.cells #[.int .i64 m, .string T, .int .i64 y] 33) := ⟨_, rfl⟩
      obtain ⟨g, hg⟩ : ∃ g, g = wr.heap.size := ⟨_, rfl⟩
      rw [← hu, ← hg] at hX
      rw [← hu] at HO1 HB2
      have hX' := hX
      have HU := Lib.hid hu
      have HG := Lib.hid hg
      have HSK := Lib.hid hsk
      have HNO := Lib.hid hno
      have HSO := Lib.hid hso
      have HHP := Lib.hid (Tryz.strings_HasPrefix T ⟨#[112, 111, 115, 116, 32]⟩ u)
      clear hll hc hrt hsk hno hso ht hy hm hT hTl hn hu hg
      go_wp2_with fail
      rw [← HU.out, ← HG.out]
      refine HHP.out.mono ?_
      rintro e w' ⟨rfl, rfl⟩
      clear q0 q1 q2 HHP hX
      obtain ⟨x0, x1, x2, x3, x4, x5, x6⟩ := hX'
      cases hip : isPost T.data.toList
      · have hpp : hasPrefix T.data.toList (⟨#[112, 111, 115, 116, 32]⟩ : ByteArray).data.toList = false := hip
        have HP2 := Lib.hid (show postL ts = (postL (ts.drop (k + 1))).map (acc ++ ·) by rw [← HSK.out hip]; exact hP.out)
        rw [hpp]
        clear hip hpp hP hB hO HSK HNO HSO
        go_wp2
        go_roundw
        case rel => exact ⟨k + 1, acc, by go_num, by omega, by omega, HO1, HP2, HB2⟩
        case measure => simp [RowKit.intOf]; omega
      · have hpp : hasPrefix T.data.toList (⟨#[112, 111, 115, 116, 32]⟩ : ByteArray).data.toList = true := hip
        rw [hpp]
        have HIP := Lib.hid hip
        have L2 := Lib.hid (HL.out.below (HB1.out.trans (HB2.out.mono HB1.out.size)))
        clear hip hpp
        go_wp2_with fail
        refine (pparse_any T (by omega) _ L2.out).mono ?_
        rintro e w2 ⟨x, z, rfl, hp, hb2⟩
        have HO2 := Lib.hid (HO1.out.keep hb2)
        have HB3 := Lib.hid (HB2.out.trans (hb2.mono HB2.out.size))
        obtain ⟨xd, xc, xp⟩ := x
        rcases parseP_of hp with ⟨rfl, hpp⟩ | ⟨rfl, -, hpp⟩
        rotate_left 1
        · have HV2 : Hid (postsV s.data.toList = ([], 3)) := Lib.hid (by rw [HV.out, hP.out, HNO.out HIP.out hpp]; rfl)
          clear hp hpp hb2 HO1 HO2 HB2 L2 hP hB hO HSK HNO HSO HIP x0 x1 x2 x3 x4 x5 x6
          go_wp2
          go_ret2
          exact OutPs.of HV2.out rfl (OwnPo.nil _ _) (by
            have h1 := HB1.out.trans (HB3.out.mono HB1.out.size)
            exact h1.alloc h1.size _)
        · have HP2 := Lib.hid (show postL ts = (postL (ts.drop (k + 1))).map ((acc ++ [⟨xd, xc, xp⟩]) ++ ·) by
            rw [hP.out, HSO.out HIP.out _ hpp, map_snoc])
          have hz3 := HB3.out.size
          have hn2 := below_new w2 (.cells #[.string xd, .string xc, .int .i64 xp] 65)
          have hY := Box3.new w2 (.string xd) (.string xc) (.int .i64 xp) 65
          have HO3 := Lib.hid (HO2.out.keep hn2)
          have HB4 := Lib.hid (HB3.out.trans (hn2.mono hz3))
          obtain ⟨u2', hu2⟩ : ∃ u, u = w2.alloc (.cells #[.string xd, .string xc, .int .i64 xp] 65) := ⟨_, rfl⟩
          obtain ⟨g2, hg2⟩ : ∃ g, g = w2.heap.size := ⟨_, rfl⟩
          rw [← hu2, ← hg2] at hY
          rw [← hu2] at HO3 HB4
          have hww : w1.heap.size ≤ u2'.heap.size := HB4.out.size
          have HU2 := Lib.hid hu2
          have HG2 := Lib.hid hg2
          obtain ⟨y0, y1, y2, y3, y4, y5, y6⟩ := hY
          have hacc2 : acc.length ≤ 1000000 := by omega
          clear hp hpp hb2 HO1 HO2 HB2 HB3 L2 hP hB hO HSK HNO HSO HIP x0 x1 x2 x3 x4 x5 x6 hn2 hu2 hg2 hz3
          go_upto_region 12 with fail
          rw [← HU2.out, ← HG2.out]
          go_wp2_with (at_builtin; refine append_post (.tmp 38) (.tmp 40) rfl rfl w1.heap.size _ acc ⟨xd, xc, xp⟩ u2' rfl rfl HO3.out rfl hacc2 hww ?_)
          intro v' w3 ho hgr hd
          have HB5 := Lib.hid (HB4.out.grown hgr hww (fun g hg => (HO3.out.lt g hg).1))
          have HO4 := Lib.hid ho
          clear ho hgr hd HO3 y0 y1 y2 y3 y4 y5 y6
          go_wp2
          go_roundw
          case rel => exact ⟨k + 1, acc ++ [⟨xd, xc, xp⟩], by go_num, by omega, by simp; omega, HO4, HP2, HB5⟩
          case measure => simp [RowKit.intOf]; omega
    · obtain rfl : k = ts.length := by omega
      have hpl : postL ts = some acc := by
        rw [hP.out, List.drop_of_length_le (Nat.le_refl _), postL]; simp
      have hv := HV.out
      rw [hpl] at hv
      simp only at hv
      have hBB := HB1.out.trans (hB.out.mono HB1.out.size)
      by_cases h64 : 64 < acc.length
      · rw [if_pos h64] at hv
        have HV2 := Lib.hid hv
        have d1 : decide ((64 : Int) < (acc.length : Int)) = true := decide_eq_true (by omega)
        clear hv hpl hP h64
        go_wp2
        go_ret2
        exact OutPs.of HV2.out rfl (OwnPo.nil _ _) hBB
      · rw [if_neg h64] at hv
        have HV2 := Lib.hid hv
        have d1 : decide ((64 : Int) < (acc.length : Int)) = false := decide_eq_false (by omega)
        clear hv hpl hP h64
        go_wp2
        go_ret2
        exact OutPs.of HV2.out rfl (hO.out.down HB1.out.size) hBB
end Go.Proofs.YtaadelcmhbgpnaaGreatDoor
