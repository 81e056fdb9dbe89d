/-
  BOOKS: the postings of a book's lines: PLAIN; lists of postings that may be appended to.
-/
import Derived.Test.YtaadelcmhbgpnaaGreatDoorBokX
import Derived.Test.YtaadelcmhbgpnaaGreatDoorBolA
import Derived.Test.YtaadelcmhbgpnaaGreatDoorBokY
import Derived.Test.YtaadelcmhbgpnaaGreatDoorBuiB
import Derived.Test.YtaadelcmhbgpnaaGreatDoorCopB
namespace Go.Proofs.YtaadelcmhbgpnaaGreatDoor
open Go.RowKit
open Go.Lib
/-- What a text is read as. -/
noncomputable def parseP (t : List UInt8) : Option Po := open Classical in if h : ∃ y, valPo [y] = 0 ∧ postT y = t then some h.choose else none
theorem parseP_of {t : List UInt8} {x : Po} {z : Int} (h : PrsP t x z) : (z = 0 ∧ parseP t = some x) ∨ (z = 3 ∧ x = noPo ∧ parseP t = none) := by
  rcases h with ⟨rfl, h1, h2⟩ | ⟨rfl, rfl, h3⟩
  · refine .inl ⟨rfl, ?_⟩
    have he : ∃ y, valPo [y] = 0 ∧ postT y = t := ⟨x, h1, h2⟩
    unfold parseP
    rw [dif_pos he]
    have := he.choose_spec
    rw [postT_inj this.1 h1 (this.2.trans h2.symm)]
  · refine .inr ⟨rfl, rfl, ?_⟩
    unfold parseP
    rw [dif_neg]
    rintro ⟨y, h1, h2⟩
    exact h3 y h1 h2
def isPost (t : List UInt8) : Bool := hasPrefix t [112, 111, 115, 116, 32]
noncomputable def postL : List (List UInt8) → Option (List Po)
  | [] => some []
  | t :: ts => if isPost t = true then (match parseP t with
    | none => none
    | some x => (postL ts).map (x :: ·)) else postL ts
theorem postL_skip {ts : List (List UInt8)} {k : Nat} (h : k < ts.length) (hp : isPost ts[k] = false) : postL (ts.drop k) = postL (ts.drop (k + 1)) := by
  rw [List.drop_eq_getElem_cons h, postL, if_neg (by rw [hp]; simp)]
theorem postL_none {ts : List (List UInt8)} {k : Nat} (h : k < ts.length) (hp : isPost ts[k] = true) (hn : parseP ts[k] = none) : postL (ts.drop k) = none := by
  rw [List.drop_eq_getElem_cons h, postL, if_pos hp, hn]
theorem postL_some {ts : List (List UInt8)} {k : Nat} (h : k < ts.length) (hp : isPost ts[k] = true) {x : Po} (hn : parseP ts[k] = some x) : postL (ts.drop k) = (postL (ts.drop (k + 1))).map (x :: ·) := by
  rw [List.drop_eq_getElem_cons h, postL, if_pos hp, hn]
theorem map_snoc {o : Option (List Po)} {l : List Po} {x : Po} : (o.map (x :: ·)).map (l ++ ·) = o.map ((l ++ [x]) ++ ·) := by
  cases o <;> simp
/-- What Postings returns. -/
noncomputable def postsV (X : List UInt8) : List Po × Int :=
  if (readB 200 1 0 X).2 ≠ [] then ([], 15)
  else match postL (readB 200 1 0 X).1 with
    | none => ([], 3)
    | some l => if 64 < l.length then ([], 4) else (l, 0)
/-- The slice value v holds postings in memory from block B on, and may be appended to. -/
def OwnPo (w : World) (B : Nat) (v : Value) (l : List Po) : Prop := w.ownsRow B 65 3 v l.length (flatP l)
theorem OwnPo.nil (w : World) (B : Nat) : OwnPo w B (.slice none 0 0) [] := World.ownsRow_nil _ _ _ _
theorem OwnPo.keep {w w' : World} {B : Nat} {v : Value} {l : List Po} (hb : Below w.heap.size w w') (h : OwnPo w B v l) : OwnPo w' B v l :=
  World.ownsRow.kept h (row := none) ⟨hb.os, hb.tape, hb.output, hb.size, fun k hk _ => hb.block k hk⟩ (by cases v.ownBlock <;> simp)
theorem OwnPo.lt {w : World} {B : Nat} {v : Value} {l : List Po} (h : OwnPo w B v l) : ∀ g, v.ownBlock = some g → B ≤ g ∧ g < w.heap.size := World.ownsRow.lt h
theorem OwnPo.parts {w : World} {B : Nat} {v : Value} {l : List Po} (h : OwnPo w B v l) : ∃ A c, v = .slice A l.length c ∧ IsPo w A l ∧ l.length ≤ c := by
  rcases h.2 with ⟨hv, h0⟩ | ⟨g, cap, cur, hv, hB, hg, hn, -, hs, ht⟩
  · exact ⟨none, 0, by rw [hv, h0], fun hp => by omega, by omega⟩
  · subst hv
    have hr := (Row.of_own h).1
    refine ⟨some ⟨g, 0, none⟩, cap, rfl, fun _ => ⟨g, 0, rfl, hr.lt, fun k hk => ?_⟩, hn⟩
    obtain ⟨h1, h2, h3⟩ := flatP_at l k hk
    have hl := flatP_len l
    have q1 := hr.get (k * 3) (by omega)
    have q2 := hr.get (k * 3 + 1) (by omega)
    have q3 := hr.get (k * 3 + 2) (by omega)
    rw [List.getElem?_eq_getElem (by omega)] at h1 h2 h3
    simp only [Nat.zero_add]
    exact ⟨q1.trans h1, q2.trans h2, q3.trans h3⟩
theorem poInfo : (Tryz.prog.info? 65).map (fun i => (i.zero, i.size, i.bytes)) = some (some (.agg #[.string ByteArray.empty, .string ByteArray.empty, .int .i64 0]), 3, 40) := by kernel_rfl
/-- append(s, x) of one posting. -/
theorem append_post {w : World} {ops : Array Oper} {rest : List Oper} {o : Oper} {a : Act} {Q : Exit → Act → World → Prop} (s x : Operand)
    (ho : o.op = .call { callee := .builtin .append, args := #[s, x], argTypes := #[26, 26] }) (hgd : o.guard = none)
    (B : Nat) (v : Value) (l : List Po) (p : Po) (W : World) (hW : w = W.alloc (.cells #[.string p.d, .string p.c, .int .i64 p.p] 65)) (hs : a.eval s = v) (hown : OwnPo W B v l) (hx : a.eval x = .slice (some ⟨W.heap.size, 0, none⟩) 1 1)
    (hn : l.length ≤ 1000000) (hB : B ≤ W.heap.size)
    (h : ∀ v' w', OwnPo w' B v' (l ++ [p]) → W.grownBy w' v.ownBlock → (v'.ownBlock = v.ownBlock ∨ v'.ownBlock = some (W.heap.size + 1)) → wpList Tryz.prog ops Q rest (a.put o.dst v') w') : wpList Tryz.prog ops Q (o :: rest) a w := by
  subst hW
  obtain ⟨i0, hi, hz0, hz1, hz2⟩ := info_parts poInfo
  refine wpList_append_lies (P := Tryz.prog) (w := W.alloc (.cells #[.string p.d, .string p.c, .int .i64 p.p] 65)) hgd s x 26 ho B 65 i0 (.agg #[.string ByteArray.empty, .string ByteArray.empty, .int .i64 0]) 3 40 Tryz.underlying26 hi hz0 hz1 hz2 rfl (by decide) v l.length _ hs (World.ownsRow.alloc hown _) ⟨W.heap.size, 0, none⟩ 1 1 [.string p.d, .string p.c, .int .i64 p.p] hx rfl
    (by intro j u hu; match j, hu with | 0, hu => simp at hu; subst hu; simp [Addr.add] | 1, hu => simp at hu; subst hu; simp [Addr.add] | 2, hu => simp at hu; subst hu; simp [Addr.add]) (by intro u hu; simp at hu; rcases hu with rfl | rfl | rfl <;> rfl) (by omega) (by unfold maxLen; omega) (by omega) (by simp; omega) (W.heap.size + 1) (by simp) ?_
  intro g cap w' h1 h2 h3 h4
  refine h _ w' ?_ ?_ ?_
  · unfold OwnPo
    rw [List.length_append, flatP_app]
    exact h1
  · exact ⟨h2.os, h2.tape, h2.output, by have := h2.size; simp at this; omega, fun k hk hne => (h2.block k (by simp; omega) hne).trans (heap_alloc_old W _ hk)⟩
  · rcases h3 with h3 | h3
    · exact .inl h3.symm
    · subst h3; exact .inr rfl
end Go.Proofs.YtaadelcmhbgpnaaGreatDoor
/-
  BOOKS: Postings of the program.
-/
namespace Go.Proofs.YtaadelcmhbgpnaaGreatDoor
open Go.RowKit
open Go.Lib
/-- What Postings returns. -/
def OutPs (w : World) (X : List UInt8) (e : Ending) (w' : World) : Prop :=
  ∃ v, e = .returned (.tuple #[v, .int .i64 (postsV X).2]) ∧ OwnPo w' w.heap.size v (postsV X).1 ∧ Below w.heap.size w w'
theorem OutPs.of {w w' : World} {X : List UInt8} {e : Ending} {l : List Po} {z : Int} {v : Value} (h : postsV X = (l, z)) (he : e = .returned (.tuple #[v, .int .i64 z])) (ho : OwnPo w' w.heap.size v l) (hb : Below w.heap.size w w') : OutPs w X e w' :=
  ⟨v, by rw [h]; exact he, by rw [h]; exact ho, hb⟩
theorem OwnPo.grown {w w' : World} {B : Nat} {v : Value} {l : List Po} {row : Option Nat} (h : OwnPo w B v l) (hg : w.grownBy w' row) (hne : v.ownBlock = none ∨ v.ownBlock ≠ row) : OwnPo w' B v l := World.ownsRow.kept h hg hne
theorem OwnPo.down {w : World} {B B' : Nat} {v : Value} {l : List Po} (h : OwnPo w B v l) (hB : B' ≤ B) : OwnPo w B' v l := by
  refine ⟨h.1, ?_⟩
  rcases h.2 with h | ⟨g, cap, cur, e, h1, h2⟩
  · exact .inl h
  · exact .inr ⟨g, cap, cur, e, Nat.le_trans hB h1, h2⟩
set_option maxRecDepth 100000 in
set_option maxHeartbeats 4000000 in
theorem ppostings_any (s : ByteArray) (hs : s.size ≤ 1000000) (w : World) (hl : LibOK w) :
    Calls Tryz.prog 11 #[.string s] w (OutPs w s.data.toList) := by
  have HW := Lib.hid (pwhole_any s hs w hl)
  have HL := Lib.hid hl
  clear hl
  by_cases h0 : (readB 200 1 0 s.data.toList).2 = []
  rotate_left
  · have HV : Hid (postsV s.data.toList = ([], 15)) := Lib.hid (by unfold postsV; rw [if_pos h0])
    go_enter Tryz.func11, Tryz.ntmps11
    go_wp2_with fail
    refine HW.out.mono ?_
    rintro e w1 ⟨hb1, h⟩
    rcases h with ⟨h, rfl⟩ | ⟨h, v, rfl, hO⟩
    · clear HW h h0
      go_wp2
      go_ret2
      exact OutPs.of HV.out rfl (OwnPo.nil _ _) hb1
    · exact absurd h h0
  have h200 := read_200 s.data.toList
  have hrr := reads_rights s.data.toList
  obtain ⟨ts, hts⟩ : ∃ ts, ts = (readB 200 1 0 s.data.toList).1 := ⟨_, rfl⟩
  have HRD := Lib.hid (show readB 200 1 0 s.data.toList = (ts, []) by rw [hts, ← h0])
  have HV : Hid (postsV s.data.toList = match postL ts with | none => ([], 3) | some l => if 64 < l.length then ([], 4) else (l, 0)) := Lib.hid (by
    unfold postsV; rw [if_neg (fun h => h h0), ← hts] <;> (cases postL ts <;> rfl))
  rw [← hts] at h200 hrr
  have HRR := Lib.hid hrr
  clear hts h0 hrr
  go_enter Tryz.func11, Tryz.ntmps11
  go_wp2_with fail
  refine HW.out.mono ?_
  rintro e w1 h
  obtain ⟨hb1, v1, rfl, hO1⟩ := whole_yes h HRD.out
  obtain ⟨A1, c1, rfl, hI1, -⟩ := hO1.parts
  rw [lnS_len]
  have HB1 := Lib.hid hb1
  have HI1 := Lib.hid hI1
  clear h hO1 hI1 hb1 HW
  go_upto_region 6 with fail
  go_loopw [6, 21] (fun v i wr => ∃ (k : Nat) (acc : List Po), i = .int .i64 k ∧ k ≤ ts.length ∧ acc.length ≤ k ∧ Hid (OwnPo wr w1.heap.size v acc) ∧ Hid (postL ts = (postL (ts.drop k)).map (acc ++ ·)) ∧ Hid (Below w1.heap.size w1 wr)) (fun _ i _ => ts.length - (RowKit.intOf i).toNat)
  case atStart => exact ⟨0, [], rfl, by omega, by simp, Lib.hid (OwnPo.nil _ _), Lib.hid (by simp), Lib.hid (Below.refl _ _)⟩
  case round =>
    obtain ⟨k, acc, rfl, hk, hacc, hO, hP, hB⟩ := hrel
    obtain ⟨A, c, rfl, -, -⟩ := hO.out.parts
    by_cases hlt : k < ts.length
    · have dl : decide ((k : Int) < (ts.length : Int)) = true := decide_eq_true (by omega)
      have hll := lnS_len ts 1 0
      obtain ⟨b, o, rfl, hb, hc⟩ := (HI1.out.below hB.out) (by omega)
      obtain ⟨q0, q1, q2⟩ := ln_at hlt hc
      have hrt := HRR.out ts[k] (List.getElem_mem hlt)
      have hsk := fun h => postL_skip (ts := ts) hlt h
      have hno := fun h h2 => postL_none (ts := ts) hlt h h2
      have hso := fun h x h2 => postL_some (ts := ts) hlt h (x := x) h2
      obtain ⟨t, ht⟩ : ∃ t, t = ts[k] := ⟨_, rfl⟩
      obtain ⟨y, hy⟩ : ∃ y, y = lineZ (1 + k) (endZ 1 0 (ts.take k)) ts[k] := ⟨_, rfl⟩
      obtain ⟨m, hm⟩ : ∃ m, m = 1 + k := ⟨_, rfl⟩
      rw [← hy] at q2
      rw [← ht] at q1 hrt hsk hno hso
      rw [← hm] at q0
      obtain ⟨T, hT⟩ : ∃ T : ByteArray, T = ⟨t.toArray⟩ := ⟨_, rfl⟩
      have hTl : T.data.toList = t := by rw [hT]
      rw [← hT] at q1
      rw [← hTl] at hrt hsk hno hso
      have hTs : T.size ≤ 80 := by rw [← lt_list]; exact (rightT_iff.1 hrt).2.1
      have hX := Box3.new wr (.int .i64 m) (.string T) (.int .i64 y) 33
      have hn := below_new wr (.cells #[.int .i64 m, .string T, .int .i64 y] 33)
      have HO1 := Lib.hid (hO.out.keep hn)
      have HB2 := Lib.hid (hB.out.trans (hn.mono hB.out.size))
      obtain ⟨u, hu⟩ : ∃ u, u = wr.alloc (.cells #[.int .i64 m, .string T, .int .i64 y] 33) := ⟨_, rfl⟩
      obtain ⟨g, hg⟩ : ∃ g, g = wr.heap.size := ⟨_, rfl⟩
      rw [← hu, ← hg] at hX
      rw [← hu] at HO1 HB2
      have hX' := hX
      have HU := Lib.hid hu
      have HG := Lib.hid hg
      have HSK := Lib.hid hsk
      have HNO := Lib.hid hno
      have HSO := Lib.hid hso
      have HHP := Lib.hid (Tryz.strings_HasPrefix T ⟨#[112, 111, 115, 116, 32]⟩ u)
      clear hll hc hrt hsk hno hso ht hy hm hT hTl hn hu hg
      go_wp2_with fail
      rw [← HU.out, ← HG.out]
      refine HHP.out.mono ?_
      rintro e w' ⟨rfl, rfl⟩
      clear q0 q1 q2 HHP hX
      obtain ⟨x0, x1, x2, x3, x4, x5, x6⟩ := hX'
      cases hip : isPost T.data.toList
      · have hpp : hasPrefix T.data.toList (⟨#[112, 111, 115, 116, 32]⟩ : ByteArray).data.toList = false := hip
        have HP2 := Lib.hid (show postL ts = (postL (ts.drop (k + 1))).map (acc ++ ·) by rw [← HSK.out hip]; exact hP.out)
        rw [hpp]
        clear hip hpp hP hB hO HSK HNO HSO
        go_wp2
        go_roundw
        case rel => exact ⟨k + 1, acc, by go_num, by omega, by omega, HO1, HP2, HB2⟩
        case measure => simp [RowKit.intOf]; omega
      · have hpp : hasPrefix T.data.toList (⟨#[112, 111, 115, 116, 32]⟩ : ByteArray).data.toList = true := hip
        rw [hpp]
        have HIP := Lib.hid hip
        have L2 := Lib.hid (HL.out.below (HB1.out.trans (HB2.out.mono HB1.out.size)))
        clear hip hpp
        go_wp2_with fail
        refine (pparse_any T (by omega) _ L2.out).mono ?_
        rintro e w2 ⟨x, z, rfl, hp, hb2⟩
        have HO2 := Lib.hid (HO1.out.keep hb2)
        have HB3 := Lib.hid (HB2.out.trans (hb2.mono HB2.out.size))
        obtain ⟨xd, xc, xp⟩ := x
        rcases parseP_of hp with ⟨rfl, hpp⟩ | ⟨rfl, -, hpp⟩
        rotate_left 1
        · have HV2 : Hid (postsV s.data.toList = ([], 3)) := Lib.hid (by rw [HV.out, hP.out, HNO.out HIP.out hpp]; rfl)
          clear hp hpp hb2 HO1 HO2 HB2 L2 hP hB hO HSK HNO HSO HIP x0 x1 x2 x3 x4 x5 x6
          go_wp2
          go_ret2
          exact OutPs.of HV2.out rfl (OwnPo.nil _ _) (by
            have h1 := HB1.out.trans (HB3.out.mono HB1.out.size)
            exact h1.alloc h1.size _)
        · have HP2 := Lib.hid (show postL ts = (postL (ts.drop (k + 1))).map ((acc ++ [⟨xd, xc, xp⟩]) ++ ·) by
            rw [hP.out, HSO.out HIP.out _ hpp, map_snoc])
          have hz3 := HB3.out.size
          have hn2 := below_new w2 (.cells #[.string xd, .string xc, .int .i64 xp] 65)
          have hY := Box3.new w2 (.string xd) (.string xc) (.int .i64 xp) 65
          have HO3 := Lib.hid (HO2.out.keep hn2)
          have HB4 := Lib.hid (HB3.out.trans (hn2.mono hz3))
          obtain ⟨u2', hu2⟩ : ∃ u, u = w2.alloc (.cells #[.string xd, .string xc, .int .i64 xp] 65) := ⟨_, rfl⟩
          obtain ⟨g2, hg2⟩ : ∃ g, g = w2.heap.size := ⟨_, rfl⟩
          rw [← hu2, ← hg2] at hY
          rw [← hu2] at HO3 HB4
          have hww : w1.heap.size ≤ u2'.heap.size := HB4.out.size
          have HU2 := Lib.hid hu2
          have HG2 := Lib.hid hg2
          obtain ⟨y0, y1, y2, y3, y4, y5, y6⟩ := hY
          have hacc2 : acc.length ≤ 1000000 := by omega
          clear hp hpp hb2 HO1 HO2 HB2 HB3 L2 hP hB hO HSK HNO HSO HIP x0 x1 x2 x3 x4 x5 x6 hn2 hu2 hg2 hz3
          go_upto_region 12 with fail
          rw [← HU2.out, ← HG2.out]
          go_wp2_with (at_builtin; refine append_post (.tmp 38) (.tmp 40) rfl rfl w1.heap.size _ acc ⟨xd, xc, xp⟩ u2' rfl rfl HO3.out rfl hacc2 hww ?_)
          intro v' w3 ho hgr hd
          have HB5 := Lib.hid (HB4.out.grown hgr hww (fun g hg => (HO3.out.lt g hg).1))
          have HO4 := Lib.hid ho
          clear ho hgr hd HO3 y0 y1 y2 y3 y4 y5 y6
          go_wp2
          go_roundw
          case rel => exact ⟨k + 1, acc ++ [⟨xd, xc, xp⟩], by go_num, by omega, by simp; omega, HO4, HP2, HB5⟩
          case measure => simp [RowKit.intOf]; omega
    · obtain rfl : k = ts.length := by omega
      have hpl : postL ts = some acc := by
        rw [hP.out, List.drop_of_length_le (Nat.le_refl _), postL]; simp
      have hv := HV.out
      rw [hpl] at hv
      simp only at hv
      have hBB := HB1.out.trans (hB.out.mono HB1.out.size)
      by_cases h64 : 64 < acc.length
      · rw [if_pos h64] at hv
        have HV2 := Lib.hid hv
        have d1 : decide ((64 : Int) < (acc.length : Int)) = true := decide_eq_true (by omega)
        clear hv hpl hP h64
        go_wp2
        go_ret2
        exact OutPs.of HV2.out rfl (OwnPo.nil _ _) hBB
      · rw [if_neg h64] at hv
        have HV2 := Lib.hid hv
        have d1 : decide ((64 : Int) < (acc.length : Int)) = false := decide_eq_false (by omega)
        clear hv hpl hP h64
        go_wp2
        go_ret2
        exact OutPs.of HV2.out rfl (hO.out.down HB1.out.size) hBB
end Go.Proofs.YtaadelcmhbgpnaaGreatDoor
/-
  BOOKS: Postings and SamePostings of the reference.
-/
namespace Go.Proofs.YtaadelcmhbgpnaaGreatDoor
open Go.RowKit
open Go.Lib
attribute [local go_sem] grow_cell grow_frozen
theorem post_yes {T : ByteArray} (h : isPost T.data.toList = true) : 5 ≤ T.size ∧ T.extract 0 5 = ⟨#[112, 111, 115, 116, 32]⟩ := by
  unfold isPost hasPrefix at h
  obtain ⟨r, hr⟩ := List.isPrefixOf_iff_prefix.1 h
  have hl := congrArg List.length hr
  rw [List.length_append, lt_list] at hl
  simp only [List.length_cons, List.length_nil] at hl
  refine ⟨by omega, toList_inj ?_⟩
  rw [ext_list, ← hr]
  rfl
theorem post_pre {T : ByteArray} (h : (T.extract 0 5).toList = [112, 111, 115, 116, 32]) : isPost T.data.toList = true := by
  rw [Lib.toList_data, ext_list, List.drop_zero, Nat.sub_zero] at h
  unfold isPost hasPrefix
  rw [List.isPrefixOf_iff_prefix, ← h]
  exact List.take_prefix _ _
set_option maxRecDepth 100000 in
set_option maxHeartbeats 4000000 in
theorem rpostings_any (s : ByteArray) (hs : s.size ≤ 1000000) (w : World) (hl : LibOK w) :
    Calls Tryz.prog 12 #[.string s] w (OutPs w s.data.toList) := by
  have HW := Lib.hid (rread_any s hs w hl)
  have HL := Lib.hid hl
  clear hl
  by_cases h0 : (readB 200 1 0 s.data.toList).2 = []
  rotate_left
  · have HV : Hid (postsV s.data.toList = ([], 15)) := Lib.hid (by unfold postsV; rw [if_pos h0])
    go_enter Tryz.func12, Tryz.ntmps12
    go_wp2_with fail
    refine HW.out.mono ?_
    rintro e w1 ⟨v, u, rfl, hu, hO, hb1⟩
    have e1 := empty_no (r := u) (fun h => h0 (hu.symm.trans h))
    clear HW hu hO h0
    go_wp2
    go_ret2
    exact OutPs.of HV.out rfl (OwnPo.nil _ _) hb1
  have h200 := read_200 s.data.toList
  have hrr := reads_rights s.data.toList
  obtain ⟨ts, hts⟩ : ∃ ts, ts = (readB 200 1 0 s.data.toList).1 := ⟨_, rfl⟩
  have HRD := Lib.hid (show readB 200 1 0 s.data.toList = (ts, []) by rw [hts, ← h0])
  have HV : Hid (postsV s.data.toList = match postL ts with | none => ([], 3) | some l => if 64 < l.length then ([], 4) else (l, 0)) := Lib.hid (by
    unfold postsV; rw [if_neg (fun h => h h0), ← hts] <;> (cases postL ts <;> rfl))
  rw [← hts] at h200 hrr
  have HRR := Lib.hid hrr
  clear hts h0 hrr
  go_enter Tryz.func12, Tryz.ntmps12
  go_wp2_with fail
  refine HW.out.mono ?_
  rintro e w1 ⟨v1, u1, rfl, hu1, hO1, hb1⟩
  rw [HRD.out] at hu1 hO1
  simp only at hu1 hO1
  have e0 := empty_yes hu1
  subst e0
  obtain ⟨A1, c1, rfl, hI1, -⟩ := hO1.parts
  rw [lnS_len]
  have HB1 := Lib.hid hb1
  have HI1 := Lib.hid hI1
  clear hu1 hO1 hI1 hb1 HW
  go_upto_region 6 with fail
  go_loopw [6, 7] (fun v i wr => ∃ (k : Nat) (acc : List Po), i = .int .i64 k ∧ k ≤ ts.length ∧ acc.length ≤ k ∧ Hid (OwnPo wr w1.heap.size v acc) ∧ Hid (postL ts = (postL (ts.drop k)).map (acc ++ ·)) ∧ Hid (Below w1.heap.size w1 wr)) (fun _ i _ => ts.length - (RowKit.intOf i).toNat)
  case atStart => exact ⟨0, [], rfl, by omega, by simp, Lib.hid (OwnPo.nil _ _), Lib.hid (by simp), Lib.hid (Below.refl _ _)⟩
  case round =>
    obtain ⟨k, acc, rfl, hk, hacc, hO, hP, hB⟩ := hrel
    obtain ⟨A, c, rfl, -, -⟩ := hO.out.parts
    by_cases hlt : k < ts.length
    · have dl : decide ((k : Int) < (ts.length : Int)) = true := decide_eq_true (by omega)
      have hll := lnS_len ts 1 0
      obtain ⟨b, o, rfl, hb, hc⟩ := (HI1.out.below hB.out) (by omega)
      obtain ⟨q0, q1, q2⟩ := ln_at hlt hc
      have hrt := HRR.out ts[k] (List.getElem_mem hlt)
      have hsk := fun h => postL_skip (ts := ts) hlt h
      have hno := fun h h2 => postL_none (ts := ts) hlt h h2
      have hso := fun h x h2 => postL_some (ts := ts) hlt h (x := x) h2
      obtain ⟨t, ht⟩ : ∃ t, t = ts[k] := ⟨_, rfl⟩
      obtain ⟨y, hy⟩ : ∃ y, y = lineZ (1 + k) (endZ 1 0 (ts.take k)) ts[k] := ⟨_, rfl⟩
      obtain ⟨m, hm⟩ : ∃ m, m = 1 + k := ⟨_, rfl⟩
      rw [← hy] at q2
      rw [← ht] at q1 hrt hsk hno hso
      rw [← hm] at q0
      obtain ⟨T, hT⟩ : ∃ T : ByteArray, T = ⟨t.toArray⟩ := ⟨_, rfl⟩
      have hTl : T.data.toList = t := by rw [hT]
      rw [← hT] at q1
      rw [← hTl] at hrt hsk hno hso
      have hTs : T.size ≤ 80 := by rw [← lt_list]; exact (rightT_iff.1 hrt).2.1
      have HSK := Lib.hid hsk
      have HNO := Lib.hid hno
      have HSO := Lib.hid hso
      clear hll hc hrt hsk hno hso ht hy hm hT hTl q0 q2
      cases hip : isPost T.data.toList
      · have HP2 := Lib.hid (show postL ts = (postL (ts.drop (k + 1))).map (acc ++ ·) by rw [← HSK.out hip]; exact hP.out)
        by_cases h5 : T.size < 5
        · have d5 : decide ((T.size : Int) < 5) = true := decide_eq_true (by omega)
          clear hip hP HSK HNO HSO h5
          go_wp2
          go_roundw
          case rel => exact ⟨k + 1, acc, by go_num, by omega, by omega, hO, HP2, hB⟩
          case measure => simp [RowKit.intOf]; omega
        · have d5 : decide ((T.size : Int) < 5) = false := decide_eq_false (by omega)
          have hne : (T.extract 0 5).toList ≠ [112, 111, 115, 116, 32] := fun h => by
            rw [post_pre h] at hip; cases hip
          have f1 : ((T.extract 0 5).toList == [112, 111, 115, 116, 32]) = false := by rw [beq_eq_false_iff_ne]; exact hne
          have f2 : ((T.extract 0 5).toList != [112, 111, 115, 116, 32]) = true := by rw [bne_iff_ne]; exact hne
          have h5' : 5 ≤ T.size := by omega
          clear hip hP HSK HNO HSO h5 hne
          go_wp2
          go_roundw
          case rel => exact ⟨k + 1, acc, by go_num, by omega, by omega, hO, HP2, hB⟩
          case measure => simp [RowKit.intOf]; omega
      · obtain ⟨h5, hX⟩ := post_yes hip
        have d5 : decide ((T.size : Int) < 5) = false := decide_eq_false (by omega)
        have HIP := Lib.hid hip
        have L2 := Lib.hid (HL.out.below (HB1.out.trans (hB.out.mono HB1.out.size)))
        clear hip
        go_wp2_with fail
        refine (rparse_any T (by omega) _ L2.out).mono ?_
        rintro e w2 ⟨x, z, rfl, hp, hb2⟩
        have HO2 := Lib.hid (hO.out.keep hb2)
        have HB3 := Lib.hid (hB.out.trans (hb2.mono hB.out.size))
        obtain ⟨xd, xc, xp⟩ := x
        rcases parseP_of hp with ⟨rfl, hpp⟩ | ⟨rfl, -, hpp⟩
        rotate_left 1
        · have HV2 : Hid (postsV s.data.toList = ([], 3)) := Lib.hid (by rw [HV.out, hP.out, HNO.out HIP.out hpp]; rfl)
          clear hp hpp hb2 HO2 L2 hP hB hO HSK HNO HSO HIP
          go_wp2
          go_ret2
          exact OutPs.of HV2.out rfl (OwnPo.nil _ _) (by
            have h1 := HB1.out.trans (HB3.out.mono HB1.out.size)
            exact h1.alloc h1.size _)
        · have HP2 := Lib.hid (show postL ts = (postL (ts.drop (k + 1))).map ((acc ++ [⟨xd, xc, xp⟩]) ++ ·) by
            rw [hP.out, HSO.out HIP.out _ hpp, map_snoc])
          have hz3 := HB3.out.size
          have hn2 := below_new w2 (.cells #[.string xd, .string xc, .int .i64 xp] 65)
          have hY := Box3.new w2 (.string xd) (.string xc) (.int .i64 xp) 65
          have HO3 := Lib.hid (HO2.out.keep hn2)
          have HB4 := Lib.hid (HB3.out.trans (hn2.mono hz3))
          obtain ⟨u2', hu2⟩ : ∃ u, u = w2.alloc (.cells #[.string xd, .string xc, .int .i64 xp] 65) := ⟨_, rfl⟩
          obtain ⟨g2, hg2⟩ : ∃ g, g = w2.heap.size := ⟨_, rfl⟩
          rw [← hu2, ← hg2] at hY
          rw [← hu2] at HO3 HB4
          have hww : w1.heap.size ≤ u2'.heap.size := HB4.out.size
          have HU2 := Lib.hid hu2
          have HG2 := Lib.hid hg2
          obtain ⟨y0, y1, y2, y3, y4, y5, y6⟩ := hY
          have hacc2 : acc.length ≤ 1000000 := by omega
          clear hp hpp hb2 HO2 HB3 L2 hP hB hO HSK HNO HSO HIP hn2 hu2 hg2 hz3
          go_upto_region 13 with fail
          rw [← HU2.out, ← HG2.out]
          go_wp2_with (at_builtin; refine append_post (.tmp 44) (.tmp 46) rfl rfl w1.heap.size _ acc ⟨xd, xc, xp⟩ u2' rfl rfl HO3.out rfl hacc2 hww ?_)
          intro v' w3 ho hgr hd
          have HB5 := Lib.hid (HB4.out.grown hgr hww (fun g hg => (HO3.out.lt g hg).1))
          have HO4 := Lib.hid ho
          clear ho hgr hd HO3 y0 y1 y2 y3 y4 y5 y6
          go_wp2
          go_roundw
          case rel => exact ⟨k + 1, acc ++ [⟨xd, xc, xp⟩], by go_num, by omega, by simp; omega, HO4, HP2, HB5⟩
          case measure => simp [RowKit.intOf]; omega
    · obtain rfl : k = ts.length := by omega
      have hpl : postL ts = some acc := by
        rw [hP.out, List.drop_of_length_le (Nat.le_refl _), postL]; simp
      have hv := HV.out
      rw [hpl] at hv
      simp only at hv
      have hBB := HB1.out.trans (hB.out.mono HB1.out.size)
      by_cases h64 : 64 < acc.length
      · rw [if_pos h64] at hv
        have HV2 := Lib.hid hv
        have d1 : decide ((64 : Int) < (acc.length : Int)) = true := decide_eq_true (by omega)
        clear hv hpl hP h64
        go_wp2
        go_ret2
        exact OutPs.of HV2.out rfl (OwnPo.nil _ _) hBB
      · rw [if_neg h64] at hv
        have HV2 := Lib.hid hv
        have d1 : decide ((64 : Int) < (acc.length : Int)) = false := decide_eq_false (by omega)
        clear hv hpl hP h64
        go_wp2
        go_ret2
        exact OutPs.of HV2.out rfl (hO.out.down HB1.out.size) hBB
set_option maxRecDepth 100000 in
set_option maxHeartbeats 1000000 in
theorem rsamep_any (l : List Po) (A B : Option Addr) (c d : Nat) (hn : l.length ≤ 1000000) (w : World) (hI : IsPo w A l) (hJ : IsPo w B l) :
    Calls Tryz.prog 13 #[.slice A l.length c, .slice B l.length d] w fun e w' => e = .returned (.bool true) ∧ Below w.heap.size w w' := by
  have HI := Lib.hid hI
  have HJ := Lib.hid hJ
  clear hI hJ
  go_enter Tryz.func13, Tryz.ntmps13
  go_upto_region 4 with fail
  go_loopw [5] (fun i wr => ∃ k : Nat, i = .int .i64 k ∧ k ≤ l.length ∧ Hid (Below w.heap.size w wr)) (fun i _ => l.length - (RowKit.intOf i).toNat)
  case atStart => exact ⟨0, rfl, by omega, Lib.hid (Below.refl _ _)⟩
  case round =>
    obtain ⟨k, rfl, hk, hB⟩ := hrel
    by_cases hlt : k < l.length
    · have dl : decide ((k : Int) < (l.length : Int)) = true := decide_eq_true (by omega)
      obtain ⟨b, o, rfl, hb, hc⟩ := (HI.out.below hB.out) (by omega)
      obtain ⟨b2, o2, rfl, hb2, hc2⟩ := (HJ.out.below hB.out) (by omega)
      obtain ⟨q0, q1, q2⟩ := hc k hlt
      obtain ⟨p0, p1, p2⟩ := hc2 k hlt
      obtain ⟨x, hx⟩ : ∃ x, x = l[k] := ⟨_, rfl⟩
      rw [← hx] at q0 q1 q2 p0 p1 p2
      clear hc hc2 hx
      go_upto_region 6 with fail
      refine region_grow (by kernel_rfl) (by kernel_rfl) ?_
      repeat (go_big_quiet_step ((fail)))
      refine wpQuiet_nil ?_
      rintro w5 ⟨xg, hxg⟩
      have hb5 := below_grow wr xg
      rw [← hxg] at hb5
      clear hxg xg
      have HB5 := Lib.hid (hB.out.trans (hb5.mono hB.out.size))
      clear hb5 q0 q1 q2 p0 p1 p2
      go_wp2
      go_roundw
      case rel => exact ⟨k + 1, by go_num, by omega, HB5⟩
      case measure => simp [RowKit.intOf]; omega
    · have dl : decide ((k : Int) < (l.length : Int)) = false := decide_eq_false (by omega)
      go_wp2
      go_ret
      exact ⟨rfl, hB.out⟩
theorem postsV_len (X : List UInt8) : (postsV X).1.length ≤ 1000000 := by
  unfold postsV
  split
  · simp
  · split
    · simp
    · split
      · simp
      · simp only; omega
end Go.Proofs.YtaadelcmhbgpnaaGreatDoor
