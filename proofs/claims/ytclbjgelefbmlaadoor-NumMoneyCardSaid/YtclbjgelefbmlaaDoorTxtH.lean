/-
  ParseRat, THE REFERENCE'S.
-/
import Derived.Test.YtclbjgelefbmlaaDoorTxtG
import Derived.Deep.DeepCutAuto
namespace Go.Proofs.YtclbjgelefbmlaaDoor
open Go.RowKit Go.Lib
def OutP (w : World) (t : List UInt8) (e : Ending) (w' : World) : Prop := ∃ n d z, e = .returned (.tuple #[.agg #[.int .i64 n, .int .i64 d], .int .i64 z]) ∧ PrsR t n d z ∧ Below w.heap.size w w'
/-- Number's answer, taken apart: of a text that is no numeral it says no. -/
theorem prs_no {t : List UInt8} (h : ∀ a b, vld a b = true → fmtR a b ≠ t) : PrsR t 0 0 3 := .inr ⟨rfl, rfl, rfl, h⟩
theorem splitL_len (b : UInt8) (l : List UInt8) : ∀ p ∈ splitL b l, p.length ≤ l.length := by
  induction l with
  | nil => intro p hp; simp [splitL] at hp; simp [hp]
  | cons c r ih =>
    intro p hp
    simp only [splitL] at hp
    split at hp
    · rcases List.mem_cons.1 hp with rfl | hp
      · simp
      · have := ih p hp; simp; omega
    · split at hp
      · simp at hp; simp [hp]
      · rename_i q ps he
        rcases List.mem_cons.1 hp with rfl | hp
        · have := ih q (by rw [he]; simp); simp; omega
        · have := ih p (by rw [he]; simp [hp]); simp; omega
theorem fmt_pieces {xs : List ByteArray} {t : List UInt8} {a c : Int} (hm : xs.map (·.data.toList) = splitL 47 t) (h : fmtR a c = t) : (c = 1 ∧ ∃ x, xs = [x] ∧ x.data.toList = itoa a) ∨ (c ≠ 1 ∧ ∃ x y, xs = [x, y] ∧ x.data.toList = itoa a ∧ y.data.toList = itoa c) := by
  subst h
  by_cases hc : c = 1
  · subst hc
    rw [split_fmt_one] at hm
    have hl : xs.length = 1 := by have := congrArg List.length hm; simpa using this
    match xs, hl with
    | [x], _ => exact .inl ⟨rfl, x, rfl, by simpa using hm⟩
  · rw [split_fmt_two hc] at hm
    have hl : xs.length = 2 := by have := congrArg List.length hm; simpa using this
    match xs, hl with
    | [x, y], _ =>
      simp only [List.map_cons, List.map_nil, List.cons.injEq, and_true] at hm
      exact .inr ⟨hc, x, y, rfl, hm.1, hm.2⟩
theorem Box2.set1 {w : World} {b : Nat} {x y : Value} (h : Box2 w b x y) (v : Value) : Box2 (w.setCell ⟨b, 1, none⟩ v) b x v := by
  obtain ⟨h1, h2, h3, h4, h5⟩ := h
  refine ⟨?_, World.cell?_setCell_same _ _ _ h2, ?_, ?_, by simpa [World.setCell] using h5⟩
  · rw [World.cell?_setCell_other _ _ _ _ (by simp)]; exact h1
  · rw [World.frozen?_setCell]; exact h3
  · rw [World.frozen?_setCell]; exact h4
set_option maxRecDepth 100000 in
set_option maxHeartbeats 2000000 in
theorem rparseRat_any (s : ByteArray) (hs : s.size ≤ 900000) (w : World) :
    Calls Tryd.prog 51 #[.string s] w (OutP w s.data.toList) := by
  go_enter Tryd.func51, Tryd.ntmps51
  go_wp2_with fail
  refine (split_any s 47 hs _).mono ?_
  rintro e w1 ⟨A, c, xs, rfl, hI, hm, hb1⟩
  (have xa : Box2 w1 w.heap.size (.int .i64 0) (.int .i64 0) := Box2.keep (by assumption) (by repeat' (first | (with_reducible assumption) | (with_reducible refine Box2.drewN ?_ _) | (with_reducible refine Box2.drew ?_) | (with_reducible exact Box2.new _ _ _ _) | (with_reducible exact Box2.new1 _ _ _ _ _) | (with_reducible exact Box2.new2 _ _ _ _ _ _) | (with_reducible refine Box2.alloc ?_ _))); obtain ⟨c0xa, c1xa, f0xa, f1xa, zxa⟩ := id xa)
  have hlen : 0 < xs.length := by
    have := splitL_ne 47 s.data.toList
    rw [← hm] at this
    cases xs with
    | nil => simp at this
    | cons => simp
  obtain ⟨gb, go, rfl, hgb, hcell⟩ := hI.2 hlen
  have hsz : ∀ x ∈ xs, x.size ≤ s.size := by
    intro x hx
    have := splitL_len 47 s.data.toList x.data.toList (by rw [← hm]; exact List.mem_map.2 ⟨x, hx, rfl⟩)
    simpa using this
  have q0 := hcell 0 hlen
  obtain ⟨x0, hx0⟩ : ∃ x, xs[0] = x := ⟨_, rfl⟩
  have h0s := hsz x0 (by rw [← hx0]; exact List.getElem_mem _)
  rw [hx0] at q0
  have HM := Lib.hid hm
  have HX0 := Lib.hid hx0
  have HSZ := Lib.hid hsz
  have HC := Lib.hid hcell
  have HI := Lib.hid hI
  clear hm hx0 hsz hcell hI
  simp only [Nat.add_zero] at q0
  go_wp2_with fail
  refine (number_any x0 (by omega) _).mono ?_
  rintro e w2 ⟨n0, b0, rfl, hn1, hn2, hn3, hn4, hb2⟩
  have HN3 := Lib.hid hn3
  have HN4 := Lib.hid hn4
  have HI2 := Lib.hid (HI.out.below hb2)
  (have xb : Box2 w2 w.heap.size (.int .i64 0) (.int .i64 0) := Box2.keep (by assumption) (by repeat' (first | (with_reducible assumption) | (with_reducible refine Box2.drewN ?_ _) | (with_reducible refine Box2.drew ?_) | (with_reducible exact Box2.new _ _ _ _) | (with_reducible exact Box2.new1 _ _ _ _ _) | (with_reducible exact Box2.new2 _ _ _ _ _ _) | (with_reducible refine Box2.alloc ?_ _))); obtain ⟨c0xb, c1xb, f0xb, f1xb, zxb⟩ := id xb)
  clear hn3 hn4
  go_upto_region 4 with fail
  go_cut [26] (fun v wx => v = .bool (b0 && decide (xs.length = 2)) ∧ wx = w2.alloc (.cells #[.int .i64 n0, .int .i64 1] 23))
  case first =>
    cases b0
    · go_wp2_with fail
      go_meet
      exact ⟨rfl, rfl⟩
    · go_wp2_with fail
      go_meet
      refine ⟨congrArg Value.bool ?_, rfl⟩
      rw [Bool.eq_iff_iff]; simp; omega
  case rest =>
    obtain ⟨rfl, rfl⟩ := hcut
    go_upto_if 26 with fail
    go_cut [6] (fun v wx => ∃ (b : Bool) (d : Int), v = .bool b ∧ -1000000000000000 < d ∧ d < 1000000000000000 ∧ Box2 wx w2.heap.size (.int .i64 n0) (.int .i64 d) ∧ Box2 wx w.heap.size (.int .i64 0) (.int .i64 0) ∧ Below w.heap.size w wx ∧ (∀ a c, vld a c = true → fmtR a c = s.data.toList → b = true ∧ n0 = a ∧ d = c))
    case first =>
      have hB : Below w.heap.size w (w2.alloc (.cells #[.int .i64 n0, .int .i64 1] 23)) := (by repeat' (first | (with_reducible exact Below.refl _ _) | (with_reducible assumption) | (with_reducible refine below_drewN ?_ _) | (with_reducible refine below_step (by assumption) ?_ ?_) | (with_reducible refine Below.alloc ?_ ?_ _) | (with_reducible refine Below.setCell ?_ ?_ _) | (with_reducible refine Below.drew ?_) | go_size | (exact Below.size (by assumption)) | (refine Nat.le_trans (Below.size (by assumption)) ?_)))
      have hA := Box2.new w2 (.int .i64 n0) (.int .i64 1) 23
      have hR : Box2 (w2.alloc (.cells #[.int .i64 n0, .int .i64 1] 23)) w.heap.size (.int .i64 0) (.int .i64 0) := xb.alloc _
      have cpl : ∀ a c, vld a c = true → fmtR a c = s.data.toList → b0 = true ∧ n0 = a ∧ (c = 1 ∧ xs.length = 1 ∨ c ≠ 1 ∧ ∃ h : 1 < xs.length, xs.length = 2 ∧ xs[1].data.toList = itoa c) := by
        intro a c hv hf
        have bd := vld_bds hv
        have hx0' := HX0.out
        rcases fmt_pieces HM.out hf with ⟨rfl, x, rfl, hx⟩ | ⟨hc, x, y, rfl, hx, hy⟩
        · have hxx : x = x0 := hx0'
          subst hxx
          obtain ⟨g1, g2⟩ := HN4.out a (by omega) (by omega) hx
          exact ⟨g1, g2, .inl ⟨rfl, rfl⟩⟩
        · have hxx : x = x0 := hx0'
          subst hxx
          obtain ⟨g1, g2⟩ := HN4.out a (by omega) (by omega) hx
          exact ⟨g1, g2, .inr ⟨hc, by simp, rfl, hy⟩⟩
      have CPL := Lib.hid cpl
      have HBB := Lib.hid hB
      have HAA := Lib.hid hA
      have HRR := Lib.hid hR
      clear cpl hB hA hR
      obtain ⟨gg, hgg⟩ : ∃ gg, (b0 && decide (xs.length = 2)) = gg := ⟨_, rfl⟩
      rw [hgg]
      have HGG := Lib.hid hgg
      clear hgg
      cases gg
      · go_wp2_with fail
        go_meet
        refine ⟨b0, 1, rfl, by omega, by omega, HAA.out, HRR.out, HBB.out, fun a c hv hf => ?_⟩
        obtain ⟨g1, g2, g3⟩ := CPL.out a c hv hf
        rcases g3 with ⟨rfl, -⟩ | ⟨-, -, g4, -⟩
        · exact ⟨g1, g2, rfl⟩
        · have := HGG.out
          rw [g1, g4] at this; simp at this
      · have hgt : b0 = true ∧ xs.length = 2 := by have := HGG.out; simpa using this
        have hl1 : 1 < xs.length := by omega
        obtain ⟨gb', go', eg, hgb2, hcell2⟩ := (HI2.out.below ((Below.refl _ _).alloc (Nat.le_refl _) (.cells #[.int .i64 n0, .int .i64 1] 23))).2 (by omega)
        cases eg
        have q1 := hcell2 1 hl1
        obtain ⟨x1, hx1⟩ : ∃ x, xs[1] = x := ⟨_, rfl⟩
        have h1s := HSZ.out x1 (by rw [← hx1]; exact List.getElem_mem _)
        rw [hx1] at q1
        have HX1 := Lib.hid hx1
        have HG := Lib.hid hgt
        have hl2 : ((1 : Int) < (xs.length : Int)) := by omega
        clear hx1 hcell2 hgt
        go_wp2_with fail
        refine (number_any x1 (by omega) _).mono ?_
        rintro e w4 ⟨d1, b1, rfl, hd1, hd2, hd3, hd4, hb4⟩
        have HD4 := Lib.hid hd4
        have k4 := HAA.out.keep hb4
        have r4 := HRR.out.keep hb4
        have B4 := Lib.hid (HBB.out.trans (hb4.mono HBB.out.size))
        have R4 := Lib.hid r4
        have K4 := Lib.hid k4
        obtain ⟨p0, p1, p2, p3, p4⟩ := id k4
        clear hd3 hd4 k4 r4 q1 q0
        go_wp2_with fail
        go_meet
        have hlw : w.heap.size < w2.heap.size := zxb
        refine ⟨b1, d1, rfl, hd1, hd2, K4.out.set1 _, R4.out.setCell (by simp; omega) _, B4.out.setCell (by simp; omega) _, fun a c hv hf => ?_⟩
        obtain ⟨g1, g2, g3⟩ := CPL.out a c hv hf
        have bd := vld_bds hv
        rcases g3 with ⟨-, g4⟩ | ⟨_, h9, _, g4⟩
        · have := HG.out.2; omega
        · obtain ⟨g5, g6⟩ := HD4.out c (by omega) (by omega) (by rw [← HX1.out]; exact g4)
          exact ⟨g5, g2, g6⟩
    case rest =>
      obtain ⟨b, d, rfl, hd1, hd2, hA, hR, hB, hcp⟩ := hcut
      have CP := Lib.hid hcp
      have RR := Lib.hid hR
      have BB := Lib.hid hB
      obtain ⟨p0, p1, p2, p3, p4⟩ := id hA
      have AA := Lib.hid hA
      clear hcp hR hB hA
      by_cases hg : b = true ∧ vld n0 d = true ∧ fmtR n0 d = s.data.toList
      · obtain ⟨rfl, hv, hf⟩ := hg
        have HP : Hid (PrsR s.data.toList n0 d 0) := .inl ⟨rfl, hv, hf⟩
        have hq : (fmtR n0 d == s.toList) = true := by rw [Lib.toList_data, hf]; simp
        have hq2 : (fmtR n0 d != s.toList) = false := by rw [Lib.toList_data, hf]; simp
        have HV := Lib.hid hv
        clear hv hf
        go_wp2_with fail
        refine (rformatRat_yes n0 d (by omega) (by omega) (by omega) (by omega) HV.out _).mono ?_
        rintro e w5 ⟨rfl, hb5⟩
        have k5 := AA.out.keep hb5
        have r5 := RR.out.keep hb5
        have B5 := Lib.hid (BB.out.trans (hb5.mono BB.out.size))
        clear p0 p1 p2 p3 p4
        obtain ⟨p0, p1, p2, p3, p4⟩ := id k5
        obtain ⟨r0, r1, r2, r3, r4⟩ := id r5
        clear k5 r5 hb5
        go_wp2
        refine bodyPost_ret (v := .tuple #[.agg #[.int .i64 n0, .int .i64 d], .int .i64 0]) (by simp only [results, Tryd.results51]; go_simp) rfl ?_
        exact ⟨n0, d, 0, rfl, HP.out, (B5.out.setCell (by simp) _).setCell (by simp) _⟩
      · have HP : Hid (PrsR s.data.toList 0 0 3) := prs_no fun a c hv hf => by
          obtain ⟨g1, rfl, rfl⟩ := CP.out a c hv hf
          exact hg ⟨g1, hv, hf⟩
        by_cases hv : vld n0 d = true
        · have hbq : b = false ∨ (b = true ∧ (fmtR n0 d == s.toList) = false) := by
            cases b
            · exact .inl rfl
            · refine .inr ⟨rfl, ?_⟩
              rw [Lib.toList_data, beq_eq_false_iff_ne]
              exact fun h => hg ⟨rfl, hv, h⟩
          have HV := Lib.hid hv
          clear hv hg
          rcases hbq with rfl | ⟨rfl, hq⟩
          all_goals
            go_wp2_with fail
            refine (rformatRat_yes n0 d (by omega) (by omega) (by omega) (by omega) HV.out _).mono ?_
            rintro e w5 ⟨rfl, hb5⟩
            have k5 := AA.out.keep hb5
            have r5 := RR.out.keep hb5
            have B5 := Lib.hid (BB.out.trans (hb5.mono BB.out.size))
            clear p0 p1 p2 p3 p4
            obtain ⟨p0, p1, p2, p3, p4⟩ := id k5
            obtain ⟨r0, r1, r2, r3, r4⟩ := id r5
            clear k5 r5 hb5
            go_wp2
            refine bodyPost_ret (v := .tuple #[.agg #[.int .i64 0, .int .i64 0], .int .i64 3]) (by simp only [results, Tryd.results51]; go_simp) rfl ?_
            exact ⟨0, 0, 3, rfl, HP.out, (B5.out.setCell (by simp) _).setCell (by simp) _⟩
        · have HV := Lib.hid (show vld n0 d = false by simpa using hv)
          clear hv hg
          cases b
          all_goals
            go_wp2_with fail
            refine (rformatRat_no n0 d (by omega) (by omega) (by omega) (by omega) HV.out _).mono ?_
            rintro e w5 ⟨rfl, hb5⟩
            have k5 := AA.out.keep hb5
            have r5 := RR.out.keep hb5
            have B5 := Lib.hid (BB.out.trans (hb5.mono BB.out.size))
            clear p0 p1 p2 p3 p4
            obtain ⟨p0, p1, p2, p3, p4⟩ := id k5
            obtain ⟨r0, r1, r2, r3, r4⟩ := id r5
            clear k5 r5 hb5
            go_wp2
            refine bodyPost_ret (v := .tuple #[.agg #[.int .i64 0, .int .i64 0], .int .i64 3]) (by simp only [results, Tryd.results51]; go_simp) rfl ?_
            exact ⟨0, 0, 3, rfl, HP.out, (B5.out.setCell (by simp) _).setCell (by simp) _⟩
end Go.Proofs.YtclbjgelefbmlaaDoor
