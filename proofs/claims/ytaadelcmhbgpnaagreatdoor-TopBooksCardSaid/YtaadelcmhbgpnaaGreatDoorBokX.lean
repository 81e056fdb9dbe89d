/-
  BOOKS: FormatPosting, the program's and the reference's.
-/
import Derived.Test.YtaadelcmhbgpnaaGreatDoorBokS
import Derived.Test.YtaadelcmhbgpnaaGreatDoorBokP
import Derived.Test.YtaadelcmhbgpnaaGreatDoorBokT
namespace Go.Proofs.YtaadelcmhbgpnaaGreatDoor
open Go.RowKit
open Go.Lib
def fmtP (x : Po) : ByteArray × Int := if valPo [x] = 0 then (⟨(postT x).toArray⟩, 0) else (⟨#[]⟩, valPo [x])
theorem post_bytes (x : Po) : (((((⟨#[112, 111, 115, 116, 32]⟩ : ByteArray) ++ x.d) ++ ⟨#[32]⟩) ++ x.c) ++ ⟨#[32]⟩) ++ ⟨(moneyT x.p).toArray⟩ = ⟨(postT x).toArray⟩ := by
  conv => lhs; rw [bytes_of x.d, bytes_of x.c]
  simp only [bytes_app2]
  simp [postT]
set_option maxRecDepth 100000 in
set_option maxHeartbeats 1000000 in
theorem pfmt_any (x : Po) (h1 : -9223372036854775808 ≤ x.p) (h2 : x.p ≤ 9223372036854775807) (r : ByteArray) (z : Int) (hm : fmtP x = (r, z)) (w : World) (hl : LibOK w) :
    Calls Tryz.prog 67 #[.agg #[.string x.d, .string x.c, .int .i64 x.p]] w fun e w' => e = .returned (.tuple #[.string r, .int .i64 z]) ∧ Below w.heap.size w w' := by
  have hX0 := Box3.new w (.string x.d) (.string x.c) (.int .i64 x.p) 65
  have hB0 := below_new w (.cells #[.string x.d, .string x.c, .int .i64 x.p] 65)
  obtain ⟨u, hu⟩ : ∃ u, u = w.alloc (.cells #[.string x.d, .string x.c, .int .i64 x.p] 65) := ⟨_, rfl⟩
  rw [← hu] at hX0 hB0
  have hX1 := hX0.keep (below_new u (.cells #[.string x.d, .string x.c, .int .i64 x.p] 65))
  have hB1 : Below w.heap.size w (u.alloc (.cells #[.string x.d, .string x.c, .int .i64 x.p] 65)) := hB0.trans ((below_new u _).mono hB0.size)
  have hI := IsPo.one u x 65
  obtain ⟨b, hb⟩ : ∃ b, b = u.heap.size := ⟨_, rfl⟩
  rw [← hb] at hI
  obtain ⟨u2, hu2⟩ : ∃ v, v = u.alloc (.cells #[.string x.d, .string x.c, .int .i64 x.p] 65) := ⟨_, rfl⟩
  rw [← hu2] at hX1 hB1 hI
  have L1 := Lib.hid (hl.below hB1)
  have hb2 : w.heap.size + 1 = b := by rw [hb, hu]; simp
  have HV := Lib.hid (pval_any [x] (some ⟨b, 0, none⟩) 1 (by simp) u2 hI)
  have HU := Lib.hid hu
  have HU2 := Lib.hid hu2
  have HBB := Lib.hid hb2
  clear hu hu2 hb2 hb hX0 hB0 hI hl
  by_cases h0 : valPo [x] = 0
  · rw [fmtP, if_pos h0] at hm
    rw [h0] at HV
    obtain ⟨-, ho⟩ := valPo_one.1 h0
    obtain ⟨-, p1, p2⟩ := okP_iff.1 ho
    have hsz : x.d.size ≤ 8 ∧ x.c.size ≤ 8 := by
      obtain ⟨hn, -⟩ := valPo_one.1 h0
      obtain ⟨a1, a2⟩ := nmP_iff.1 hn
      have := (nameT_iff.1 a1).1
      have := (nameT_iff.1 a2).1
      rw [lt_list] at *
      omega
    obtain ⟨s1, s2⟩ := hsz
    have hmo : (moneyT x.p).length ≤ 50 := by
      unfold moneyT
      rw [if_neg (by omega)]
      exact words_join_len (by omega) (by omega)
    have HFM := Lib.hid (fun w' h => formatMoney_yes x.p (by omega) p2 w' h)
    have HPB := post_bytes x
    obtain ⟨F, hF⟩ : ∃ F : ByteArray, F = ⟨(moneyT x.p).toArray⟩ := ⟨_, rfl⟩
    have hFs : F.size ≤ 50 := by rw [hF, str_size]; exact hmo
    rw [← hF] at HFM HPB
    have HPB := Lib.hid HPB
    have HM := Lib.hid hm
    clear hm h0 ho hmo hF
    go_enter Tryz.func67, Tryz.ntmps67
    go_wp2_with fail
    rw [HBB.out, ← HU.out, ← HU2.out]
    refine HV.out.mono ?_
    rintro e w1 ⟨rfl, hb1⟩
    have hX2 := hX1.keep hb1
    have hB2 := hB1.trans (hb1.mono hB1.size)
    have L2 := Lib.hid (L1.out.below hb1)
    obtain ⟨x0, x1, x2, y0, y1, y2, y3⟩ := hX2
    clear HV hX1 hB1 L1 hb1
    go_wp2_with fail
    refine (HFM.out _ L2.out).mono ?_
    rintro e w2 ⟨rfl, hb2⟩
    have hX3 := Box3.keep hb2 ⟨x0, x1, x2, y0, y1, y2, y3⟩
    have hB3 := hB2.trans (hb2.mono hB2.size)
    clear x0 x1 x2 y0 y1 y2 y3 L2 hB2 hb2
    obtain ⟨x0, x1, x2, y0, y1, y2, y3⟩ := hX3
    go_wp2
    go_ret2
    exact ⟨ret_str (by rw [← HM.out, ← HPB.out]), hB3⟩
  · rw [fmtP, if_neg h0] at hm
    have HM := Lib.hid hm
    obtain ⟨v, hv⟩ : ∃ v, v = valPo [x] := ⟨_, rfl⟩
    rw [← hv] at HM HV h0
    have q : (v != 0) = true := by rw [bne_iff_ne]; exact h0
    clear hm hv h0
    go_enter Tryz.func67, Tryz.ntmps67
    go_wp2_with fail
    rw [HBB.out, ← HU.out, ← HU2.out]
    refine HV.out.mono ?_
    rintro e w1 ⟨rfl, hb1⟩
    have hB2 := hB1.trans (hb1.mono hB1.size)
    clear HV hX1 hB1 L1 hb1
    go_wp2
    go_ret2
    exact ⟨ret_str HM.out, hB2⟩
set_option maxRecDepth 100000 in
set_option maxHeartbeats 1000000 in
theorem rfmt_any (x : Po) (h1 : -9223372036854775808 ≤ x.p) (h2 : x.p ≤ 9223372036854775807) (r : ByteArray) (z : Int) (hm : fmtP x = (r, z)) (w : World) (hl : LibOK w) :
    Calls Tryz.prog 73 #[.agg #[.string x.d, .string x.c, .int .i64 x.p]] w fun e w' => e = .returned (.tuple #[.string r, .int .i64 z]) ∧ Below w.heap.size w w' := by
  have hX0 := Box3.new w (.string x.d) (.string x.c) (.int .i64 x.p) 65
  have hB0 := below_new w (.cells #[.string x.d, .string x.c, .int .i64 x.p] 65)
  obtain ⟨u, hu⟩ : ∃ u, u = w.alloc (.cells #[.string x.d, .string x.c, .int .i64 x.p] 65) := ⟨_, rfl⟩
  rw [← hu] at hX0 hB0
  have hX1 := hX0.keep (below_new u (.cells #[.string x.d, .string x.c, .int .i64 x.p] 65))
  have hB1 : Below w.heap.size w (u.alloc (.cells #[.string x.d, .string x.c, .int .i64 x.p] 65)) := hB0.trans ((below_new u _).mono hB0.size)
  have hI := IsPo.one u x 65
  obtain ⟨b, hb⟩ : ∃ b, b = u.heap.size := ⟨_, rfl⟩
  rw [← hb] at hI
  obtain ⟨u2, hu2⟩ : ∃ v, v = u.alloc (.cells #[.string x.d, .string x.c, .int .i64 x.p] 65) := ⟨_, rfl⟩
  rw [← hu2] at hX1 hB1 hI
  have L1 := Lib.hid (hl.below hB1)
  have hb2 : w.heap.size + 1 = b := by rw [hb, hu]; simp
  have HV := Lib.hid (rval_any [x] (some ⟨b, 0, none⟩) 1 (by simp) u2 hI)
  have HU := Lib.hid hu
  have HU2 := Lib.hid hu2
  have HBB := Lib.hid hb2
  clear hu hu2 hb2 hb hX0 hB0 hI hl
  by_cases h0 : valPo [x] = 0
  · rw [fmtP, if_pos h0] at hm
    rw [h0] at HV
    obtain ⟨-, ho⟩ := valPo_one.1 h0
    obtain ⟨-, p1, p2⟩ := okP_iff.1 ho
    have hsz : x.d.size ≤ 8 ∧ x.c.size ≤ 8 := by
      obtain ⟨hn, -⟩ := valPo_one.1 h0
      obtain ⟨a1, a2⟩ := nmP_iff.1 hn
      have := (nameT_iff.1 a1).1
      have := (nameT_iff.1 a2).1
      rw [lt_list] at *
      omega
    obtain ⟨s1, s2⟩ := hsz
    have hmo : (moneyT x.p).length ≤ 50 := by
      unfold moneyT
      rw [if_neg (by omega)]
      exact words_join_len (by omega) (by omega)
    have HFM := Lib.hid (fun w' => rformatMoney_yes x.p (by omega) p2 w')
    have HPB := post_bytes x
    obtain ⟨F, hF⟩ : ∃ F : ByteArray, F = ⟨(moneyT x.p).toArray⟩ := ⟨_, rfl⟩
    have hFs : F.size ≤ 50 := by rw [hF, str_size]; exact hmo
    rw [← hF] at HFM HPB
    have HPB := Lib.hid HPB
    have HM := Lib.hid hm
    clear hm h0 ho hmo hF
    go_enter Tryz.func73, Tryz.ntmps73
    go_wp2_with fail
    rw [HBB.out, ← HU.out, ← HU2.out]
    refine HV.out.mono ?_
    rintro e w1 ⟨rfl, hb1⟩
    have hX2 := hX1.keep hb1
    have hB2 := hB1.trans (hb1.mono hB1.size)
    have L2 := Lib.hid (L1.out.below hb1)
    obtain ⟨x0, x1, x2, y0, y1, y2, y3⟩ := hX2
    clear HV hX1 hB1 L1 hb1
    go_wp2_with fail
    refine (HFM.out _).mono ?_
    rintro e w2 ⟨rfl, hb2⟩
    have hX3 := Box3.keep hb2 ⟨x0, x1, x2, y0, y1, y2, y3⟩
    have hB3 := hB2.trans (hb2.mono hB2.size)
    clear x0 x1 x2 y0 y1 y2 y3 L2 hB2 hb2
    obtain ⟨x0, x1, x2, y0, y1, y2, y3⟩ := hX3
    go_wp2
    go_ret2
    exact ⟨ret_str (by rw [← HM.out, ← HPB.out]), hB3⟩
  · rw [fmtP, if_neg h0] at hm
    have HM := Lib.hid hm
    obtain ⟨v, hv⟩ : ∃ v, v = valPo [x] := ⟨_, rfl⟩
    rw [← hv] at HM HV h0
    have q : (v != 0) = true := by rw [bne_iff_ne]; exact h0
    clear hm hv h0
    go_enter Tryz.func73, Tryz.ntmps73
    go_wp2_with fail
    rw [HBB.out, ← HU.out, ← HU2.out]
    refine HV.out.mono ?_
    rintro e w1 ⟨rfl, hb1⟩
    have hB2 := hB1.trans (hb1.mono hB1.size)
    clear HV hX1 hB1 L1 hb1
    go_wp2
    go_ret2
    exact ⟨ret_str HM.out, hB2⟩
end Go.Proofs.YtaadelcmhbgpnaaGreatDoor
/-
  BOOKS: PLAIN. What ParsePosting finds; strings.SplitN at three blanks.
-/
namespace Go.Proofs.YtaadelcmhbgpnaaGreatDoor
open Go.RowKit
open Go.Lib
theorem splitK_len : ∀ (k : Nat) (l : List UInt8), ∀ x ∈ splitK [32] 0 k l, x.length ≤ l.length
  | 0, l => fun x hx => by simp [splitK] at hx; rw [hx]; exact Nat.le_refl _
  | k + 1, l => by
    intro x hx
    rcases cut_two 32 l with h | ⟨a, r, rfl, h⟩
    · rw [splitK_none h] at hx
      simp at hx; rw [hx]; exact Nat.le_refl _
    · rw [splitK_app h] at hx
      rcases List.mem_cons.1 hx with rfl | hx
      · simp
      · have := splitK_len k r x hx
        simp; omega
/-- What SplitN gives at three blanks. -/
def OutS4 (w : World) (l : List UInt8) (e : Ending) (w' : World) : Prop :=
  ∃ (xs : List ByteArray) (c : Nat), e = .returned (.slice (some ⟨w.heap.size, 0, none⟩) xs.length c) ∧ IsS w' (some ⟨w.heap.size, 0, none⟩) xs.length xs ∧ xs.map (·.data.toList) = splitK [32] 0 (min 4 (l.length + 1) - 1) l ∧ Below w.heap.size w w'
theorem split4_any (s : ByteArray) (hs : s.size ≤ 1000000) (w : World) (hl : LibOK w) :
    Calls Tryz.prog 65 #[.string s, .string ⟨#[32]⟩, .int .i64 4] w (OutS4 w s.data.toList) := by
  obtain ⟨m, hm⟩ := hl.mx
  refine (Tryz.strings_SplitN s ⟨#[32]⟩ 4 m w (by omega) hm (by decide) (by omega) (by omega)).mono ?_
  rintro e w' ⟨rfl, rfl⟩
  obtain ⟨xs, hxs⟩ : ∃ xs, xs = splitB ⟨#[32]⟩ 0 (min 4 (s.size + 1) - 1) s := ⟨_, rfl⟩
  have hle : xs.length ≤ min 4 (s.size + 1) := by
    have := splitB_length_le ⟨#[32]⟩ 0 (min 4 (s.size + 1) - 1) s
    rw [← hxs] at this; omega
  rw [← hxs]
  refine ⟨xs, _, rfl, ⟨rfl, fun _ => ⟨w.heap.size, 0, rfl, by simp, fun i hi => ?_⟩⟩, by rw [hxs, splitB_data, lt_list], (Below.refl _ _).alloc (Nat.le_refl _) _⟩
  rw [cell_of_row _ _ _ _ _ (0, 0) (heap_alloc_new w _)]
  unfold cellsOf
  rw [Nat.zero_add, List.getElem?_toArray, List.getElem?_append_left (by simpa using hi)]
  simp [hi]
theorem parse_few {t : List UInt8} {xs : List ByteArray} (hxs : xs.map (·.data.toList) = splitK [32] 0 (min 4 (t.length + 1) - 1) t) (h : xs.length < 4) : PrsP t noPo 3 := by
  refine .inr ⟨rfl, rfl, fun y hy he => ?_⟩
  have := congrArg List.length hxs
  rw [← he, split_post hy] at this
  simp at this; omega
theorem parse_plain {t : List UInt8} {xs : List ByteArray} (hxs : xs.map (·.data.toList) = splitK [32] 0 (min 4 (t.length + 1) - 1) t) (h : 3 < xs.length) {p z : Int} (hp : PrsM xs[3].data.toList p z)
    (hb : z ≠ 0 ∨ valPo [⟨xs[1], xs[2], p⟩] ≠ 0 ∨ postT ⟨xs[1], xs[2], p⟩ ≠ t) : PrsP t noPo 3 := by
  refine .inr ⟨rfl, rfl, fun y hy he => ?_⟩
  have h1 := hxs
  rw [← he, split_post hy] at h1
  obtain ⟨n1, o1⟩ := valPo_one.1 hy
  obtain ⟨-, p1, p2⟩ := okP_iff.1 o1
  have e1 : xs[1].data.toList = y.d.data.toList := by
    have := congrArg (fun l => l[1]?) h1
    simpa [List.getElem?_eq_getElem (show 1 < xs.length by omega)] using this
  have e2 : xs[2].data.toList = y.c.data.toList := by
    have := congrArg (fun l => l[2]?) h1
    simpa [List.getElem?_eq_getElem (show 2 < xs.length by omega)] using this
  have e3 : xs[3].data.toList = moneyT y.p := by
    have := congrArg (fun l => l[3]?) h1
    simpa [List.getElem?_eq_getElem (show 3 < xs.length by omega)] using this
  rw [e3] at hp
  obtain ⟨rfl, rfl⟩ := PrsM.unique hp (.inl ⟨rfl, by omega, p2, rfl⟩)
  have e4 : (⟨xs[1], xs[2], y.p⟩ : Po) = y := by
    cases y
    simp only at e1 e2
    rw [toList_inj e1, toList_inj e2]
  rw [e4] at hb
  rcases hb with hb | hb | hb
  · exact hb rfl
  · exact hb hy
  · exact hb he
theorem prsM_bd {t : List UInt8} {p z : Int} (h : PrsM t p z) : -1099511627776 ≤ p ∧ p ≤ 1099511627776 ∧ (z = 0 ∨ z = 3) := by
  rcases h with ⟨rfl, h1, h2, -⟩ | ⟨rfl, rfl, -⟩
  · exact ⟨h1, h2, .inl rfl⟩
  · exact ⟨by omega, by omega, .inr rfl⟩
/-- Worlds that have grown. -/
structure GW (W : World) where
  val : World
  below : Below W.heap.size W val
theorem gw_cell {W : World} (v : GW W) {b o : Nat} (h : b < W.heap.size) : v.val.cell? ⟨b, o, none⟩ = W.cell? ⟨b, o, none⟩ := v.below.cell (p := ⟨b, o, none⟩) h
theorem gw_frozen {W : World} (v : GW W) {b o : Nat} (h : b < W.heap.size) : v.val.frozen? ⟨b, o, none⟩ = W.frozen? ⟨b, o, none⟩ := v.below.frozen (p := ⟨b, o, none⟩) h
/-- What ParsePosting returns. -/
def OutPo (w : World) (t : List UInt8) (e : Ending) (w' : World) : Prop :=
  ∃ x z, e = .returned (.tuple #[.agg #[.string x.d, .string x.c, .int .i64 x.p], .int .i64 z]) ∧ PrsP t x z ∧ Below w.heap.size w w'
end Go.Proofs.YtaadelcmhbgpnaaGreatDoor
