/-
  FormatMoney, THE PROGRAM'S.
-/
import Derived.Test.YtclbjgelefbmlaaDoorMonB
import Derived.Test.YtclbjgelefbmlaaDoorTxtI
namespace Go.Proofs.YtclbjgelefbmlaaDoor
open Go.RowKit Go.Lib
def mW1 (m : Nat) : List (List UInt8) := if m / 240 > 0 then [itoa ((m / 240 : Nat) : Int) ++ [108]] else []
def mW2 (m : Nat) : List (List UInt8) := if m / 12 % 20 > 0 then [itoa ((m / 12 % 20 : Nat) : Int) ++ [115]] else []
def mW3 (m : Nat) : List (List UInt8) := if m % 12 > 0 ∨ m = 0 then [itoa ((m % 12 : Nat) : Int) ++ [100]] else []
theorem mW_all (m : Nat) : mW1 m ++ mW2 m ++ mW3 m = wordsM m := by rw [List.append_assoc]; rfl
theorem mW_len (m : Nat) : (mW1 m).length ≤ 1 ∧ (mW2 m).length ≤ 1 ∧ (mW3 m).length ≤ 1 := by
  unfold mW1 mW2 mW3
  refine ⟨?_, ?_, ?_⟩ <;> split <;> simp
/-- strings.Join of a list in memory. -/
theorem join_any (A : Option Addr) (c : Nat) (xs : List ByteArray) (w : World) (hI : IsS w A xs.length xs) (hc : xs.length ≤ c) (hne : xs ≠ []) (hN : xs.length ≤ 1000000) (hlen : (join (xs.map (·.data.toList)) [32]).length ≤ 1000000) :
    Calls Tryd.prog 79 #[.slice A xs.length c, .string ⟨#[32]⟩] w fun e w' => e = .returned (.string ⟨(join (xs.map (·.data.toList)) [32]).toArray⟩) ∧ Below w.heap.size w w' := by
  obtain ⟨b, o, rfl, hb, hcell⟩ := hI.2 (List.length_pos_iff.2 hne)
  refine (Tryd.strings_Join b o c xs ⟨#[32]⟩ w (fun j x hx => ?_) hb (by omega) hc (by show (join _ [32]).length ≤ _; omega)).mono fun e w' h => h
  obtain ⟨hj, rfl⟩ := List.getElem?_eq_some_iff.1 hx
  exact hcell j hj
theorem words_join_len {m : Nat} (h : m ≤ 1099511627776) (h0 : m ≠ 0) : (join (wordsM m) [32]).length ≤ 50 := by
  have h1 := mP_all h0
  obtain ⟨l1, l2, l3⟩ := mP_len h
  have := congrArg List.length h1
  simp only [List.length_append, List.length_cons] at this
  omega
theorem formatMoney_no (p : Int) (h : p < -1099511627776 ∨ 1099511627776 < p) (h1 : -9223372036854775808 ≤ p) (h2 : p ≤ 9223372036854775807) (w : World) :
    Calls Tryd.prog 52 #[.int .i64 p] w fun e w' => e = .returned (.tuple #[.string ⟨#[]⟩, .int .i64 1]) ∧ w = w' := by
  by_cases hd : p < -1099511627776
  · have d0 : decide (p < -1099511627776) = true := decide_eq_true hd
    go_enter Tryd.func52, Tryd.ntmps52
    go_wp2
    go_ret2
    exact ⟨rfl, rfl⟩
  · have d0 : decide (p < -1099511627776) = false := decide_eq_false hd
    have d1 : decide (1099511627776 < p) = true := decide_eq_true (by omega)
    go_enter Tryd.func52, Tryd.ntmps52
    go_wp2
    go_ret2
    exact ⟨rfl, rfl⟩
set_option maxRecDepth 100000 in
set_option maxHeartbeats 2000000 in
theorem formatMoney_yes (p : Int) (h1 : -1099511627776 ≤ p) (h2 : p ≤ 1099511627776) (w : World) (hl : LibOK w) :
    Calls Tryd.prog 52 #[.int .i64 p] w fun e w' => e = .returned (.tuple #[.string ⟨(moneyT p).toArray⟩, .int .i64 0]) ∧ Below w.heap.size w w' := by
  have d0 : decide (p < -1099511627776) = false := decide_eq_false (by omega)
  have d1 : decide (1099511627776 < p) = false := decide_eq_false (by omega)
  obtain ⟨m, hm⟩ : ∃ m, m = p.natAbs := ⟨_, rfl⟩
  have hm1 : m ≤ 1099511627776 := by omega
  have hmax : max p (-p) = (m : Int) := by omega
  have hT : moneyT p = if p < 0 then 45 :: join (wordsM m) [32] else join (wordsM m) [32] := by rw [moneyT, hm]
  have k1 : (itoa ((m : Int) / 240)).length ≤ 13 := by rw [← ediv240]; exact itoa_nat_len (by omega) (by omega)
  have k2 : (itoa ((m : Int) / 12 % 20)).length ≤ 13 := by rw [← ediv12]; exact itoa_nat_len (by omega) (by omega)
  have k3 : (itoa ((m : Int) % 12)).length ≤ 13 := by rw [← emod12]; exact itoa_nat_len (by omega) (by omega)
  have hjl : (join (wordsM m) [32]).length ≤ 50 := by
    by_cases h0 : m = 0
    · subst h0; decide +kernel
    · exact words_join_len hm1 h0
  have HT := Lib.hid hT
  have HL := Lib.hid hl
  clear hT hm hl
  go_enter Tryd.func52, Tryd.ntmps52
  go_upto_if 20 with fail
  go_cut [5] (fun v wx => ∃ xs : List ByteArray, OwnS wx w.heap.size v xs ∧ xs.map (·.data.toList) = mW1 m ∧ Below w.heap.size w wx)
  case first =>
    by_cases hc : 240 ≤ m
    · skip
      have hb : ((⟨(itoa ((m : Int) / 240)).toArray⟩ : ByteArray) ++ ⟨#[108]⟩).data.toList = itoa ((m : Int) / 240) ++ [108] := by rw [bytes_lit1, bytes_app2]
      have hw : mW1 m = [itoa ((m : Int) / 240) ++ [108]] := by rw [mW1, if_pos (by omega), ediv240]
      have HB := Lib.hid hb
      have HW := Lib.hid hw
      clear hb hw
      go_wp2_with fail
      refine (itoa_any _ (by omega) (by omega) _ HL.out).mono ?_
      rintro e w1 ⟨rfl, hb1⟩
      simp only [str]
      have hB1 : Below w.heap.size w w1 := hb1
      have hz := hB1.size
      have hO1 := OwnS.nil w1 w.heap.size
      have HB1 := Lib.hid hB1
      have HO1 := Lib.hid hO1
      clear hB1 hO1 hb1
      go_wp2_with (at_builtin; refine append_str (.tmp 21) (.tmp 26) rfl rfl w.heap.size _ [] _ w1 rfl rfl HO1.out rfl (by simp) hz ?_)
      intro v' w2 ho hg hd
      have HB2 := Lib.hid (HB1.out.grown hg hz (fun g hg => (HO1.out.lt g hg).1))
      have HO2 := Lib.hid ho
      clear ho hg hd
      go_wp2_with fail
      go_meet
      exact ⟨_, HO2.out, by rw [List.map_cons, List.map_nil, HB.out, HW.out], HB2.out⟩
    · go_wp2_with fail
      go_meet
      exact ⟨[], OwnS.nil _ _, by rw [mW1, if_neg (by omega)]; rfl, (by repeat' (first | (with_reducible exact Below.refl _ _) | (with_reducible assumption) | (with_reducible refine below_drewN ?_ _) | (with_reducible refine below_step (by assumption) ?_ ?_) | (with_reducible refine Below.alloc ?_ ?_ _) | (with_reducible refine Below.setCell ?_ ?_ _) | (with_reducible refine Below.drew ?_) | go_size | (exact Below.size (by assumption)) | (refine Nat.le_trans (Below.size (by assumption)) ?_)))⟩
  case rest =>
    obtain ⟨xs, hO, hX, hB⟩ := hcut
    have hxl : xs.length ≤ 1 := by have := congrArg List.length hX; have := (mW_len m).1; simp at *; omega
    have L1 := Lib.hid (HL.out.below hB)
    replace hO := Lib.hid hO
    replace hX := Lib.hid hX
    replace hB := Lib.hid hB
    go_upto_if 32 with fail
    go_cut [5] (fun v wx => ∃ xs : List ByteArray, OwnS wx w.heap.size v xs ∧ xs.map (·.data.toList) = mW1 m ++ mW2 m ∧ Below w.heap.size w wx)
    case first =>
      by_cases hc : 0 < m / 12 % 20
      · skip
        have hb : ((⟨(itoa ((m : Int) / 12 % 20)).toArray⟩ : ByteArray) ++ ⟨#[115]⟩).data.toList = itoa ((m : Int) / 12 % 20) ++ [115] := by rw [bytes_lit1, bytes_app2]
        have hw : mW2 m = [itoa ((m : Int) / 12 % 20) ++ [115]] := by rw [mW2, if_pos (by omega), ediv12]
        have HB := Lib.hid hb
        have HW := Lib.hid hw
        clear hb hw
        go_wp2_with fail
        refine (itoa_any _ (by omega) (by omega) _ L1.out).mono ?_
        rintro e w1 ⟨rfl, hb1⟩
        simp only [str]
        have hB1 : Below w.heap.size w w1 := hB.out.trans (hb1.mono hB.out.size)
        have hz := hB1.size
        have hO1 := hO.out.keep hb1
        have HB1 := Lib.hid hB1
        have HO1 := Lib.hid hO1
        clear hB1 hO1 hb1
        go_wp2_with (at_builtin; refine append_str (.tmp 33) (.tmp 37) rfl rfl w.heap.size _ xs _ w1 rfl rfl HO1.out rfl (by omega) hz ?_)
        intro v' w2 ho hg hd
        have HB2 := Lib.hid (HB1.out.grown hg hz (fun g hg => (HO1.out.lt g hg).1))
        have HO2 := Lib.hid ho
        clear ho hg hd
        go_wp2_with fail
        go_meet
        exact ⟨_, HO2.out, by rw [List.map_append, List.map_cons, List.map_nil, HB.out, HW.out, hX.out], HB2.out⟩
      · go_wp2_with fail
        go_meet
        exact ⟨xs, hO.out, by rw [hX.out, mW2, if_neg (by omega), List.append_nil], hB.out⟩
    case rest =>
      clear hO hX hB L1 hxl
      obtain ⟨xs, hO, hX, hB⟩ := hcut
      have hxl : xs.length ≤ 2 := by have := congrArg List.length hX; have := mW_len m; simp at *; omega
      have L1 := Lib.hid (HL.out.below hB)
      replace hO := Lib.hid hO
      replace hX := Lib.hid hX
      replace hB := Lib.hid hB
      go_upto_region 11 with fail
      go_cut [46] (fun v wx => v = .bool (decide (0 < m % 12 ∨ m = 0)) ∧ wx = wc)
      case first =>
        by_cases h3 : 0 < m % 12
        · have q : decide (0 < m % 12 ∨ m = 0) = true := decide_eq_true (.inl h3)
          have Q := Lib.hid q
          clear q
          go_wp2_with fail
          go_meet
          exact ⟨congrArg Value.bool Q.out.symm, rfl⟩
        · by_cases h4 : m = 0
          · have q : decide (0 < m % 12 ∨ m = 0) = true := decide_eq_true (.inr h4)
            have Q := Lib.hid q
            clear q
            have q4 : (m == 0) = true := by rw [h4]; rfl
            clear h4
            go_wp2_with fail
            go_meet
            exact ⟨congrArg Value.bool (by rw [Bool.eq_iff_iff, Bool.or_eq_true, decide_eq_true_iff, decide_eq_true_iff, beq_iff_eq]; omega), rfl⟩
          · have q : decide (0 < m % 12 ∨ m = 0) = false := decide_eq_false (by omega)
            have Q := Lib.hid q
            clear q
            have q4 : (m == 0) = false := by rw [beq_eq_false_iff_ne]; exact h4
            clear h4
            go_wp2_with fail
            go_meet
            exact ⟨congrArg Value.bool (by rw [Bool.eq_iff_iff, Bool.or_eq_true, decide_eq_true_iff, decide_eq_true_iff, beq_iff_eq]; omega), rfl⟩
      case rest =>
        obtain ⟨rfl, hwx⟩ := hcut
        rw [hwx]
        clear hwx
        go_upto_if 46 with fail
        go_cut [5] (fun v wx => ∃ xs : List ByteArray, OwnS wx w.heap.size v xs ∧ xs.map (·.data.toList) = wordsM m ∧ Below w.heap.size w wx)
        case first =>
          by_cases hc : m % 12 > 0 ∨ m = 0
          · rw [decide_eq_true hc]
            have hb : ((⟨(itoa ((m : Int) % 12)).toArray⟩ : ByteArray) ++ ⟨#[100]⟩).data.toList = itoa ((m : Int) % 12) ++ [100] := by rw [bytes_lit1, bytes_app2]
            have hw : mW3 m = [itoa ((m : Int) % 12) ++ [100]] := by rw [mW3, if_pos hc, emod12]
            have HB := Lib.hid hb
            have HW := Lib.hid hw
            clear hb hw hc
            go_wp2_with fail
            refine (itoa_any _ (by omega) (by omega) _ L1.out).mono ?_
            rintro e w1 ⟨rfl, hb1⟩
            simp only [str]
            have hB1 : Below w.heap.size w w1 := hB.out.trans (hb1.mono hB.out.size)
            have hz := hB1.size
            have hO1 := hO.out.keep hb1
            have HB1 := Lib.hid hB1
            have HO1 := Lib.hid hO1
            clear hB1 hO1 hb1
            go_wp2_with (at_builtin; refine append_str (.tmp 47) (.tmp 51) rfl rfl w.heap.size _ xs _ w1 rfl rfl HO1.out rfl (by omega) hz ?_)
            intro v' w2 ho hg hd
            have HB2 := Lib.hid (HB1.out.grown hg hz (fun g hg => (HO1.out.lt g hg).1))
            have HO2 := Lib.hid ho
            clear ho hg hd
            go_wp2_with fail
            go_meet
            exact ⟨_, HO2.out, by rw [List.map_append, List.map_cons, List.map_nil, HB.out, ← mW_all, HW.out, hX.out], HB2.out⟩
          · rw [decide_eq_false hc]
            have hw : mW3 m = [] := by rw [mW3, if_neg hc]
            have HW := Lib.hid hw
            clear hw hc
            go_wp2_with fail
            go_meet
            exact ⟨xs, hO.out, by rw [hX.out, ← mW_all, HW.out, List.append_nil], hB.out⟩
        case rest =>
          clear hO hX hB L1 hxl
          obtain ⟨xs, hO, hX, hB⟩ := hcut
          have hxl : xs.length ≤ 3 := by have := congrArg List.length hX; have := words_len m; simp at *; omega
          have hne : xs ≠ [] := fun h => by rw [h] at hX; exact words_ne m hX.symm
          obtain ⟨A, c, rfl, hI, hc⟩ := hO.isS
          have HX := Lib.hid hX
          have HI := Lib.hid hI
          have HN := Lib.hid hne
          have HB := Lib.hid hB
          clear hO hX hI hB hne
          go_wp2_with fail
          refine (join_any A c xs _ HI.out hc HN.out (by omega) (by rw [HX.out]; omega)).mono ?_
          rintro e w1 ⟨rfl, hb1⟩
          rw [HX.out]
          have B1 := Lib.hid (HB.out.trans (hb1.mono HB.out.size))
          clear hb1
          by_cases hn : p < 0
          · have hd : decide (p < 0) = true := decide_eq_true hn
            go_wp2
            go_ret2
            exact ⟨ret_si (by rw [HT.out, if_pos hn, bytes_lit1, bytes_app2]; rfl), B1.out⟩
          · have hd : decide (p < 0) = false := decide_eq_false hn
            go_wp2
            go_ret2
            exact ⟨ret_si (by rw [HT.out, if_neg (by omega)]), B1.out⟩
end Go.Proofs.YtclbjgelefbmlaaDoor
