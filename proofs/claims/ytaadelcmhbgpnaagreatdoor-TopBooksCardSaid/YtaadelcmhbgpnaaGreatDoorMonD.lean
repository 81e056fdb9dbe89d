/-
  FormatMoney, THE PROGRAM'S.
-/
import Derived.Test.YtaadelcmhbgpnaaGreatDoorMonB
import Derived.Test.YtaadelcmhbgpnaaGreatDoorTxtI
namespace Go.Proofs.YtaadelcmhbgpnaaGreatDoor
open Go.RowKit Go.Lib
def mW1 (m : Nat) : List (List UInt8) := if m / 240 > 0 then [itoa ((m / 240 : Nat) : Int) ++ [108]] else []
def mW2 (m : Nat) : List (List UInt8) := if m / 12 % 20 > 0 then [itoa ((m / 12 % 20 : Nat) : Int) ++ [115]] else []
def mW3 (m : Nat) : List (List UInt8) := if m % 12 > 0 ∨ m = 0 then [itoa ((m % 12 : Nat) : Int) ++ [100]] else []
theorem mW_all (m : Nat) : mW1 m ++ mW2 m ++ mW3 m = wordsM m := by rw [List.append_assoc]; rfl
theorem mW_len (m : Nat) : (mW1 m).length ≤ 1 ∧ (mW2 m).length ≤ 1 ∧ (mW3 m).length ≤ 1 := by
  unfold mW1 mW2 mW3
  refine ⟨?_, ?_, ?_⟩ <;> split <;> simp
/-- strings.Join of a list in memory. -/
theorem join_any (A : Option Addr) (c : Nat) (xs : List ByteArray) (w : World) (hI : IsS w A xs.length xs) (hc : xs.length ≤ c) (hne : xs ≠ []) (hN : xs.length ≤ 1000000) (hlen : (join (xs.map (·.data.toList)) [32]).length ≤ 1000000) :
    Calls Tryz.prog 115 #[.slice A xs.length c, .string ⟨#[32]⟩] w fun e w' => e = .returned (.string ⟨(join (xs.map (·.data.toList)) [32]).toArray⟩) ∧ Below w.heap.size w w' := by
  obtain ⟨b, o, rfl, hb, hcell⟩ := hI.2 (List.length_pos_iff.2 hne)
  refine (Tryz.strings_Join b o c xs ⟨#[32]⟩ w (fun j x hx => ?_) hb (by omega) hc (by show (join _ [32]).length ≤ _; omega)).mono fun e w' h => h
  obtain ⟨hj, rfl⟩ := List.getElem?_eq_some_iff.1 hx
  exact hcell j hj
theorem words_join_len {m : Nat} (h : m ≤ 1099511627776) (h0 : m ≠ 0) : (join (wordsM m) [32]).length ≤ 50 := by
  have h1 := mP_all h0
  obtain ⟨l1, l2, l3⟩ := mP_len h
  have := congrArg List.length h1
  simp only [List.length_append, List.length_cons] at this
  omega
theorem formatMoney_no (p : Int) (h : p < -1099511627776 ∨ 1099511627776 < p) (h1 : -9223372036854775808 ≤ p) (h2 : p ≤ 9223372036854775807) (w : World) :
    Calls Tryz.prog 90 #[.int .i64 p] w fun e w' => e = .returned (.tuple #[.string ⟨#[]⟩, .int .i64 1]) ∧ w = w' := by
  by_cases hd : p < -1099511627776
  · have d0 : decide (p < -1099511627776) = true := decide_eq_true hd
    go_enter Tryz.func90, Tryz.ntmps90
    go_wp2
    go_ret2
    exact ⟨rfl, rfl⟩
  · have d0 : decide (p < -1099511627776) = false := decide_eq_false hd
    have d1 : decide (1099511627776 < p) = true := decide_eq_true (by omega)
    go_enter Tryz.func90, Tryz.ntmps90
    go_wp2
    go_ret2
    exact ⟨rfl, rfl⟩
set_option maxRecDepth 100000 in
set_option maxHeartbeats 2000000 in
theorem formatMoney_yes (p : Int) (h1 : -1099511627776 ≤ p) (h2 : p ≤ 1099511627776) (w : World) (hl : LibOK w) :
    Calls Tryz.prog 90 #[.int .i64 p] w fun e w' => e = .returned (.tuple #[.string ⟨(moneyT p).toArray⟩, .int .i64 0]) ∧ Below w.heap.size w w' := by
  have d0 : decide (p < -1099511627776) = false := decide_eq_false (by omega)
  have d1 : decide (1099511627776 < p) = false := decide_eq_false (by omega)
  obtain ⟨m, hm⟩ : ∃ m, m = p.natAbs := ⟨_, rfl⟩
  have hm1 : m ≤ 1099511627776 := by omega
  have hmax : max p (-p) = (m : Int) := by omega
  have hT : moneyT p = if p < 0 then 45 :: join (wordsM m) [32] else join (wordsM m) [32] := by rw [moneyT, hm]
  have k1 : (itoa ((m : Int) / 240)).length ≤ 13 := by rw [← ediv240]; exact itoa_nat_len (by omega) (by omega)
  have k2 : (itoa ((m : Int) / 12 % 20)).length ≤ 13 := by rw [← ediv12]; exact itoa_nat_len (by omega) (by omega)
  have k3 : (itoa ((m : Int) % 12)).length ≤ 13 := by rw [← emod12]; exact itoa_nat_len (by omega) (by omega)
  have hjl : (join (wordsM m) [32]).length ≤ 50 := by
    by_cases h0 : m = 0
    · subst h0; decide +kernel
    · exact words_join_len hm1 h0
  have HT := Lib.hid hT
  have HL := Lib.hid hl
  clear hT hm hl
  go_enter Tryz.func90, Tryz.ntmps90
  go_upto_if 20 with fail
  go_cut [5] (fun v wx => ∃ xs : List ByteArray, OwnS wx w.heap.size v xs ∧ xs.map (·.data.toList) = mW1 m ∧ Below w.heap.size w wx)
  case first =>
    by_cases hc : 240 ≤ m
    · skip
      have hb : ((⟨(itoa ((m : Int) / 240)).toArray⟩ : ByteArray) ++ ⟨#[108]⟩).data.toList = itoa ((m : Int) / 240) ++ [108] := by rw [bytes_lit1, bytes_app2]
      have hw : mW1 m = [itoa ((m : Int) / 240) ++ [108]] := by rw [mW1, if_pos (by omega), ediv240]
      have HB := Lib.hid hb
      have HW := Lib.hid hw
      clear hb hw
      go_wp2_with fail
      refine (itoa_any _ (by omega) (by omega) _ HL.out).mono ?_
      rintro e w1 ⟨rfl, hb1⟩
      simp only [str]
      have hB1 : Below w.heap.size w w1 := hb1
      have hz := hB1.size
      have hO1 := OwnS.nil w1 w.heap.size
      have HB1 := Lib.hid hB1
      have HO1 := Lib.hid hO1
      clear hB1 hO1 hb1
      go_wp2_with (at_builtin; refine append_str (.tmp 21) (.tmp 26) rfl rfl w.heap.size _ [] _ w1 rfl rfl HO1.out rfl (by simp) hz ?_)
      intro v' w2 ho hg hd
      have HB2 := Lib.hid (HB1.out.grown hg hz (fun g hg => (HO1.out.lt g hg).1))
      have HO2 := Lib.hid ho
      clear ho hg hd
      go_wp2_with fail
      go_meet
      exact ⟨_, HO2.out, by rw [List.map_cons, List.map_nil, HB.out, HW.out], HB2.out⟩
    · go_wp2_with fail
      go_meet
      exact ⟨[], OwnS.nil _ _, by rw [mW1, if_neg (by omega)]; rfl, (by repeat' (first | (with_reducible exact Below.refl _ _) | (with_reducible assumption) | (with_reducible refine below_drewN ?_ _) | (with_reducible refine below_step (by assumption) ?_ ?_) | (with_reducible refine Below.alloc ?_ ?_ _) | (with_reducible refine Below.setCell ?_ ?_ _) | (with_reducible refine Below.drew ?_) | go_size | (exact Below.size (by assumption)) | (refine Nat.le_trans (Below.size (by assumption)) ?_)))⟩
  case rest =>
    obtain ⟨xs, hO, hX, hB⟩ := hcut
    have hxl : xs.length ≤ 1 := by have := congrArg List.length hX; have := (mW_len m).1; simp at *; omega
    have L1 := Lib.hid (HL.out.below hB)
    replace hO := Lib.hid hO
    replace hX := Lib.hid hX
    replace hB := Lib.hid hB
    go_upto_if 32 with fail
    go_cut [5] (fun v wx => ∃ xs : List ByteArray, OwnS wx w.heap.size v xs ∧ xs.map (·.data.toList) = mW1 m ++ mW2 m ∧ Below w.heap.size w wx)
    case first =>
      by_cases hc : 0 < m / 12 % 20
      · skip
        have hb : ((⟨(itoa ((m : Int) / 12 % 20)).toArray⟩ : ByteArray) ++ ⟨#[115]⟩).data.toList = itoa ((m : Int) / 12 % 20) ++ [115] := by rw [bytes_lit1, bytes_app2]
        have hw : mW2 m = [itoa ((m : Int) / 12 % 20) ++ [115]] := by rw [mW2, if_pos (by omega), ediv12]
        have HB := Lib.hid hb
        have HW := Lib.hid hw
        clear hb hw
        go_wp2_with fail
        refine (itoa_any _ (by omega) (by omega) _ L1.out).mono ?_
        rintro e w1 ⟨rfl, hb1⟩
        simp only [str]
        have hB1 : Below w.heap.size w w1 := hB.out.trans (hb1.mono hB.out.size)
        have hz := hB1.size
        have hO1 := hO.out.keep hb1
        have HB1 := Lib.hid hB1
        have HO1 := Lib.hid hO1
        clear hB1 hO1 hb1
        go_wp2_with (at_builtin; refine append_str (.tmp 33) (.tmp 37) rfl rfl w.heap.size _ xs _ w1 rfl rfl HO1.out rfl (by omega) hz ?_)
        intro v' w2 ho hg hd
        have HB2 := Lib.hid (HB1.out.grown hg hz (fun g hg => (HO1.out.lt g hg).1))
        have HO2 := Lib.hid ho
        clear ho hg hd
        go_wp2_with fail
        go_meet
        exact ⟨_, HO2.out, by rw [List.map_append, List.map_cons, List.map_nil, HB.out, HW.out, hX.out], HB2.out⟩
      · go_wp2_with fail
        go_meet
        exact ⟨xs, hO.out, by rw [hX.out, mW2, if_neg (by omega), List.append_nil], hB.out⟩
    case rest =>
      clear hO hX hB L1 hxl
      obtain ⟨xs, hO, hX, hB⟩ := hcut
      have hxl : xs.length ≤ 2 := by have := congrArg List.length hX; have := mW_len m; simp at *; omega
      have L1 := Lib.hid (HL.out.below hB)
      replace hO := Lib.hid hO
      replace hX := Lib.hid hX
      replace hB := Lib.hid hB
      go_upto_region 11 with fail
      go_cut [46] (fun v wx => v = .bool (decide (0 < m % 12 ∨ m = 0)) ∧ wx = wc)
      case first =>
        by_cases h3 : 0 < m % 12
        · have q : decide (0 < m % 12 ∨ m = 0) = true := decide_eq_true (.inl h3)
          have Q := Lib.hid q
          clear q
          go_wp2_with fail
          go_meet
          exact ⟨congrArg Value.bool Q.out.symm, rfl⟩
        · by_cases h4 : m = 0
          · have q : decide (0 < m % 12 ∨ m = 0) = true := decide_eq_true (.inr h4)
            have Q := Lib.hid q
            clear q
            have q4 : (m == 0) = true := by rw [h4]; rfl
            clear h4
            go_wp2_with fail
            go_meet
            exact ⟨congrArg Value.bool (by rw [Bool.eq_iff_iff, Bool.or_eq_true, decide_eq_true_iff, decide_eq_true_iff, beq_iff_eq]; omega), rfl⟩
          · have q : decide (0 < m % 12 ∨ m = 0) = false := decide_eq_false (by omega)
            have Q := Lib.hid q
            clear q
            have q4 : (m == 0) = false := by rw [beq_eq_false_iff_ne]; exact h4
            clear h4
            go_wp2_with fail
            go_meet
            exact ⟨congrArg Value.bool (by rw [Bool.eq_iff_iff, Bool.or_eq_true, decide_eq_true_iff, decide_eq_true_iff, beq_iff_eq]; omega), rfl⟩
      case rest =>
        obtain ⟨rfl, hwx⟩ := hcut
        rw [hwx]
        clear hwx
        go_upto_if 46 with fail
        go_cut [5] (fun v wx => ∃ xs : List ByteArray, OwnS wx w.heap.size v xs ∧ xs.map (·.data.toList) = wordsM m ∧ Below w.heap.size w wx)
        case first =>
          by_cases hc : m % 12 > 0 ∨ m = 0
          · rw [decide_eq_true hc]
            have hb : ((⟨(itoa ((m : Int) % 12)).toArray⟩ : ByteArray) ++ ⟨#[100]⟩).data.toList = itoa ((m : Int) % 12) ++ [100] := by rw [bytes_lit1, bytes_app2]
            have hw : mW3 m = [itoa ((m : Int) % 12) ++ [100]] := by rw [mW3, if_pos hc, emod12]
            have HB := Lib.hid hb
            have HW := Lib.hid hw
            clear hb hw hc
            go_wp2_with fail
            refine (itoa_any _ (by omega) (by omega) _ L1.out).mono ?_
            rintro e w1 ⟨rfl, hb1⟩
            simp only [str]
            have hB1 : Below w.heap.size w w1 := hB.out.trans (hb1.mono hB.out.size)
            have hz := hB1.size
            have hO1 := hO.out.keep hb1
            have HB1 := Lib.hid hB1
            have HO1 := Lib.hid hO1
            clear hB1 hO1 hb1
            go_wp2_with (at_builtin; refine append_str (.tmp 47) (.tmp 51) rfl rfl w.heap.size _ xs _ w1 rfl rfl HO1.out rfl (by omega) hz ?_)
            intro v' w2 ho hg hd
            have HB2 := Lib.hid (HB1.out.grown hg hz (fun g hg => (HO1.out.lt g hg).1))
            have HO2 := Lib.hid ho
            clear ho hg hd
            go_wp2_with fail
            go_meet
            exact ⟨_, HO2.out, by rw [List.map_append, List.map_cons, List.map_nil, HB.out, ← mW_all, HW.out, hX.out], HB2.out⟩
          · rw [decide_eq_false hc]
            have hw : mW3 m = [] := by rw [mW3, if_neg hc]
            have HW := Lib.hid hw
            clear hw hc
            go_wp2_with fail
            go_meet
            exact ⟨xs, hO.out, by rw [hX.out, ← mW_all, HW.out, List.append_nil], hB.out⟩
        case rest =>
          clear hO hX hB L1 hxl
          obtain ⟨xs, hO, hX, hB⟩ := hcut
          have hxl : xs.length ≤ 3 := by have := congrArg List.length hX; have := words_len m; simp at *; omega
          have hne : xs ≠ [] := fun h => by rw [h] at hX; exact words_ne m hX.symm
          obtain ⟨A, c, rfl, hI, hc⟩ := hO.isS
          have HX := Lib.hid hX
          have HI := Lib.hid hI
          have HN := Lib.hid hne
          have HB := Lib.hid hB
          clear hO hX hI hB hne
          go_wp2_with fail
          refine (join_any A c xs _ HI.out hc HN.out (by omega) (by rw [HX.out]; omega)).mono ?_
          rintro e w1 ⟨rfl, hb1⟩
          rw [HX.out]
          have B1 := Lib.hid (HB.out.trans (hb1.mono HB.out.size))
          clear hb1
          by_cases hn : p < 0
          · have hd : decide (p < 0) = true := decide_eq_true hn
            go_wp2
            go_ret2
            exact ⟨ret_si (by rw [HT.out, if_pos hn, bytes_lit1, bytes_app2]; rfl), B1.out⟩
          · have hd : decide (p < 0) = false := decide_eq_false hn
            go_wp2
            go_ret2
            exact ⟨ret_si (by rw [HT.out, if_neg (by omega)]), B1.out⟩
end Go.Proofs.YtaadelcmhbgpnaaGreatDoor
/-
  ParseMoney, THE PROGRAM'S.
-/
namespace Go.Proofs.YtaadelcmhbgpnaaGreatDoor
open Go.RowKit Go.Lib
/-- strings.Split at one byte. -/
theorem split32_any (s : ByteArray) (hs : s.size ≤ 900000) (w : World) (hl : LibOK w) :
    Calls Tryz.prog 88 #[.string s, .string ⟨#[32]⟩] w (OutS w (splitL 32 s.data.toList)) := by
  obtain ⟨m, hm⟩ := hl.mx
  refine (Tryz.strings_Split s ⟨#[32]⟩ m w (by omega) hm (by decide)).mono ?_
  rintro e w' ⟨rfl, rfl⟩
  obtain ⟨xs, hxs⟩ : ∃ xs, xs = splitB ⟨#[32]⟩ 0 (countB s ⟨#[32]⟩) s := ⟨_, rfl⟩
  have hlen : xs.length = countB s ⟨#[32]⟩ + 1 := by rw [hxs]; exact splitB_all _ (by decide) 0 _ s rfl
  rw [← hxs]
  refine ⟨some ⟨w.heap.size, 0, none⟩, xs.length, xs, by rw [hlen], ⟨rfl, fun _ => ⟨w.heap.size, 0, rfl, by simp, fun i hi => ?_⟩⟩, by rw [hxs]; exact splitB_one s 32, (Below.refl _ _).alloc (Nat.le_refl _) _⟩
  rw [cell_of_row _ _ _ _ _ (0, 0) (heap_alloc_new w _)]
  simp [hi]
theorem splitL_count (b : UInt8) (l : List UInt8) : (splitL b l).length ≤ l.length + 1 := by
  induction l with
  | nil => simp [splitL]
  | cons c r ih =>
    simp only [splitL]
    split
    · simp; omega
    · split
      · simp
      · rename_i q ps he
        rw [he] at ih
        simp at ih ⊢; omega
theorem splitL_sum (b : UInt8) (l : List UInt8) : ((splitL b l).map List.length).sum ≤ l.length := by
  induction l with
  | nil => simp [splitL]
  | cons c r ih =>
    simp only [splitL]
    split
    · simp; omega
    · split
      · simp
      · rename_i q ps he
        rw [he] at ih
        simp at ih ⊢; omega
theorem atoi_pow {l : List UInt8} {v : Int} (h : atoiAll l = .ok v) : -((10 ^ l.length : Nat) : Int) < v ∧ v < ((10 ^ l.length : Nat) : Int) := by
  have hm : ∀ m : List UInt8, m.length ≤ l.length → ∀ u, parseMag m = .ok u → u < 10 ^ l.length := by
    intro m hm u hu
    unfold parseMag at hu
    split at hu
    · cases hu
    · obtain ⟨e1, e2⟩ := val_parse _ _ _ hu
      have := val_lt m e2
      rw [e1] at this
      exact Nat.lt_of_lt_of_le this (Nat.pow_le_pow_right (by omega) hm)
  unfold atoiAll at h
  split at h
  · cases h
  · rename_i c r
    simp only [] at h
    split at h
    · cases h
    · cases h
    · rename_i u hu
      have := hm _ (by split <;> simp) u hu
      obtain ⟨P, hP⟩ : ∃ P, P = 10 ^ (c :: r).length := ⟨_, rfl⟩
      rw [← hP] at this ⊢
      split at h
      · cases h
      · split at h
        · cases h
        · injection h with h
          split at h <;> omega
theorem pow_word : ∀ k, k ≤ 13 → 240 * 10 ^ k ≤ (k + 1) * 171428571428572 := by decide
theorem atoi_word {l : List UInt8} {v : Int} {m : Nat} (hm : l.length + 1 = m) (hl : l.length ≤ 13) (h : atoiAll l = .ok v) : -((m : Int) * 171428571428572) ≤ 240 * v ∧ 240 * v ≤ (m : Int) * 171428571428572 := by
  have h1 := atoi_pow h
  have h2 := pow_word _ hl
  rw [hm] at h2
  obtain ⟨P, hP⟩ : ∃ P, P = 10 ^ l.length := ⟨_, rfl⟩
  rw [← hP] at h1 h2
  omega
def szs (xs : List ByteArray) : Nat := (xs.map (·.size)).sum
theorem szs_take {xs : List ByteArray} {k : Nat} (h : k < xs.length) : szs (xs.take (k + 1)) = szs (xs.take k) + xs[k].size := by
  unfold szs
  rw [List.take_succ_eq_append_getElem h, List.map_append, List.sum_append]
  rfl
theorem szs_le : ∀ (xs : List ByteArray) (k : Nat), szs (xs.take k) ≤ szs xs
  | [], k => by simp [szs]
  | x :: xs, 0 => by simp [szs]
  | x :: xs, k + 1 => by
    have := szs_le xs k
    unfold szs at this ⊢
    rw [List.take_succ_cons, List.map_cons, List.map_cons, List.sum_cons, List.sum_cons]
    omega
theorem trim45 (s : ByteArray) : trimPrefix s.data.toList [45] = bdy s.data.toList ∧ hasPrefix s.data.toList [45] = decide (s.data.toList.head? = some 45) := by
  have h2 : hasPrefix s.data.toList [45] = decide (s.data.toList.head? = some 45) := by
    unfold hasPrefix
    cases s.data.toList with
    | nil => rfl
    | cons c r =>
      rw [Bool.eq_iff_iff]
      simp [List.isPrefixOf]
      exact eq_comm
  refine ⟨?_, h2⟩
  unfold trimPrefix bdy
  rw [h2]
  by_cases h : s.data.toList.head? = some 45
  · rw [if_pos (decide_eq_true h), if_pos h]; rfl
  · rw [if_neg (by simpa using h), if_neg h]
set_option maxRecDepth 100000 in
set_option maxHeartbeats 2000000 in
theorem parseMoney_any (s : ByteArray) (hs : s.size ≤ 30000) (w : World) (hl : LibOK w) :
    Calls Tryz.prog 66 #[.string s] w (OutM w s.data.toList) := by
  obtain ⟨t, ht⟩ : ∃ t, t = s.data.toList := ⟨_, rfl⟩
  obtain ⟨g, hg⟩ : ∃ g, g = decide (s.data.toList.head? = some 45) := ⟨_, rfl⟩
  obtain ⟨b, hb⟩ : ∃ b : ByteArray, b = ⟨(bdy s.data.toList).toArray⟩ := ⟨_, rfl⟩
  have hbd : b.data.toList = bdy t := by rw [hb, ht]
  have hbs : b.size ≤ 30000 := by
    have h1 : b.size = (bdy t).length := by rw [← hbd]; simp
    have h2 : (bdy t).length ≤ t.length := by unfold bdy; split <;> simp
    have h3 : t.length = s.size := by rw [ht]; simp
    omega
  have hcp : ∀ w, Calls Tryz.prog 87 #[.string s, .string ⟨#[45]⟩] w fun e w' => e = .returned (.tuple #[.string b, .bool g]) ∧ w' = w := fun w => by
    have := Tryz.strings_CutPrefix s ⟨#[45]⟩ w
    rw [show (⟨#[45]⟩ : ByteArray).data.toList = [45] from rfl, (trim45 s).1, (trim45 s).2, ← hb, ← hg] at this
    exact this
  have HT := Lib.hid ht
  have HG := Lib.hid hg
  have HBD := Lib.hid hbd
  have HCP := Lib.hid hcp
  have HL := Lib.hid hl
  rw [← ht]
  clear ht hg hb hbd hcp hl
  go_enter Tryz.func66, Tryz.ntmps66
  go_wp2_with fail
  refine (HCP.out _).mono ?_
  rintro e w' ⟨rfl, rfl⟩
  go_wp2_with fail
  refine (split32_any b (by omega) _ HL.out).mono ?_
  rintro e w1 ⟨A, c, xs, rfl, hI, hm, hb1⟩
  rw [HBD.out] at hm
  have HM := Lib.hid hm
  have hsz : ∀ x ∈ xs, x.size ≤ 30000 := by
    intro x hx
    have := splitL_len 32 (bdy t) x.data.toList (by rw [← hm]; exact List.mem_map.2 ⟨x, hx, rfl⟩)
    rw [← HBD.out] at this
    simp at this; omega
  have hxl : xs.length ≤ 30001 := by
    have h1 := congrArg List.length hm
    have h2 := splitL_count 32 (bdy t)
    rw [← HBD.out] at h1 h2
    simp at h1 h2; omega
  have hss : szs xs ≤ 30000 := by
    have h2 := splitL_sum 32 (bdy t)
    rw [← hm, ← HBD.out] at h2
    unfold szs
    simp [Function.comp_def] at h2 ⊢
    omega
  have HSS := Lib.hid hss
  have HI := Lib.hid hI
  have HB1 := Lib.hid hb1
  have HSZ := Lib.hid hsz
  have L1 := Lib.hid (HL.out.below hb1)
  have OP := fun a h0 h1 h => own_piece (a := a) HM.out h0 h1 h
  have HOP := Lib.hid OP
  clear hm hI hb1 hsz OP hss
  go_wp2
  go_loopw [6, 21] (fun v i wr => ∃ (S : Int) (k Z : Nat), v = .int .i64 S ∧ i = .int .i64 k ∧ k ≤ xs.length ∧ -(Z * 171428571428572) ≤ S ∧ S ≤ Z * 171428571428572 ∧ Hid (Below w1.heap.size w1 wr ∧ S = sumW ((xs.take k).map (·.data.toList))) ∧ Hid (Z = szs (xs.take k))) (fun _ i _ => xs.length - (RowKit.intOf i).toNat)
  case atStart => exact ⟨0, 0, 0, rfl, rfl, by omega, by omega, by omega, Lib.hid ⟨Below.refl _ _, by simp [sumW]⟩, Lib.hid (by simp [szs])⟩
  case round =>
    obtain ⟨S, k, Z, rfl, rfl, hk, hS0, hS1, hr, hZ⟩ := hrel
    have hZb : Z ≤ 30000 := by rw [hZ.out]; exact Nat.le_trans (szs_le _ _) HSS.out
    by_cases hlt : k < xs.length
    · have hI := HI.out.below hr.out.1
      obtain ⟨gb, go, rfl, hgb, hcell⟩ := hI.2 (by omega)
      have q0 := hcell k hlt
      obtain ⟨x, hx⟩ : ∃ x, xs[k] = x := ⟨_, rfl⟩
      rw [hx] at q0
      have hxs := HSZ.out x (by rw [← hx]; exact List.getElem_mem _)
      have hxm : x ∈ xs := by rw [← hx]; exact List.getElem_mem _
      have hso := sumW_take hlt
      rw [hx, ← hr.out.2] at hso
      have hzo := szs_take hlt
      rw [hx, ← hZ.out] at hzo
      have hZx : Z + x.size ≤ 30000 := by rw [← hzo]; exact Nat.le_trans (szs_le _ _) HSS.out
      have HZO := Lib.hid hzo.symm
      have HSO := Lib.hid hso
      have HXM := Lib.hid hxm
      clear hcell hI hso hxm hx hzo hZ
      by_cases hbad : x.size = 0 ∨ 14 < x.size
      · have HP : Hid (PrsM t 0 3) := prsM_no fun a h0 h1 h => by
          obtain ⟨-, h3⟩ := HOP.out a h0 h1 h
          obtain ⟨v, u, -, -, -, h4, h5⟩ := h3 x HXM.out
          omega
        have B2 := Lib.hid (HB1.out.trans (hr.out.1.mono HB1.out.size))
        by_cases hx0 : x.size = 0
        · have he : x.toList.isEmpty = true := by rw [Lib.toList_data, List.isEmpty_iff]; apply List.eq_nil_of_length_eq_zero; simpa using hx0
          clear hbad hx0
          go_wp2
          go_ret2
          exact ⟨0, 3, rfl, HP.out, B2.out⟩
        · have he : x.toList.isEmpty = false := by
            rw [Lib.toList_data, List.isEmpty_eq_false_iff]
            intro e
            apply hx0
            have := congrArg List.length e
            simpa using this
          have h14 : decide (14 < (x.size : Int)) = true := decide_eq_true (by omega)
          clear hbad hx0
          go_wp2
          go_ret2
          exact ⟨0, 3, rfl, HP.out, B2.out⟩
      · have he : x.toList.isEmpty = false := by
          rw [Lib.toList_data, List.isEmpty_eq_false_iff]
          intro e
          have := congrArg List.length e
          exact hbad (.inl (by simpa using this))
        have h14 : decide (14 < (x.size : Int)) = false := decide_eq_false (by omega)
        have hx1 : 1 ≤ x.size ∧ x.size ≤ 14 := by omega
        obtain ⟨hx1, hx14⟩ := hx1
        clear hbad
        have hla := last_app x (by omega)
        obtain ⟨u, hu⟩ : ∃ u, x[x.size - 1] = u := ⟨_, rfl⟩
        rw [hu] at hla
        have HLA := Lib.hid hla
        have L2 := Lib.hid (L1.out.below hr.out.1)
        clear hla
        go_wp2_with fail
        refine (atoi_any _ (by simp; omega) _ L2.out).mono ?_
        rintro e w2 ⟨n, er, rfl, hn1, hn2, hn3, hb2⟩
        have B2 := Lib.hid (hr.out.1.trans (hb2.mono hr.out.1.size))
        clear hb2
        have hxe : (x.extract 0 (x.size - 1)).data.toList.length ≤ 13 := by simp; omega
        rcases hn3 with ⟨rfl, hok⟩ | ⟨⟨N, rfl⟩, hno⟩
        case inr =>
          have HP : Hid (PrsM t 0 3) := prsM_no fun a h0 h1 h => by
            obtain ⟨-, h3⟩ := HOP.out a h0 h1 h
            obtain ⟨v, u', g1, g2, -⟩ := h3 x HXM.out
            have := List.append_inj' (HLA.out.symm.trans g1) rfl
            exact hno v (by rw [this.1]; exact atoi_itoa _ (by omega) (by omega))
          have B3 := Lib.hid (HB1.out.trans (B2.out.mono HB1.out.size))
          clear hno
          go_wp2
          go_ret2
          exact ⟨0, 3, rfl, HP.out, B3.out⟩
        case inl =>
          have hbd := atoi_word (m := x.size) (by simp; omega) hxe hok
          have hw : wval x.data.toList = if u = 108 then 240 * n else if u = 115 then 12 * n else if u = 100 then n else 0 := by
            rw [HLA.out]
            exact wval_ok hok
          have HW := Lib.hid hw
          clear hw hok hxe
          have nq : ∀ c : UInt8, u ≠ c → ((x[x.size - 1].toNat : Int) == (c.toNat : Int)) = false := fun c h => by
            rw [hu, beq_eq_false_iff_ne]
            intro e
            exact h (UInt8.toNat.inj (by omega))
          by_cases e1 : u = 108
          · have q1 : ((x[x.size - 1].toNat : Int) == 108) = true := by rw [hu, e1]; decide
            have hS : S + 240 * n = sumW ((xs.take (k + 1)).map (·.data.toList)) := by rw [HSO.out, HW.out, if_pos e1]
            have HS := Lib.hid hS
            clear nq hu e1 hS
            go_wp2
            go_roundw
            case rel => exact ⟨S + 240 * n, k + 1, Z + x.size, by go_num, by go_num, by omega, by omega, by omega, Lib.hid ⟨B2.out, HS.out⟩, HZO⟩
            case measure => simp [RowKit.intOf]; omega
          · have q1 : ((x[x.size - 1].toNat : Int) == 108) = false := nq 108 e1
            by_cases e2 : u = 115
            · have q2 : ((x[x.size - 1].toNat : Int) == 115) = true := by rw [hu, e2]; decide
              have hS : S + 12 * n = sumW ((xs.take (k + 1)).map (·.data.toList)) := by rw [HSO.out, HW.out, if_neg e1, if_pos e2]
              have HS := Lib.hid hS
              clear nq hu e1 e2 hS
              go_wp2
              go_roundw
              case rel => exact ⟨S + 12 * n, k + 1, Z + x.size, by go_num, by go_num, by omega, by omega, by omega, Lib.hid ⟨B2.out, HS.out⟩, HZO⟩
              case measure => simp [RowKit.intOf]; omega
            · have q2 : ((x[x.size - 1].toNat : Int) == 115) = false := nq 115 e2
              by_cases e3 : u = 100
              · have q3 : ((x[x.size - 1].toNat : Int) == 100) = true := by rw [hu, e3]; decide
                have hS : S + n = sumW ((xs.take (k + 1)).map (·.data.toList)) := by rw [HSO.out, HW.out, if_neg e1, if_neg e2, if_pos e3]
                have HS := Lib.hid hS
                clear nq hu e1 e2 e3 hS
                go_wp2
                go_roundw
                case rel => exact ⟨S + n, k + 1, Z + x.size, by go_num, by go_num, by omega, by omega, by omega, Lib.hid ⟨B2.out, HS.out⟩, HZO⟩
                case measure => simp [RowKit.intOf]; omega
              · have q3 : ((x[x.size - 1].toNat : Int) == 100) = false := nq 100 e3
                have hS : S = sumW ((xs.take (k + 1)).map (·.data.toList)) := by rw [HSO.out, HW.out, if_neg e1, if_neg e2, if_neg e3]; omega
                have HS := Lib.hid hS
                clear nq hu e1 e2 e3 hS
                go_wp2
                go_roundw
                case rel => exact ⟨S, k + 1, Z + x.size, rfl, by go_num, by omega, by omega, by omega, Lib.hid ⟨B2.out, HS.out⟩, HZO⟩
                case measure => simp [RowKit.intOf]; omega
    · clear hZ
      have hk' : k = xs.length := by omega
      obtain ⟨V, hV⟩ : ∃ V, V = (if g = true then -S else S) := ⟨_, rfl⟩
      have cp : ∀ a, -1099511627776 ≤ a → a ≤ 1099511627776 → moneyT a = t → V = a := by
        intro a h0 h1 h
        have := own_sum h0 h1 h
        rw [← HM.out] at this
        have hS := hr.out.2
        rw [hk', List.take_of_length_le (Nat.le_refl _)] at hS
        rw [← hS] at this
        rw [hV, HG.out, ← HT.out]
        by_cases hh : t.head? = some 45
        · rw [if_pos (decide_eq_true hh)]; rw [if_pos hh] at this; exact this
        · rw [if_neg (by simpa using hh)]; rw [if_neg hh] at this; exact this
      have hsb : -7300000000000000000 ≤ V ∧ V ≤ 7300000000000000000 := by rw [hV]; split <;> omega
      have CP := Lib.hid cp
      have B2 := Lib.hid (HB1.out.trans (hr.out.1.mono HB1.out.size))
      have L2 := Lib.hid (L1.out.below hr.out.1)
      have HV := Lib.hid hV
      clear cp hV hk'
      go_upto_if 66 with fail
      go_cut [6] (fun v wx => v = .int .i64 V ∧ wx = wr)
      case first =>
        cases g
        · have hv : V = S := by rw [HV.out, if_neg (by decide)]
          subst hv
          go_wp2_with fail
          go_meet
          exact ⟨rfl, rfl⟩
        · have hv : V = -S := by rw [HV.out, if_pos rfl]
          have HVV := Lib.hid hv
          clear hv
          go_wp2_with fail
          go_meet
          exact ⟨by rw [HVV.out], rfl⟩
      case rest =>
      obtain ⟨rfl, hwx⟩ := hcut
      rw [hwx]
      clear hwx
      by_cases hr1 : -1099511627776 ≤ V ∧ V ≤ 1099511627776
      · obtain ⟨r1, r2⟩ := hr1
        by_cases hq : moneyT V = t
        · have HP : Hid (PrsM t V 0) := .inl ⟨rfl, r1, r2, hq⟩
          have q1 : (moneyT V == s.toList) = true := by rw [Lib.toList_data, ← HT.out, hq]; simp
          have q2 : (moneyT V != s.toList) = false := by rw [Lib.toList_data, ← HT.out, hq]; simp
          clear hq CP
          go_wp2_with fail
          refine (formatMoney_yes V r1 r2 _ L2.out).mono ?_
          rintro e w5 ⟨rfl, hb5⟩
          go_wp2
          go_ret2
          exact ⟨V, 0, rfl, HP.out, B2.out.trans (hb5.mono B2.out.size)⟩
        · have HP : Hid (PrsM t 0 3) := prsM_no fun a h0 h1 h => by
            have := CP.out a h0 h1 h
            subst this
            exact hq h
          have q1 : (moneyT V == s.toList) = false := by rw [Lib.toList_data, ← HT.out, beq_eq_false_iff_ne]; exact hq
          have q2 : (moneyT V != s.toList) = true := by rw [Lib.toList_data, ← HT.out, bne_iff_ne]; exact hq
          clear hq CP
          go_wp2_with fail
          refine (formatMoney_yes V r1 r2 _ L2.out).mono ?_
          rintro e w5 ⟨rfl, hb5⟩
          go_wp2
          go_ret2
          exact ⟨0, 3, rfl, HP.out, B2.out.trans (hb5.mono B2.out.size)⟩
      · have HP : Hid (PrsM t 0 3) := prsM_no fun a h0 h1 h => by
          have := CP.out a h0 h1 h
          subst this
          exact hr1 ⟨h0, h1⟩
        have r3 : V < -1099511627776 ∨ 1099511627776 < V := by omega
        have R3 := Lib.hid r3
        clear r3 hr1 CP
        go_wp2_with fail
        refine (formatMoney_no V R3.out (by omega) (by omega) _).mono ?_
        rintro e w5 ⟨rfl, rfl⟩
        go_wp2
        go_ret2
        exact ⟨0, 3, rfl, HP.out, B2.out⟩
end Go.Proofs.YtaadelcmhbgpnaaGreatDoor
