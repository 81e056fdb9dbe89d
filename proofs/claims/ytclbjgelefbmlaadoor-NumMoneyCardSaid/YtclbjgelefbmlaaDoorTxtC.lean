/-
  Number, THE REFERENCE'S: THE WALK.
-/
import Derived.Test.YtclbjgelefbmlaaDoorTxtB
import Derived.Lib.Strings
namespace Go.Proofs.YtclbjgelefbmlaaDoor
open Go.RowKit Go.Lib
theorem at_list (s : ByteArray) (k : Nat) (h : k < s.size) : s.data.toList[k]? = some s[k] := by
  rw [List.getElem?_eq_getElem (by simpa using h)]; rfl
theorem drop_take_snoc (s : ByteArray) (i k : Nat) (h : k < s.size) (hi : i ≤ k) : (s.data.toList.drop i).take (k + 1 - i) = (s.data.toList.drop i).take (k - i) ++ [s[k]] := by
  have hk : k - i < (s.data.toList.drop i).length := by simp; omega
  rw [show k + 1 - i = (k - i) + 1 by omega, List.take_succ_eq_append_getElem hk]
  congr 2
  simp only [List.getElem_drop]
  have : i + (k - i) = k := by omega
  simp only [this]
  rfl
theorem eql_str (a : List UInt8) (s : ByteArray) : ((⟨a.toArray⟩ : ByteArray).toList == s.toList) = (a == s.data.toList) := by
  rw [Lib.toList_data, Lib.toList_data]
theorem itoa_shape {l : List UInt8} {v : Int} (h0 : -1000000000000000 < v) (h1 : v < 1000000000000000) (h : l = itoa v) : (l.head? = some 45 ∧ 1 ≤ (l.drop 1).length ∧ (l.drop 1).length ≤ 15 ∧ ∀ c ∈ l.drop 1, 48 ≤ c.toNat ∧ c.toNat ≤ 57) ∨ (l.head? ≠ some 45 ∧ 1 ≤ (l.drop 0).length ∧ (l.drop 0).length ≤ 15 ∧ ∀ c ∈ l.drop 0, 48 ≤ c.toNat ∧ c.toNat ≤ 57) := by
  obtain ⟨p1, p2, p3, -⟩ := itoa_parts h0 h1
  have pa := dec_all v.natAbs
  rcases p1 with ⟨-, q⟩ | ⟨-, q⟩
  · rw [q] at h
    subst h
    exact .inl ⟨rfl, p2, p3, pa⟩
  · rw [q] at h
    subst h
    refine .inr ⟨fun hh => ?_, p2, p3, pa⟩
    cases hd : decDigits v.natAbs with
    | nil => rw [hd] at hh; simp at hh
    | cons c r =>
      rw [hd] at hh
      simp only [List.head?_cons, Option.some.injEq] at hh
      subst hh
      exact dec_head hd.symm
theorem head_drop {l : List UInt8} {c : UInt8} (h : l.head? = some c) : l = c :: l.drop 1 := by
  cases l with
  | nil => simp at h
  | cons x l => simp only [List.head?_cons, Option.some.injEq] at h; subst h; rfl
theorem mem_drop_of (s : ByteArray) (i k : Nat) (h : k < s.size) (hi : i ≤ k) : s[k] ∈ s.data.toList.drop i := by
  have : (s.data.toList.drop i)[k - i]? = some s[k] := by rw [List.getElem?_drop, show i + (k - i) = k by omega]; exact at_list s k h
  exact List.mem_of_getElem? this
set_option maxRecDepth 100000 in
set_option maxHeartbeats 400000 in
theorem number_pos (s : ByteArray) (hs : s.size ≤ 1000000) (w : World) (hf : s.data.toList.head? ≠ some 45) :
    Calls Tryd.prog 78 #[.string s] w (OutN w s.data.toList) := by
  have HF := Lib.hid hf
  by_cases hz : s.size = 0
  · have c1 : ¬ (1 ≤ (s.size : Int) ∧ (s.size : Int) ≤ 15) := by omega
    have dz : decide (0 < s.size) = false := decide_eq_false (by omega)
    have HZ := Lib.hid hz
    clear hz
    go_enter Tryd.func78, Tryd.ntmps78
    go_wp2_with (go_at_call 60; refine (within_no _ _ _ c1 _).mono ?_; rintro e w' ⟨rfl, rfl⟩)
    go_ret2
    refine OutN.no (fun v h1 h2 h3 => ?_) (Below.refl _ _)
    rcases itoa_shape h1 h2 h3 with ⟨g1, -, -, -⟩ | ⟨g1, g2, -, -⟩
    · exact absurd g1 HF.out
    · have := HZ.out; simp at g2; omega
  have hp : 0 < s.size := by omega
  have e0 : ((s[0].toNat : Int) == 45) = false := by
    rw [beq_eq_false_iff_ne]
    intro hc
    apply hf
    rw [List.head?_eq_getElem?, at_list s 0 hp]
    congr 1
    apply UInt8.toNat.inj
    show s[0].toNat = 45
    omega
  clear hf hz
  by_cases c1 : 1 ≤ ((s.size : Int) : Int) ∧ ((s.size : Int) : Int) ≤ 15
  case neg =>
    go_enter Tryd.func78, Tryd.ntmps78
    go_wp2_with (go_at_call 60; refine (within_no _ _ _ c1 _).mono ?_; rintro e w' ⟨rfl, rfl⟩)
    go_ret2
    refine OutN.no (fun v h1 h2 h3 => ?_) (Below.refl _ _)
    rcases itoa_shape h1 h2 h3 with ⟨g1, g2, g3, -⟩ | ⟨g1, g2, g3, -⟩
    · exact absurd g1 HF.out
    · simp at g2 g3; omega
  have C1 := Lib.hid c1
  go_enter Tryd.func78, Tryd.ntmps78
  go_wp2_with (go_at_call 60; refine (within_yes _ _ _ c1.1 c1.2 _).mono ?_; rintro e w' ⟨rfl, rfl⟩)
  go_loop [5, 6] (fun i t => ∃ k n : Nat, i = .int .i64 k ∧ t = .int .i64 n ∧ 0 ≤ k ∧ k ≤ s.size ∧ n < 1000000000000000 ∧ Hid (n = val 0 ((s.data.toList.drop 0).take (k - 0)) ∧ ∀ c ∈ (s.data.toList.drop 0).take (k - 0), 48 ≤ c.toNat ∧ c.toNat ≤ 57)) (fun i _ => s.size - (intOf i).toNat)
  case atStart => exact ⟨0, 0, rfl, rfl, by omega, by omega, by omega, by simp [val], by simp⟩
  case round =>
    obtain ⟨k, n, rfl, rfl, hk0, hk, hn, hr⟩ := hrel
    by_cases hlt : k < s.size
    · have hm := mem_drop_of s 0 k hlt hk0
      have hsn := drop_take_snoc s 0 k hlt hk0
      have HM := Lib.hid hm
      obtain ⟨b, hb⟩ : ∃ b, s[k] = b := ⟨_, rfl⟩
      have no : ¬ (48 ≤ b.toNat ∧ b.toNat ≤ 57) → ∀ v, -1000000000000000 < v → v < 1000000000000000 → s.data.toList ≠ itoa v := by
        intro hno v h1 h2 h3
        rw [hb] at hm
        rcases itoa_shape h1 h2 h3 with ⟨g1, -, -, g4⟩ | ⟨g1, -, -, g4⟩
        · exact absurd g1 HF.out
        · exact hno (g4 b hm)
      have NO := Lib.hid no
      rw [hb] at hsn
      have HSN := Lib.hid hsn
      have HB := Lib.hid hb
      clear no hm hsn
      by_cases c2 : b.toNat < 48
      · clear hb
        have hb' : (s[k].toNat : Int) < 48 := by rw [HB.out]; omega
        go_wp2
        go_ret2
        exact OutN.no (NO.out (by omega)) (Below.refl _ _)
      · have hb1 : 48 ≤ s[k].toNat := by rw [hb]; omega
        have d1 : decide ((s[k].toNat : Int) < 48) = false := decide_eq_false (by omega)
        have d2 : decide (s[k].toNat < 48) = false := decide_eq_false (by omega)
        by_cases c3 : 57 < b.toNat
        · clear hb
          have hb' : (57 : Int) < (s[k].toNat : Int) := by rw [HB.out]; omega
          go_wp2
          go_ret2
          exact OutN.no (NO.out (by omega)) (Below.refl _ _)
        · have hb2 : s[k].toNat ≤ 57 := by rw [hb]; omega
          have d3 : decide ((57 : Int) < (s[k].toNat : Int)) = false := decide_eq_false (by omega)
          have d4 : decide (57 < s[k].toNat) = false := decide_eq_false (by omega)
          have hall : ∀ c ∈ (s.data.toList.drop 0).take (k + 1 - 0), 48 ≤ c.toNat ∧ c.toNat ≤ 57 := by
            rw [HSN.out]
            intro c hc
            rcases List.mem_append.1 hc with hc | hc
            · exact hr.out.2 c hc
            · simp only [List.mem_singleton] at hc; subst hc; omega
          have hval : 10 * n + (b.toNat - 48) = val 0 ((s.data.toList.drop 0).take (k + 1 - 0)) := by rw [HSN.out, val_snoc, ← hr.out.1]
          have hlt2 := val_lt _ hall
          rw [← hval] at hlt2
          have hpw : 10 ^ ((s.data.toList.drop 0).take (k + 1 - 0)).length ≤ 10 ^ 15 := Nat.pow_le_pow_right (by omega) (by simp; omega)
          have hn2 : 10 * n + (b.toNat - 48) < 1000000000000000 := Nat.lt_of_lt_of_le hlt2 hpw
          have HS := Lib.hid (And.intro hval hall)
          have hbe : (s[k].toNat : Int) - 48 = ((b.toNat - 48 : Nat) : Int) := by rw [hb]; omega
          have HBE := Lib.hid hbe
          clear hall hval hlt2 hpw hb hbe
          go_wp2
          go_round
          case rel => exact ⟨k + 1, 10 * n + (b.toNat - 48), by go_num, by have := HBE.out; go_num, by omega, by omega, hn2, HS.out⟩
          case measure => simp [intOf]; omega
    · obtain rfl : k = s.size := by omega
      have hv : n = val 0 (s.data.toList.drop 0) := by
        have := hr.out.1
        rwa [List.take_of_length_le (by simp)] at this
      have HV := Lib.hid hv
      clear hv hr
      go_wp2_with (go_at_call 74; refine (digits_int _ (by omega) (by omega) _).mono ?_; rintro e w' ⟨rfl, hb⟩; simp only [str])
      rw [Lib.toList_data]
      have hy := OutN.yes (w := w) (w' := w') (l := s.data.toList) (d := s.data.toList.drop 0) (sg := 1) (.inl ⟨rfl, by rw [List.drop_zero], HF.out⟩) HV.out hn hb
      rw [show (1 : Int) * (n : Int) = (n : Int) by omega] at hy
      have HY := Lib.hid hy
      clear hy
      go_ret2
      exact HY.out
set_option maxRecDepth 100000 in
set_option maxHeartbeats 400000 in
theorem number_neg (s : ByteArray) (hs : s.size ≤ 1000000) (w : World) (hf : 0 < s.size ∧ s.data.toList.head? = some 45) :
    Calls Tryd.prog 78 #[.string s] w (OutN w s.data.toList) := by
  have HF := Lib.hid hf
  obtain ⟨hp, hf2⟩ := hf
  have e0 : ((s[0].toNat : Int) == 45) = true := by
    rw [List.head?_eq_getElem?, at_list s 0 hp, Option.some.injEq] at hf2
    rw [hf2]
    rfl
  clear hf2
  by_cases c1 : 1 ≤ ((s.size : Int) - 1 : Int) ∧ ((s.size : Int) - 1 : Int) ≤ 15
  case neg =>
    go_enter Tryd.func78, Tryd.ntmps78
    go_wp2_with (go_at_call 60; refine (within_no _ _ _ c1 _).mono ?_; rintro e w' ⟨rfl, rfl⟩)
    go_ret2
    refine OutN.no (fun v h1 h2 h3 => ?_) (Below.refl _ _)
    rcases itoa_shape h1 h2 h3 with ⟨g1, g2, g3, -⟩ | ⟨g1, g2, g3, -⟩
    · simp at g2 g3; omega
    · exact absurd HF.out.2 g1
  have C1 := Lib.hid c1
  go_enter Tryd.func78, Tryd.ntmps78
  go_wp2_with (go_at_call 60; refine (within_yes _ _ _ c1.1 c1.2 _).mono ?_; rintro e w' ⟨rfl, rfl⟩)
  go_loop [5, 6] (fun i t => ∃ k n : Nat, i = .int .i64 k ∧ t = .int .i64 n ∧ 1 ≤ k ∧ k ≤ s.size ∧ n < 1000000000000000 ∧ Hid (n = val 0 ((s.data.toList.drop 1).take (k - 1)) ∧ ∀ c ∈ (s.data.toList.drop 1).take (k - 1), 48 ≤ c.toNat ∧ c.toNat ≤ 57)) (fun i _ => s.size - (intOf i).toNat)
  case atStart => exact ⟨1, 0, rfl, rfl, by omega, by omega, by omega, by simp [val], by simp⟩
  case round =>
    obtain ⟨k, n, rfl, rfl, hk0, hk, hn, hr⟩ := hrel
    by_cases hlt : k < s.size
    · have hm := mem_drop_of s 1 k hlt hk0
      have hsn := drop_take_snoc s 1 k hlt hk0
      have HM := Lib.hid hm
      obtain ⟨b, hb⟩ : ∃ b, s[k] = b := ⟨_, rfl⟩
      have no : ¬ (48 ≤ b.toNat ∧ b.toNat ≤ 57) → ∀ v, -1000000000000000 < v → v < 1000000000000000 → s.data.toList ≠ itoa v := by
        intro hno v h1 h2 h3
        rw [hb] at hm
        rcases itoa_shape h1 h2 h3 with ⟨g1, -, -, g4⟩ | ⟨g1, -, -, g4⟩
        · exact hno (g4 b hm)
        · exact absurd HF.out.2 g1
      have NO := Lib.hid no
      rw [hb] at hsn
      have HSN := Lib.hid hsn
      have HB := Lib.hid hb
      clear no hm hsn
      by_cases c2 : b.toNat < 48
      · clear hb
        have hb' : (s[k].toNat : Int) < 48 := by rw [HB.out]; omega
        go_wp2
        go_ret2
        exact OutN.no (NO.out (by omega)) (Below.refl _ _)
      · have hb1 : 48 ≤ s[k].toNat := by rw [hb]; omega
        have d1 : decide ((s[k].toNat : Int) < 48) = false := decide_eq_false (by omega)
        have d2 : decide (s[k].toNat < 48) = false := decide_eq_false (by omega)
        by_cases c3 : 57 < b.toNat
        · clear hb
          have hb' : (57 : Int) < (s[k].toNat : Int) := by rw [HB.out]; omega
          go_wp2
          go_ret2
          exact OutN.no (NO.out (by omega)) (Below.refl _ _)
        · have hb2 : s[k].toNat ≤ 57 := by rw [hb]; omega
          have d3 : decide ((57 : Int) < (s[k].toNat : Int)) = false := decide_eq_false (by omega)
          have d4 : decide (57 < s[k].toNat) = false := decide_eq_false (by omega)
          have hall : ∀ c ∈ (s.data.toList.drop 1).take (k + 1 - 1), 48 ≤ c.toNat ∧ c.toNat ≤ 57 := by
            rw [HSN.out]
            intro c hc
            rcases List.mem_append.1 hc with hc | hc
            · exact hr.out.2 c hc
            · simp only [List.mem_singleton] at hc; subst hc; omega
          have hval : 10 * n + (b.toNat - 48) = val 0 ((s.data.toList.drop 1).take (k + 1 - 1)) := by rw [HSN.out, val_snoc, ← hr.out.1]
          have hlt2 := val_lt _ hall
          rw [← hval] at hlt2
          have hpw : 10 ^ ((s.data.toList.drop 1).take (k + 1 - 1)).length ≤ 10 ^ 15 := Nat.pow_le_pow_right (by omega) (by simp; omega)
          have hn2 : 10 * n + (b.toNat - 48) < 1000000000000000 := Nat.lt_of_lt_of_le hlt2 hpw
          have HS := Lib.hid (And.intro hval hall)
          have hbe : (s[k].toNat : Int) - 48 = ((b.toNat - 48 : Nat) : Int) := by rw [hb]; omega
          have HBE := Lib.hid hbe
          clear hall hval hlt2 hpw hb hbe
          go_wp2
          go_round
          case rel => exact ⟨k + 1, 10 * n + (b.toNat - 48), by go_num, by have := HBE.out; go_num, by omega, by omega, hn2, HS.out⟩
          case measure => simp [intOf]; omega
    · obtain rfl : k = s.size := by omega
      have hv : n = val 0 (s.data.toList.drop 1) := by
        have := hr.out.1
        rwa [List.take_of_length_le (by simp)] at this
      have HV := Lib.hid hv
      clear hv hr
      go_wp2_with (go_at_call 74; refine (digits_int _ (by omega) (by omega) _).mono ?_; rintro e w' ⟨rfl, hb⟩; simp only [str])
      rw [Lib.toList_data]
      have hy := OutN.yes (w := w) (w' := w') (l := s.data.toList) (d := s.data.toList.drop 1) (sg := -1) (.inr ⟨rfl, head_drop HF.out.2⟩) HV.out hn hb
      rw [show (-1 : Int) * (n : Int) = -(n : Int) by omega] at hy
      have HY := Lib.hid hy
      clear hy
      go_ret2
      exact HY.out
theorem number_any (s : ByteArray) (hs : s.size ≤ 1000000) (w : World) : Calls Tryd.prog 78 #[.string s] w (OutN w s.data.toList) := by
  by_cases h : s.data.toList.head? = some 45
  · refine number_neg s hs w ⟨?_, h⟩
    by_cases h0 : 0 < s.size
    · exact h0
    · have : s.data.toList = [] := List.eq_nil_of_length_eq_zero (by rw [Array.length_toList]; exact Nat.eq_zero_of_not_pos h0)
      rw [this] at h; simp at h
  · exact number_pos s hs w h
end Go.Proofs.YtclbjgelefbmlaaDoor
