/-
  Digits, THE REFERENCE'S: THE WALK.
-/
import Derived.Test.YtlinldbbhdpgcaaGreatDoorTxtM
import Derived.Test.YtlinldbbhdpgcaaGreatDoorCalA
import Derived.Lib.Strings
namespace Go.Proofs.YtlinldbbhdpgcaaGreatDoor
open Go.RowKit Go.Lib
/-- A text as a string. -/
def str (l : List UInt8) : Value := .string ⟨l.toArray⟩
theorem bytes_app2 (a b : List UInt8) : ((⟨a.toArray⟩ : ByteArray) ++ ⟨b.toArray⟩) = ⟨(a ++ b).toArray⟩ := by
  apply ByteArray.ext
  simp [ByteArray.data_append]
/-- string([]byte{x}). -/
theorem conv_one (x : Int) (b : UInt8) (hb : x = (b.toNat : Int)) (W : World) : (convert 41 9 (.slice (some ⟨W.heap.size, 0, none⟩) 1 1)).run Tryz.prog (W.alloc (.cells #[.int .u8 x] 5)) = .ok (.string ⟨[b].toArray⟩) (W.alloc (.cells #[.int .u8 x] 5)) := by
  refine run_convert_bytes_back (P := Tryz.prog) (W.alloc (.cells #[.int .u8 x] 5)) 41 9 5 ⟨W.heap.size, 0, none⟩ 1 [b] Tryz.underlying41 Tryz.underlying5 Tryz.underlying9 ?_
  intro j hj
  have : j = 0 := by simpa using hj
  subst this
  simp [Addr.add, hb]
theorem dec_len20 (u : Nat) (hu : u ≤ 9223372036854775807) : (decDigits u).length ≤ 20 := by rw [decDigits_length]; exact nDigits_le20 u (by omega)
set_option maxRecDepth 100000 in
set_option maxHeartbeats 2000000 in
theorem digits_nat (u : Nat) (hu : u ≤ 9223372036854775807) (w : World) :
    Calls Tryz.prog 59 #[.int .i64 u] w fun e w' => e = .returned (str (decDigits u)) ∧ Below w.heap.size w w' := by
  have d0 : decide ((u : Int) < 0) = false := decide_eq_false (by omega)
  go_enter Tryz.func59, Tryz.ntmps59
  go_wp2
  clear d0
  go_loopw [0, 3] (fun n s wr => ∃ (m : Nat) (l : List UInt8), n = .int .i64 m ∧ s = .string ⟨l.toArray⟩ ∧ m ≤ 9223372036854775807 ∧ l.length ≤ 20 ∧ Hid (Below w.heap.size w wr ∧ decDigits m ++ l = decDigits u)) (fun n _ _ => (intOf n).toNat)
  case atStart => exact ⟨u, [], rfl, rfl, hu, by simp, Below.refl _ _, by simp⟩
  case round =>
    obtain ⟨m, l, rfl, rfl, hm, hl, hs⟩ := hrel
    by_cases h9 : 9 < m
    · obtain ⟨b, hb⟩ : ∃ b, b = UInt8.ofNat (48 + m % 10) := ⟨_, rfl⟩
      have hbn : (48 + (m : Int) % 10) = (b.toNat : Int) := by rw [hb, dec_digit (show m % 10 < 10 by omega)]; omega
      have hcv := fun W => conv_one (48 + (m : Int) % 10) b hbn W
      have hr : decDigits (m / 10) ++ (b :: l) = decDigits u := by rw [← hs.out.2, dec_big (show ¬ m < 10 by omega), List.append_assoc, hb]; rfl
      have hl2 : (b :: l).length ≤ 20 := by have := congrArg List.length hr; have := dec_len20 u hu; simp only [List.length_append] at *; omega
      have HR := Lib.hid (And.intro hr hl2)
      clear hb hbn hr hl2
      go_wp2
      go_roundw
      case rel => exact ⟨m / 10, b :: l, by go_num, congrArg Value.string (bytes_app2 [b] l), by omega, HR.out.2, hs.out.1.alloc hs.out.1.size _, HR.out.1⟩
      case measure => simp [intOf]; omega
    · obtain ⟨b, hb⟩ : ∃ b, b = UInt8.ofNat (48 + m) := ⟨_, rfl⟩
      have hbn : (48 + (m : Int)) = (b.toNat : Int) := by rw [hb, dec_digit (show m < 10 by omega)]; omega
      have hcv := fun W => conv_one (48 + (m : Int)) b hbn W
      have hr : b :: l = decDigits u := by rw [← hs.out.2, decDigits_one (show m < 10 by omega), hb]; rfl
      have HR := Lib.hid hr
      clear hb hbn hr
      go_wp2
      go_ret
      refine ⟨?_, hs.out.1.alloc hs.out.1.size _⟩
      rw [← HR.out]
      exact congrArg (fun x => Ending.returned (Value.string x)) (bytes_app2 [b] l)
theorem digits_int (n : Int) (h0 : -9223372036854775808 < n) (h1 : n ≤ 9223372036854775807) (w : World) :
    Calls Tryz.prog 59 #[.int .i64 n] w fun e w' => e = .returned (str (itoa n)) ∧ Below w.heap.size w w' := by
  by_cases hn : n < 0
  · obtain ⟨u, hu⟩ := Int.eq_ofNat_of_zero_le (show 0 ≤ -n by omega)
    have hi : itoa n = 45 :: decDigits u := by rw [itoa, if_pos hn, show n.natAbs = u by omega]
    have hlen := dec_len20 u (by omega)
    have hd := digits_nat u (by omega)
    have HI := Lib.hid hi
    clear hi
    go_enter Tryz.func59, Tryz.ntmps59
    go_wp2_with fail
    refine (hd _).mono ?_
    rintro e' w1 ⟨rfl, hb1⟩
    simp only [str]
    go_wp2
    go_ret
    refine ⟨?_, hb1⟩
    rw [HI.out]
    exact congrArg (fun x => Ending.returned (Value.string x)) (bytes_app2 [45] (decDigits u))
  · obtain ⟨u, rfl⟩ := Int.eq_ofNat_of_zero_le (show 0 ≤ n by omega)
    rw [itoa, if_neg hn]
    exact digits_nat u (by omega) w
end Go.Proofs.YtlinldbbhdpgcaaGreatDoor
/-
  Number, THE REFERENCE'S: what it reads. PLAIN, THEN THE WALK.
-/
namespace Go.Proofs.YtlinldbbhdpgcaaGreatDoor
open Go.RowKit Go.Lib
/-- What the digits l come to behind acc. -/
def val (acc : Nat) (l : List UInt8) : Nat := l.foldl (fun a c => 10 * a + (c.toNat - 48)) acc
theorem val_snoc (acc : Nat) (l : List UInt8) (c : UInt8) : val acc (l ++ [c]) = 10 * val acc l + (c.toNat - 48) := by simp [val]
theorem val_parse : ∀ (l : List UInt8) (acc u : Nat), parseUint10 acc l = .ok u → val acc l = u ∧ ∀ c ∈ l, 48 ≤ c.toNat ∧ c.toNat ≤ 57
  | [], acc, u, h => by
    simp only [parseUint10] at h
    injection h with h
    exact ⟨h, by simp⟩
  | c :: r, acc, u, h => by
    simp only [parseUint10] at h
    split at h
    · rename_i hc
      split at h
      · cases h
      · split at h
        · cases h
        · obtain ⟨h1, h2⟩ := val_parse r _ u h
          refine ⟨?_, fun x hx => ?_⟩
          · rw [← h1]; simp only [val, List.foldl_cons]; rw [Nat.mul_comm acc 10]
          · rcases List.mem_cons.1 hx with rfl | hx
            · exact hc
            · exact h2 x hx
    · cases h
theorem val_dec (u : Nat) (h : u < 18446744073709551616) : val 0 (decDigits u) = u := (val_parse _ _ _ (parse_dec u h)).1
/-- A number whose numeral is the text: its sign, its digits. -/
theorem itoa_parts {v : Int} (h0 : -1000000000000000 < v) (h1 : v < 1000000000000000) : (v < 0 ∧ itoa v = 45 :: decDigits v.natAbs ∨ 0 ≤ v ∧ itoa v = decDigits v.natAbs) ∧ 1 ≤ (decDigits v.natAbs).length ∧ (decDigits v.natAbs).length ≤ 15 ∧ val 0 (decDigits v.natAbs) = v.natAbs := by
  refine ⟨?_, ?_, dec_length (k := 15) (by omega) (by omega), val_dec _ (by omega)⟩
  · by_cases hv : v < 0
    · exact .inl ⟨hv, by rw [itoa, if_pos hv]⟩
    · exact .inr ⟨by omega, by rw [itoa, if_neg hv, show v.toNat = v.natAbs by omega]⟩
  · rw [decDigits_length]; exact nDigits_pos _
theorem dec_head {u : Nat} {l : List UInt8} (h : 45 :: l = decDigits u) : False := by
  have := dec_all u 45 (by rw [← h]; simp)
  simp at this
/-- What Number gives of a text. -/
def OutN (w : World) (l : List UInt8) (e : Ending) (w' : World) : Prop :=
  ∃ (n : Int) (b : Bool), e = .returned (.tuple #[.int .i64 n, .bool b]) ∧ -1000000000000000 < n ∧ n < 1000000000000000 ∧ (b = true → l = itoa n) ∧ (∀ v, -1000000000000000 < v → v < 1000000000000000 → l = itoa v → b = true ∧ n = v) ∧ Below w.heap.size w w'
theorem OutN.no {w w' : World} {l : List UInt8} (h : ∀ v, -1000000000000000 < v → v < 1000000000000000 → l ≠ itoa v) (hb : Below w.heap.size w w') : OutN w l (.returned (.tuple #[.int .i64 0, .bool false])) w' :=
  ⟨0, false, rfl, by omega, by omega, (fun x => by cases x), fun v h1 h2 h3 => absurd h3 (h v h1 h2), hb⟩
/-- The text is a sign (or none) and digits that come to n. -/
theorem OutN.yes {w w' : World} {l d : List UInt8} {sg : Int} (hl : sg = 1 ∧ l = d ∧ l.head? ≠ some 45 ∨ sg = -1 ∧ l = 45 :: d) {n : Nat} (hn : n = val 0 d) (hn2 : n < 1000000000000000) (hb : Below w.heap.size w w') :
    OutN w l (.returned (.tuple #[.int .i64 (sg * n), .bool ((itoa (sg * n)) == l)])) w' := by
  refine ⟨sg * n, _, rfl, ?_, ?_, fun x => ?_, fun v h1 h2 h3 => ?_, hb⟩
  · rcases hl with ⟨rfl, -⟩ | ⟨rfl, -⟩ <;> omega
  · rcases hl with ⟨rfl, -⟩ | ⟨rfl, -⟩ <;> omega
  · exact (by simpa using x : itoa (sg * n) = l).symm
  · obtain ⟨p1, p2, p3, p4⟩ := itoa_parts h1 h2
    have e : sg * n = v := by
      rcases hl with ⟨rfl, rfl, hh⟩ | ⟨rfl, rfl⟩
      · rcases p1 with ⟨q1, q2⟩ | ⟨q1, q2⟩
        · rw [h3, q2] at hh; simp at hh
        · rw [h3, q2, p4] at hn; omega
      · rcases p1 with ⟨q1, q2⟩ | ⟨q1, q2⟩
        · rw [q2] at h3
          have := (List.cons.inj h3).2
          rw [this, p4] at hn; omega
        · rw [q2] at h3
          exact (dec_head h3).elim
    refine ⟨?_, e⟩
    rw [e, h3]; simp
theorem val_lt_acc : ∀ (l : List UInt8) (acc : Nat), (∀ c ∈ l, 48 ≤ c.toNat ∧ c.toNat ≤ 57) → val acc l < (acc + 1) * 10 ^ l.length
  | [], acc, _ => by simp [val]
  | c :: l, acc, h => by
    have hc := h c (by simp)
    have := val_lt_acc l (10 * acc + (c.toNat - 48)) (fun x hx => h x (by simp [hx]))
    have e : val acc (c :: l) = val (10 * acc + (c.toNat - 48)) l := rfl
    rw [e, List.length_cons, Nat.pow_succ]
    have h2 : (10 * acc + (c.toNat - 48) + 1) * 10 ^ l.length ≤ (10 * (acc + 1)) * 10 ^ l.length := Nat.mul_le_mul_right _ (by omega)
    rw [show (acc + 1) * (10 ^ l.length * 10) = (10 * (acc + 1)) * 10 ^ l.length by rw [Nat.mul_comm (10 ^ l.length) 10, ← Nat.mul_assoc, Nat.mul_comm (acc + 1) 10]]
    omega
theorem val_lt (l : List UInt8) (h : ∀ c ∈ l, 48 ≤ c.toNat ∧ c.toNat ≤ 57) : val 0 l < 10 ^ l.length := by
  have := val_lt_acc l 0 h
  omega
end Go.Proofs.YtlinldbbhdpgcaaGreatDoor
/-
  Number, THE REFERENCE'S: THE WALK.
-/
namespace Go.Proofs.YtlinldbbhdpgcaaGreatDoor
open Go.RowKit Go.Lib
theorem at_list (s : ByteArray) (k : Nat) (h : k < s.size) : s.data.toList[k]? = some s[k] := by
  rw [List.getElem?_eq_getElem (by simpa using h)]; rfl
theorem drop_take_snoc (s : ByteArray) (i k : Nat) (h : k < s.size) (hi : i ≤ k) : (s.data.toList.drop i).take (k + 1 - i) = (s.data.toList.drop i).take (k - i) ++ [s[k]] := by
  have hk : k - i < (s.data.toList.drop i).length := by simp; omega
  rw [show k + 1 - i = (k - i) + 1 by omega, List.take_succ_eq_append_getElem hk]
  congr 2
  simp only [List.getElem_drop]
  have : i + (k - i) = k := by omega
  simp only [this]
  rfl
theorem eql_str (a : List UInt8) (s : ByteArray) : ((⟨a.toArray⟩ : ByteArray).toList == s.toList) = (a == s.data.toList) := by
  rw [Lib.toList_data, Lib.toList_data]
theorem itoa_shape {l : List UInt8} {v : Int} (h0 : -1000000000000000 < v) (h1 : v < 1000000000000000) (h : l = itoa v) : (l.head? = some 45 ∧ 1 ≤ (l.drop 1).length ∧ (l.drop 1).length ≤ 15 ∧ ∀ c ∈ l.drop 1, 48 ≤ c.toNat ∧ c.toNat ≤ 57) ∨ (l.head? ≠ some 45 ∧ 1 ≤ (l.drop 0).length ∧ (l.drop 0).length ≤ 15 ∧ ∀ c ∈ l.drop 0, 48 ≤ c.toNat ∧ c.toNat ≤ 57) := by
  obtain ⟨p1, p2, p3, -⟩ := itoa_parts h0 h1
  have pa := dec_all v.natAbs
  rcases p1 with ⟨-, q⟩ | ⟨-, q⟩
  · rw [q] at h
    subst h
    exact .inl ⟨rfl, p2, p3, pa⟩
  · rw [q] at h
    subst h
    refine .inr ⟨fun hh => ?_, p2, p3, pa⟩
    cases hd : decDigits v.natAbs with
    | nil => rw [hd] at hh; simp at hh
    | cons c r =>
      rw [hd] at hh
      simp only [List.head?_cons, Option.some.injEq] at hh
      subst hh
      exact dec_head hd.symm
theorem head_drop {l : List UInt8} {c : UInt8} (h : l.head? = some c) : l = c :: l.drop 1 := by
  cases l with
  | nil => simp at h
  | cons x l => simp only [List.head?_cons, Option.some.injEq] at h; subst h; rfl
theorem mem_drop_of (s : ByteArray) (i k : Nat) (h : k < s.size) (hi : i ≤ k) : s[k] ∈ s.data.toList.drop i := by
  have : (s.data.toList.drop i)[k - i]? = some s[k] := by rw [List.getElem?_drop, show i + (k - i) = k by omega]; exact at_list s k h
  exact List.mem_of_getElem? this
set_option maxRecDepth 100000 in
set_option maxHeartbeats 400000 in
theorem number_pos (s : ByteArray) (hs : s.size ≤ 1000000) (w : World) (hf : s.data.toList.head? ≠ some 45) :
    Calls Tryz.prog 101 #[.string s] w (OutN w s.data.toList) := by
  have HF := Lib.hid hf
  by_cases hz : s.size = 0
  · have c1 : ¬ (1 ≤ (s.size : Int) ∧ (s.size : Int) ≤ 15) := by omega
    have dz : decide (0 < s.size) = false := decide_eq_false (by omega)
    have HZ := Lib.hid hz
    clear hz
    go_enter Tryz.func101, Tryz.ntmps101
    go_wp2_with (go_at_call 111; refine (within_no _ _ _ c1 _).mono ?_; rintro e w' ⟨rfl, rfl⟩)
    go_ret2
    refine OutN.no (fun v h1 h2 h3 => ?_) (Below.refl _ _)
    rcases itoa_shape h1 h2 h3 with ⟨g1, -, -, -⟩ | ⟨g1, g2, -, -⟩
    · exact absurd g1 HF.out
    · have := HZ.out; simp at g2; omega
  have hp : 0 < s.size := by omega
  have e0 : ((s[0].toNat : Int) == 45) = false := by
    rw [beq_eq_false_iff_ne]
    intro hc
    apply hf
    rw [List.head?_eq_getElem?, at_list s 0 hp]
    congr 1
    apply UInt8.toNat.inj
    show s[0].toNat = 45
    omega
  clear hf hz
  by_cases c1 : 1 ≤ ((s.size : Int) : Int) ∧ ((s.size : Int) : Int) ≤ 15
  case neg =>
    go_enter Tryz.func101, Tryz.ntmps101
    go_wp2_with (go_at_call 111; refine (within_no _ _ _ c1 _).mono ?_; rintro e w' ⟨rfl, rfl⟩)
    go_ret2
    refine OutN.no (fun v h1 h2 h3 => ?_) (Below.refl _ _)
    rcases itoa_shape h1 h2 h3 with ⟨g1, g2, g3, -⟩ | ⟨g1, g2, g3, -⟩
    · exact absurd g1 HF.out
    · simp at g2 g3; omega
  have C1 := Lib.hid c1
  go_enter Tryz.func101, Tryz.ntmps101
  go_wp2_with (go_at_call 111; refine (within_yes _ _ _ c1.1 c1.2 _).mono ?_; rintro e w' ⟨rfl, rfl⟩)
  go_loop [5, 6] (fun i t => ∃ k n : Nat, i = .int .i64 k ∧ t = .int .i64 n ∧ 0 ≤ k ∧ k ≤ s.size ∧ n < 1000000000000000 ∧ Hid (n = val 0 ((s.data.toList.drop 0).take (k - 0)) ∧ ∀ c ∈ (s.data.toList.drop 0).take (k - 0), 48 ≤ c.toNat ∧ c.toNat ≤ 57)) (fun i _ => s.size - (intOf i).toNat)
  case atStart => exact ⟨0, 0, rfl, rfl, by omega, by omega, by omega, by simp [val], by simp⟩
  case round =>
    obtain ⟨k, n, rfl, rfl, hk0, hk, hn, hr⟩ := hrel
    by_cases hlt : k < s.size
    · have hm := mem_drop_of s 0 k hlt hk0
      have hsn := drop_take_snoc s 0 k hlt hk0
      have HM := Lib.hid hm
      obtain ⟨b, hb⟩ : ∃ b, s[k] = b := ⟨_, rfl⟩
      have no : ¬ (48 ≤ b.toNat ∧ b.toNat ≤ 57) → ∀ v, -1000000000000000 < v → v < 1000000000000000 → s.data.toList ≠ itoa v := by
        intro hno v h1 h2 h3
        rw [hb] at hm
        rcases itoa_shape h1 h2 h3 with ⟨g1, -, -, g4⟩ | ⟨g1, -, -, g4⟩
        · exact absurd g1 HF.out
        · exact hno (g4 b hm)
      have NO := Lib.hid no
      rw [hb] at hsn
      have HSN := Lib.hid hsn
      have HB := Lib.hid hb
      clear no hm hsn
      by_cases c2 : b.toNat < 48
      · clear hb
        have hb' : (s[k].toNat : Int) < 48 := by rw [HB.out]; omega
        go_wp2
        go_ret2
        exact OutN.no (NO.out (by omega)) (Below.refl _ _)
      · have hb1 : 48 ≤ s[k].toNat := by rw [hb]; omega
        have d1 : decide ((s[k].toNat : Int) < 48) = false := decide_eq_false (by omega)
        have d2 : decide (s[k].toNat < 48) = false := decide_eq_false (by omega)
        by_cases c3 : 57 < b.toNat
        · clear hb
          have hb' : (57 : Int) < (s[k].toNat : Int) := by rw [HB.out]; omega
          go_wp2
          go_ret2
          exact OutN.no (NO.out (by omega)) (Below.refl _ _)
        · have hb2 : s[k].toNat ≤ 57 := by rw [hb]; omega
          have d3 : decide ((57 : Int) < (s[k].toNat : Int)) = false := decide_eq_false (by omega)
          have d4 : decide (57 < s[k].toNat) = false := decide_eq_false (by omega)
          have hall : ∀ c ∈ (s.data.toList.drop 0).take (k + 1 - 0), 48 ≤ c.toNat ∧ c.toNat ≤ 57 := by
            rw [HSN.out]
            intro c hc
            rcases List.mem_append.1 hc with hc | hc
            · exact hr.out.2 c hc
            · simp only [List.mem_singleton] at hc; subst hc; omega
          have hval : 10 * n + (b.toNat - 48) = val 0 ((s.data.toList.drop 0).take (k + 1 - 0)) := by rw [HSN.out, val_snoc, ← hr.out.1]
          have hlt2 := val_lt _ hall
          rw [← hval] at hlt2
          have hpw : 10 ^ ((s.data.toList.drop 0).take (k + 1 - 0)).length ≤ 10 ^ 15 := Nat.pow_le_pow_right (by omega) (by simp; omega)
          have hn2 : 10 * n + (b.toNat - 48) < 1000000000000000 := Nat.lt_of_lt_of_le hlt2 hpw
          have HS := Lib.hid (And.intro hval hall)
          have hbe : (s[k].toNat : Int) - 48 = ((b.toNat - 48 : Nat) : Int) := by rw [hb]; omega
          have HBE := Lib.hid hbe
          clear hall hval hlt2 hpw hb hbe
          go_wp2
          go_round
          case rel => exact ⟨k + 1, 10 * n + (b.toNat - 48), by go_num, by have := HBE.out; go_num, by omega, by omega, hn2, HS.out⟩
          case measure => simp [intOf]; omega
    · obtain rfl : k = s.size := by omega
      have hv : n = val 0 (s.data.toList.drop 0) := by
        have := hr.out.1
        rwa [List.take_of_length_le (by simp)] at this
      have HV := Lib.hid hv
      clear hv hr
      go_wp2_with (go_at_call 59; refine (digits_int _ (by omega) (by omega) _).mono ?_; rintro e w' ⟨rfl, hb⟩; simp only [str])
      rw [Lib.toList_data]
      have hy := OutN.yes (w := w) (w' := w') (l := s.data.toList) (d := s.data.toList.drop 0) (sg := 1) (.inl ⟨rfl, by rw [List.drop_zero], HF.out⟩) HV.out hn hb
      rw [show (1 : Int) * (n : Int) = (n : Int) by omega] at hy
      have HY := Lib.hid hy
      clear hy
      go_ret2
      exact HY.out
set_option maxRecDepth 100000 in
set_option maxHeartbeats 400000 in
theorem number_neg (s : ByteArray) (hs : s.size ≤ 1000000) (w : World) (hf : 0 < s.size ∧ s.data.toList.head? = some 45) :
    Calls Tryz.prog 101 #[.string s] w (OutN w s.data.toList) := by
  have HF := Lib.hid hf
  obtain ⟨hp, hf2⟩ := hf
  have e0 : ((s[0].toNat : Int) == 45) = true := by
    rw [List.head?_eq_getElem?, at_list s 0 hp, Option.some.injEq] at hf2
    rw [hf2]
    rfl
  clear hf2
  by_cases c1 : 1 ≤ ((s.size : Int) - 1 : Int) ∧ ((s.size : Int) - 1 : Int) ≤ 15
  case neg =>
    go_enter Tryz.func101, Tryz.ntmps101
    go_wp2_with (go_at_call 111; refine (within_no _ _ _ c1 _).mono ?_; rintro e w' ⟨rfl, rfl⟩)
    go_ret2
    refine OutN.no (fun v h1 h2 h3 => ?_) (Below.refl _ _)
    rcases itoa_shape h1 h2 h3 with ⟨g1, g2, g3, -⟩ | ⟨g1, g2, g3, -⟩
    · simp at g2 g3; omega
    · exact absurd HF.out.2 g1
  have C1 := Lib.hid c1
  go_enter Tryz.func101, Tryz.ntmps101
  go_wp2_with (go_at_call 111; refine (within_yes _ _ _ c1.1 c1.2 _).mono ?_; rintro e w' ⟨rfl, rfl⟩)
  go_loop [5, 6] (fun i t => ∃ k n : Nat, i = .int .i64 k ∧ t = .int .i64 n ∧ 1 ≤ k ∧ k ≤ s.size ∧ n < 1000000000000000 ∧ Hid (n = val 0 ((s.data.toList.drop 1).take (k - 1)) ∧ ∀ c ∈ (s.data.toList.drop 1).take (k - 1), 48 ≤ c.toNat ∧ c.toNat ≤ 57)) (fun i _ => s.size - (intOf i).toNat)
  case atStart => exact ⟨1, 0, rfl, rfl, by omega, by omega, by omega, by simp [val], by simp⟩
  case round =>
    obtain ⟨k, n, rfl, rfl, hk0, hk, hn, hr⟩ := hrel
    by_cases hlt : k < s.size
    · have hm := mem_drop_of s 1 k hlt hk0
      have hsn := drop_take_snoc s 1 k hlt hk0
      have HM := Lib.hid hm
      obtain ⟨b, hb⟩ : ∃ b, s[k] = b := ⟨_, rfl⟩
      have no : ¬ (48 ≤ b.toNat ∧ b.toNat ≤ 57) → ∀ v, -1000000000000000 < v → v < 1000000000000000 → s.data.toList ≠ itoa v := by
        intro hno v h1 h2 h3
        rw [hb] at hm
        rcases itoa_shape h1 h2 h3 with ⟨g1, -, -, g4⟩ | ⟨g1, -, -, g4⟩
        · exact hno (g4 b hm)
        · exact absurd HF.out.2 g1
      have NO := Lib.hid no
      rw [hb] at hsn
      have HSN := Lib.hid hsn
      have HB := Lib.hid hb
      clear no hm hsn
      by_cases c2 : b.toNat < 48
      · clear hb
        have hb' : (s[k].toNat : Int) < 48 := by rw [HB.out]; omega
        go_wp2
        go_ret2
        exact OutN.no (NO.out (by omega)) (Below.refl _ _)
      · have hb1 : 48 ≤ s[k].toNat := by rw [hb]; omega
        have d1 : decide ((s[k].toNat : Int) < 48) = false := decide_eq_false (by omega)
        have d2 : decide (s[k].toNat < 48) = false := decide_eq_false (by omega)
        by_cases c3 : 57 < b.toNat
        · clear hb
          have hb' : (57 : Int) < (s[k].toNat : Int) := by rw [HB.out]; omega
          go_wp2
          go_ret2
          exact OutN.no (NO.out (by omega)) (Below.refl _ _)
        · have hb2 : s[k].toNat ≤ 57 := by rw [hb]; omega
          have d3 : decide ((57 : Int) < (s[k].toNat : Int)) = false := decide_eq_false (by omega)
          have d4 : decide (57 < s[k].toNat) = false := decide_eq_false (by omega)
          have hall : ∀ c ∈ (s.data.toList.drop 1).take (k + 1 - 1), 48 ≤ c.toNat ∧ c.toNat ≤ 57 := by
            rw [HSN.out]
            intro c hc
            rcases List.mem_append.1 hc with hc | hc
            · exact hr.out.2 c hc
            · simp only [List.mem_singleton] at hc; subst hc; omega
          have hval : 10 * n + (b.toNat - 48) = val 0 ((s.data.toList.drop 1).take (k + 1 - 1)) := by rw [HSN.out, val_snoc, ← hr.out.1]
          have hlt2 := val_lt _ hall
          rw [← hval] at hlt2
          have hpw : 10 ^ ((s.data.toList.drop 1).take (k + 1 - 1)).length ≤ 10 ^ 15 := Nat.pow_le_pow_right (by omega) (by simp; omega)
          have hn2 : 10 * n + (b.toNat - 48) < 1000000000000000 := Nat.lt_of_lt_of_le hlt2 hpw
          have HS := Lib.hid (And.intro hval hall)
          have hbe : (s[k].toNat : Int) - 48 = ((b.toNat - 48 : Nat) : Int) := by rw [hb]; omega
          have HBE := Lib.hid hbe
          clear hall hval hlt2 hpw hb hbe
          go_wp2
          go_round
          case rel => exact ⟨k + 1, 10 * n + (b.toNat - 48), by go_num, by have := HBE.out; go_num, by omega, by omega, hn2, HS.out⟩
          case measure => simp [intOf]; omega
    · obtain rfl : k = s.size := by omega
      have hv : n = val 0 (s.data.toList.drop 1) := by
        have := hr.out.1
        rwa [List.take_of_length_le (by simp)] at this
      have HV := Lib.hid hv
      clear hv hr
      go_wp2_with (go_at_call 59; refine (digits_int _ (by omega) (by omega) _).mono ?_; rintro e w' ⟨rfl, hb⟩; simp only [str])
      rw [Lib.toList_data]
      have hy := OutN.yes (w := w) (w' := w') (l := s.data.toList) (d := s.data.toList.drop 1) (sg := -1) (.inr ⟨rfl, head_drop HF.out.2⟩) HV.out hn hb
      rw [show (-1 : Int) * (n : Int) = -(n : Int) by omega] at hy
      have HY := Lib.hid hy
      clear hy
      go_ret2
      exact HY.out
theorem number_any (s : ByteArray) (hs : s.size ≤ 1000000) (w : World) : Calls Tryz.prog 101 #[.string s] w (OutN w s.data.toList) := by
  by_cases h : s.data.toList.head? = some 45
  · refine number_neg s hs w ⟨?_, h⟩
    by_cases h0 : 0 < s.size
    · exact h0
    · have : s.data.toList = [] := List.eq_nil_of_length_eq_zero (by rw [Array.length_toList]; exact Nat.eq_zero_of_not_pos h0)
      rw [this] at h; simp at h
  · exact number_pos s hs w h
end Go.Proofs.YtlinldbbhdpgcaaGreatDoor
