/-
  Digits, THE REFERENCE'S: THE WALK.
-/
import Derived.Test.YtclbjgelefbmlaaDoorTxtM
import Derived.Test.YtclbjgelefbmlaaDoorCalA
namespace Go.Proofs.YtclbjgelefbmlaaDoor
open Go.RowKit Go.Lib
/-- A text as a string. -/
def str (l : List UInt8) : Value := .string ⟨l.toArray⟩
theorem bytes_app2 (a b : List UInt8) : ((⟨a.toArray⟩ : ByteArray) ++ ⟨b.toArray⟩) = ⟨(a ++ b).toArray⟩ := by
  apply ByteArray.ext
  simp [ByteArray.data_append]
/-- string([]byte{x}). -/
theorem conv_one (x : Int) (b : UInt8) (hb : x = (b.toNat : Int)) (W : World) : (convert 88 9 (.slice (some ⟨W.heap.size, 0, none⟩) 1 1)).run Tryd.prog (W.alloc (.cells #[.int .u8 x] 5)) = .ok (.string ⟨[b].toArray⟩) (W.alloc (.cells #[.int .u8 x] 5)) := by
  refine run_convert_bytes_back (P := Tryd.prog) (W.alloc (.cells #[.int .u8 x] 5)) 88 9 5 ⟨W.heap.size, 0, none⟩ 1 [b] Tryd.underlying88 Tryd.underlying5 Tryd.underlying9 ?_
  intro j hj
  have : j = 0 := by simpa using hj
  subst this
  simp [Addr.add, hb]
theorem dec_len20 (u : Nat) (hu : u ≤ 9223372036854775807) : (decDigits u).length ≤ 20 := by rw [decDigits_length]; exact nDigits_le20 u (by omega)
set_option maxRecDepth 100000 in
set_option maxHeartbeats 2000000 in
theorem digits_nat (u : Nat) (hu : u ≤ 9223372036854775807) (w : World) :
    Calls Tryd.prog 74 #[.int .i64 u] w fun e w' => e = .returned (str (decDigits u)) ∧ Below w.heap.size w w' := by
  have d0 : decide ((u : Int) < 0) = false := decide_eq_false (by omega)
  go_enter Tryd.func74, Tryd.ntmps74
  go_wp2
  clear d0
  go_loopw [0, 3] (fun n s wr => ∃ (m : Nat) (l : List UInt8), n = .int .i64 m ∧ s = .string ⟨l.toArray⟩ ∧ m ≤ 9223372036854775807 ∧ l.length ≤ 20 ∧ Hid (Below w.heap.size w wr ∧ decDigits m ++ l = decDigits u)) (fun n _ _ => (intOf n).toNat)
  case atStart => exact ⟨u, [], rfl, rfl, hu, by simp, Below.refl _ _, by simp⟩
  case round =>
    obtain ⟨m, l, rfl, rfl, hm, hl, hs⟩ := hrel
    by_cases h9 : 9 < m
    · obtain ⟨b, hb⟩ : ∃ b, b = UInt8.ofNat (48 + m % 10) := ⟨_, rfl⟩
      have hbn : (48 + (m : Int) % 10) = (b.toNat : Int) := by rw [hb, dec_digit (show m % 10 < 10 by omega)]; omega
      have hcv := fun W => conv_one (48 + (m : Int) % 10) b hbn W
      have hr : decDigits (m / 10) ++ (b :: l) = decDigits u := by rw [← hs.out.2, dec_big (show ¬ m < 10 by omega), List.append_assoc, hb]; rfl
      have hl2 : (b :: l).length ≤ 20 := by have := congrArg List.length hr; have := dec_len20 u hu; simp only [List.length_append] at *; omega
      have HR := Lib.hid (And.intro hr hl2)
      clear hb hbn hr hl2
      go_wp2
      go_roundw
      case rel => exact ⟨m / 10, b :: l, by go_num, congrArg Value.string (bytes_app2 [b] l), by omega, HR.out.2, hs.out.1.alloc hs.out.1.size _, HR.out.1⟩
      case measure => simp [intOf]; omega
    · obtain ⟨b, hb⟩ : ∃ b, b = UInt8.ofNat (48 + m) := ⟨_, rfl⟩
      have hbn : (48 + (m : Int)) = (b.toNat : Int) := by rw [hb, dec_digit (show m < 10 by omega)]; omega
      have hcv := fun W => conv_one (48 + (m : Int)) b hbn W
      have hr : b :: l = decDigits u := by rw [← hs.out.2, decDigits_one (show m < 10 by omega), hb]; rfl
      have HR := Lib.hid hr
      clear hb hbn hr
      go_wp2
      go_ret
      refine ⟨?_, hs.out.1.alloc hs.out.1.size _⟩
      rw [← HR.out]
      exact congrArg (fun x => Ending.returned (Value.string x)) (bytes_app2 [b] l)
theorem digits_int (n : Int) (h0 : -9223372036854775808 < n) (h1 : n ≤ 9223372036854775807) (w : World) :
    Calls Tryd.prog 74 #[.int .i64 n] w fun e w' => e = .returned (str (itoa n)) ∧ Below w.heap.size w w' := by
  by_cases hn : n < 0
  · obtain ⟨u, hu⟩ := Int.eq_ofNat_of_zero_le (show 0 ≤ -n by omega)
    have hi : itoa n = 45 :: decDigits u := by rw [itoa, if_pos hn, show n.natAbs = u by omega]
    have hlen := dec_len20 u (by omega)
    have hd := digits_nat u (by omega)
    have HI := Lib.hid hi
    clear hi
    go_enter Tryd.func74, Tryd.ntmps74
    go_wp2_with fail
    refine (hd _).mono ?_
    rintro e' w1 ⟨rfl, hb1⟩
    simp only [str]
    go_wp2
    go_ret
    refine ⟨?_, hb1⟩
    rw [HI.out]
    exact congrArg (fun x => Ending.returned (Value.string x)) (bytes_app2 [45] (decDigits u))
  · obtain ⟨u, rfl⟩ := Int.eq_ofNat_of_zero_le (show 0 ≤ n by omega)
    rw [itoa, if_neg hn]
    exact digits_nat u (by omega) w
end Go.Proofs.YtclbjgelefbmlaaDoor
