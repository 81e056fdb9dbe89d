/-
  BOOKS: which texts a line can have: the program's isRight, the reference's Right.
-/
import Derived.Test.YtaadelcmhbgpnaaGreatDoorBokA
import Derived.Laws.RangeAny
namespace Go.Proofs.YtaadelcmhbgpnaaGreatDoor
open Go.RowKit
open Go.Lib
theorem lt_list (s : ByteArray) : s.data.toList.length = s.size := Array.length_toList
theorem right_no1 {s : ByteArray} (h : 80 < s.size) : rightT s.data.toList = false := by
  rw [Bool.eq_false_iff]
  intro hr
  have := (rightT_iff.1 hr).2.1
  rw [lt_list] at this
  omega
theorem right_no2 {s : ByteArray} (h : 0 < s.size) (h2 : s[0] = 32) : rightT s.data.toList = false := by
  rw [Bool.eq_false_iff]
  intro hr
  have := (rightT_iff.1 hr).2.2.1
  rw [List.head?_eq_getElem?, at_list s 0 h, h2] at this
  exact this rfl
theorem right_no3 {s : ByteArray} (h : 0 < s.size) (h2 : s[s.size - 1] = 32) : rightT s.data.toList = false := by
  rw [Bool.eq_false_iff]
  intro hr
  have := (rightT_iff.1 hr).2.2.2.1
  rw [List.getLast?_eq_getElem?, lt_list, at_list s (s.size - 1) (by omega), h2] at this
  exact this rfl
theorem right_no4 {s : ByteArray} {k : Nat} (h : k < s.size) (h2 : rightC s[k] = false) : rightT s.data.toList = false := by
  rw [Bool.eq_false_iff]
  intro hr
  have := List.all_eq_true.1 (rightT_iff.1 hr).2.2.2.2 s[k] (List.mem_of_getElem? (at_list s k h))
  rw [h2] at this
  cases this
theorem right_yes {s : ByteArray} (h0 : 0 < s.size) (h1 : s.size ≤ 80) (h2 : s[0] ≠ 32) (h3 : s[s.size - 1] ≠ 32) (h4 : ∀ i (h : i < s.size), rightC s[i] = true) : rightT s.data.toList = true := by
  rw [rightT_iff]
  refine ⟨fun e => ?_, by rw [lt_list]; exact h1, ?_, ?_, ?_⟩
  · have := lt_list s; rw [e] at this; simp at this; omega
  · rw [List.head?_eq_getElem?, at_list s 0 h0]; exact fun e => h2 (Option.some.inj e)
  · rw [List.getLast?_eq_getElem?, lt_list, at_list s (s.size - 1) (by omega)]; exact fun e => h3 (Option.some.inj e)
  · rw [List.all_eq_true]
    intro x hx
    obtain ⟨i, hi, rfl⟩ := List.mem_iff_getElem.1 hx
    have hi' : i < s.size := by rw [lt_list] at hi; exact hi
    have := h4 i hi'
    have e : s.data.toList[i] = s[i] := by
      have h := at_list s i hi'
      rw [List.getElem?_eq_getElem hi] at h
      exact Option.some.inj h
    rw [e]; exact this
theorem below_new (w : World) (o : Obj) : Below w.heap.size w (w.alloc o) := (Below.refl _ w).alloc (Nat.le_refl _) o
theorem u8_ne {b : UInt8} {n : Nat} (hn : n < 256) (h : b ≠ UInt8.ofNat n) : ((b.toNat : Int) == (n : Int)) = false := by
  rw [beq_eq_false_iff_ne]
  intro e
  apply h
  apply UInt8.toNat.inj
  rw [UInt8.toNat_ofNat']
  omega
theorem rightC_iff {b : UInt8} : rightC b = true ↔ 32 ≤ b.toNat ∧ b.toNat ≤ 126 := by
  unfold rightC; rw [Bool.and_eq_true, decide_eq_true_eq, decide_eq_true_eq]
set_option maxRecDepth 100000 in
theorem pright_any (s : ByteArray) (hs : s.size ≤ 1000000) (w : World) :
    Calls Tryz.prog 59 #[.string s] w fun e w' => e = .returned (.bool (rightT s.data.toList)) ∧ Below w.heap.size w w' := by
  by_cases hz : s.size = 0
  · have e : s = ⟨#[]⟩ := by
      have : s.data = #[] := Array.eq_empty_of_size_eq_zero hz
      cases s; simp_all
    subst e
    go_enter Tryz.func59, Tryz.ntmps59
    go_wp2
    go_ret
    exact ⟨rfl, Below.refl _ _⟩
  have h0 : 0 < s.size := by omega
  have hl0 : s.toList = s.data.toList := Lib.toList_data s
  have he : ¬ s.toList = [] := fun e => by rw [hl0] at e; have := lt_list s; rw [e] at this; simp at this; omega
  have he2 : s.toList.isEmpty = false := by
    cases hx : s.toList with
    | nil => exact absurd hx he
    | cons a l => rfl
  clear hl0
  by_cases h1 : 80 < s.size
  · have HR := Lib.hid (right_no1 h1)
    have d0 : (80 : Int) < (s.size : Int) := by omega
    go_enter Tryz.func59, Tryz.ntmps59
    go_wp2
    go_ret
    exact ⟨by rw [HR.out] <;> rfl, Below.refl _ _⟩
  have d0 : ¬ (80 : Int) < (s.size : Int) := by omega
  by_cases h2 : s[0] = 32
  · have HR := Lib.hid (right_no2 h0 h2)
    have e0 : ((s[0].toNat : Int) == 32) = true := by rw [h2]; rfl
    clear h2
    go_enter Tryz.func59, Tryz.ntmps59
    go_wp2
    go_ret
    exact ⟨by rw [HR.out] <;> rfl, Below.refl _ _⟩
  have e0 : ((s[0].toNat : Int) == 32) = false := u8_ne (n := 32) (by omega) h2
  have ix : ((s.size : Int) - 1).toNat = s.size - 1 := by omega
  by_cases h3 : s[s.size - 1] = 32
  · have HR := Lib.hid (right_no3 h0 h3)
    have e1 : ((s[s.size - 1].toNat : Int) == 32) = true := by rw [h3]; rfl
    clear h3 h2
    go_enter Tryz.func59, Tryz.ntmps59
    go_wp2
    go_ret
    exact ⟨by rw [HR.out] <;> rfl, Below.refl _ _⟩
  have e1 : ((s[s.size - 1].toNat : Int) == 32) = false := u8_ne (n := 32) (by omega) h3
  have HY := Lib.hid (fun h4 => right_yes h0 (by omega) h2 h3 h4)
  clear h2 h3
  go_enter Tryz.func59, Tryz.ntmps59
  go_upto_region 4 with fail
  go_loopw [] (fun wr => ∃ k : Nat, wr = w.iter s k ∧ k ≤ s.size ∧ Hid (∀ i (h : i < s.size), i < k → rightC s[i] = true)) (fun wr => s.size - wr.iterPos w.heap.size)
  case atStart => exact ⟨0, rfl, by omega, Lib.hid fun i h hi => by omega⟩
  case round =>
    obtain ⟨k, rfl, hk, hr⟩ := hrel
    by_cases hlt : k < s.size
    · obtain ⟨b, hb⟩ : ∃ b, s[k] = b := ⟨_, rfl⟩
      by_cases h4 : b.toNat < 128
      · have hnx : ∀ ty, (Instr.next (.pointer (some ⟨w.heap.size, 0, none⟩)) true ty).run Tryz.prog (w.iter s k) = .ok (.tuple #[.bool true, .int .i64 k, .int .i32 b.toNat]) (w.iter s (k + 1)) := fun ty => by
          have := run_next_ascii (P := Tryz.prog) w s k ty hlt (by rw [hb]; exact h4)
          rw [hb] at this
          exact this
        by_cases h5 : rightC b = true
        · obtain ⟨h6, h7⟩ := rightC_iff.1 h5
          have R2 := Lib.hid (show ∀ i (h : i < s.size), i < k + 1 → rightC s[i] = true from fun i h hi => by
            by_cases he : i < k
            · exact hr.out i h he
            · obtain rfl : i = k := by omega
              rw [hb]; exact h5)
          have d1 : ¬ (b.toNat : Int) < 32 := by omega
          have d2 : ¬ (126 : Int) < (b.toNat : Int) := by omega
          clear hr h5 hb
          go_wp2
          go_roundw
          case rel => exact ⟨k + 1, rfl, by omega, R2⟩
          case measure => simp; omega
        · have HR := Lib.hid (right_no4 hlt (by rw [hb]; simpa using h5))
          have h6 : ¬ (32 ≤ b.toNat ∧ b.toNat ≤ 126) := fun h => h5 (rightC_iff.2 h)
          by_cases h7 : b.toNat < 32
          · have d1 : (b.toNat : Int) < 32 := by omega
            clear hr h5 hb h6
            go_wp2
            go_ret
            exact ⟨by rw [HR.out] <;> rfl, below_new _ _⟩
          · have d1 : ¬ (b.toNat : Int) < 32 := by omega
            have d2 : (126 : Int) < (b.toNat : Int) := by omega
            clear hr h5 hb h6
            go_wp2
            go_ret
            exact ⟨by rw [HR.out] <;> rfl, below_new _ _⟩
      · have HR := Lib.hid (right_no4 hlt (by rw [hb, Bool.eq_false_iff]; exact fun h => by have := (rightC_iff.1 h).2; omega))
        obtain ⟨hx1, hx2⟩ := decode_high s k hlt (by rw [hb]; omega)
        have hx3 := decode_le s k
        have hnx := fun ty => run_next_any (P := Tryz.prog) w s k ty hlt
        obtain ⟨r, hrr⟩ : ∃ r, r = (Utf8.decode s k).1 := ⟨_, rfl⟩
        obtain ⟨v, hv⟩ : ∃ r, r = (Utf8.decode s k).2 := ⟨_, rfl⟩
        rw [← hrr] at hx1 hx3 hnx
        rw [← hv] at hnx
        have d1 : ¬ r < 32 := by omega
        have d2 : 126 < r := by omega
        clear hr hb hrr hv h4
        go_wp2
        go_ret
        exact ⟨by rw [HR.out] <;> rfl, below_new _ _⟩
    · have hnx := fun ty => run_next_end (P := Tryz.prog) w s k ty hlt
      have HR := Lib.hid (HY.out fun i h => hr.out i h (by omega))
      clear hr HY
      go_wp2
      go_ret
      exact ⟨by rw [HR.out] <;> rfl, below_new _ _⟩
end Go.Proofs.YtaadelcmhbgpnaaGreatDoor
/-
  BOOKS: which texts a line can have: the reference's Right.
-/
namespace Go.Proofs.YtaadelcmhbgpnaaGreatDoor
open Go.RowKit
open Go.Lib
/-- A box of three. -/
structure Box3 (w : World) (b : Nat) (x y z : Value) : Prop where
  c0 : w.cell? ⟨b, 0, none⟩ = some x
  c1 : w.cell? ⟨b, 1, none⟩ = some y
  c2 : w.cell? ⟨b, 2, none⟩ = some z
  f0 : w.frozen? ⟨b, 0, none⟩ = false
  f1 : w.frozen? ⟨b, 1, none⟩ = false
  f2 : w.frozen? ⟨b, 2, none⟩ = false
  lt : b < w.heap.size
theorem Box3.new (w : World) (x y z : Value) (t : TypeId) : Box3 (w.alloc (.cells #[x, y, z] t)) w.heap.size x y z := by
  constructor <;> simp
theorem Box3.keep {b : Nat} {w w1 : World} {x y z : Value} (hb : Below w.heap.size w w1) (h : Box3 w b x y z) : Box3 w1 b x y z :=
  ⟨(hb.cell (p := ⟨b, 0, none⟩) h.lt).trans h.c0, (hb.cell (p := ⟨b, 1, none⟩) h.lt).trans h.c1, (hb.cell (p := ⟨b, 2, none⟩) h.lt).trans h.c2, (hb.frozen (p := ⟨b, 0, none⟩) h.lt).trans h.f0, (hb.frozen (p := ⟨b, 1, none⟩) h.lt).trans h.f1, (hb.frozen (p := ⟨b, 2, none⟩) h.lt).trans h.f2, Nat.lt_of_lt_of_le h.lt hb.size⟩
theorem Box3.below {B b : Nat} {w w1 : World} {x y z : Value} (hb : Below B w w1) (hB : b < B) (h : Box3 w b x y z) : Box3 w1 b x y z :=
  ⟨(hb.cell (p := ⟨b, 0, none⟩) hB).trans h.c0, (hb.cell (p := ⟨b, 1, none⟩) hB).trans h.c1, (hb.cell (p := ⟨b, 2, none⟩) hB).trans h.c2, (hb.frozen (p := ⟨b, 0, none⟩) hB).trans h.f0, (hb.frozen (p := ⟨b, 1, none⟩) hB).trans h.f1, (hb.frozen (p := ⟨b, 2, none⟩) hB).trans h.f2, Nat.lt_of_lt_of_le h.lt hb.size⟩
set_option maxRecDepth 100000 in
theorem rright_any (s : ByteArray) (hs : s.size ≤ 1000000) (w : World) :
    Calls Tryz.prog 91 #[.string s] w fun e w' => e = .returned (.bool (rightT s.data.toList)) ∧ w = w' := by
  by_cases hz : s.size = 0
  · have HR := Lib.hid (show rightT s.data.toList = false by
      rw [Bool.eq_false_iff]
      intro hr
      have := (rightT_iff.1 hr).1
      exact this (List.length_eq_zero_iff.1 (by rw [lt_list]; exact hz)))
    have d0 : (s.size : Int) < 1 := by omega
    clear hz
    go_enter Tryz.func91, Tryz.ntmps91
    go_wp2
    go_ret
    exact ⟨by rw [HR.out] <;> rfl, rfl⟩
  have h0 : 0 < s.size := by omega
  have dz : ¬ (s.size : Int) < 1 := by omega
  clear hz
  by_cases h1 : 80 < s.size
  · have HR := Lib.hid (right_no1 h1)
    have d0 : (80 : Int) < (s.size : Int) := by omega
    go_enter Tryz.func91, Tryz.ntmps91
    go_wp2
    go_ret
    exact ⟨by rw [HR.out] <;> rfl, rfl⟩
  have d0 : ¬ (80 : Int) < (s.size : Int) := by omega
  by_cases h2 : s[0] = 32
  · have HR := Lib.hid (right_no2 h0 h2)
    have e0 : ((s[0].toNat : Int) == 32) = true := by rw [h2]; rfl
    clear h2
    go_enter Tryz.func91, Tryz.ntmps91
    go_wp2
    go_ret
    exact ⟨by rw [HR.out] <;> rfl, rfl⟩
  have e0 : ((s[0].toNat : Int) == 32) = false := u8_ne (n := 32) (by omega) h2
  have ix : ((s.size : Int) - 1).toNat = s.size - 1 := by omega
  by_cases h3 : s[s.size - 1] = 32
  · have HR := Lib.hid (right_no3 h0 h3)
    have e1 : ((s[s.size - 1].toNat : Int) == 32) = true := by rw [h3]; rfl
    clear h3 h2
    go_enter Tryz.func91, Tryz.ntmps91
    go_wp2
    go_ret
    exact ⟨by rw [HR.out] <;> rfl, rfl⟩
  have e1 : ((s[s.size - 1].toNat : Int) == 32) = false := u8_ne (n := 32) (by omega) h3
  have HY := Lib.hid (fun h4 => right_yes h0 (by omega) h2 h3 h4)
  clear h2 h3
  go_enter Tryz.func91, Tryz.ntmps91
  go_upto_region 4 with fail
  go_loopw [3] (fun t wr => ∃ k : Nat, t = .int .i64 k ∧ wr = w ∧ k ≤ s.size ∧ Hid (∀ i (h : i < s.size), i < k → rightC s[i] = true)) (fun t _ => s.size - (intOf t).toNat)
  case atStart => exact ⟨0, rfl, rfl, by omega, Lib.hid fun i h hi => by omega⟩
  case round =>
    obtain ⟨k, rfl, rfl, hk, hr⟩ := hrel
    by_cases hlt : k < s.size
    · have dl : decide ((k : Int) < (s.size : Int)) = true := decide_eq_true (by omega)
      by_cases h5 : rightC s[k] = true
      · obtain ⟨h6, h7⟩ := rightC_iff.1 h5
        have R2 := Lib.hid (show ∀ i (h : i < s.size), i < k + 1 → rightC s[i] = true from fun i h hi => by
          by_cases he : i < k
          · exact hr.out i h he
          · obtain rfl : i = k := by omega
            exact h5)
        obtain ⟨u, hu⟩ : ∃ u : Nat, s[k].toNat = u := ⟨_, rfl⟩
        have d1 : ¬ (u : Int) < 32 := by omega
        have d2 : ¬ (126 : Int) < (u : Int) := by omega
        clear hr h5 h6 h7
        go_wp2
        go_roundw
        case rel => exact ⟨k + 1, by go_num, trivial, by omega, R2⟩
        case measure => simp [intOf]; omega
      · have HR := Lib.hid (right_no4 hlt (by simpa using h5))
        have h6 : ¬ (32 ≤ s[k].toNat ∧ s[k].toNat ≤ 126) := fun h => h5 (rightC_iff.2 h)
        obtain ⟨u, hu⟩ : ∃ u : Nat, s[k].toNat = u := ⟨_, rfl⟩
        rw [hu] at h6
        by_cases h7 : u < 32
        · have d1 : (u : Int) < 32 := by omega
          clear hr h5 h6
          go_wp2
          go_ret
          exact ⟨by rw [HR.out] <;> rfl, rfl⟩
        · have d1 : ¬ (u : Int) < 32 := by omega
          have d2 : (126 : Int) < (u : Int) := by omega
          clear hr h5 h6
          go_wp2
          go_ret
          exact ⟨by rw [HR.out] <;> rfl, rfl⟩
    · have dl : decide ((k : Int) < (s.size : Int)) = false := decide_eq_false (by omega)
      have HR := Lib.hid (HY.out fun i h => hr.out i h (by omega))
      clear hr HY
      go_wp2
      go_ret
      exact ⟨by rw [HR.out] <;> rfl, rfl⟩
end Go.Proofs.YtaadelcmhbgpnaaGreatDoor
