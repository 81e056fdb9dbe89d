/-
  BOOKS: names of accounts: which texts are names, the program's function and the reference's.
-/
import Derived.Test.YtaadelcmhbgpnaaGreatDoorBokC
namespace Go.Proofs.YtaadelcmhbgpnaaGreatDoor
open Go.RowKit
open Go.Lib
def letC (c : UInt8) : Bool := decide (97 ≤ c.toNat) && decide (c.toNat ≤ 122)
def nameC (c : UInt8) : Bool := letC c || (decide (48 ≤ c.toNat) && decide (c.toNat ≤ 57))
def nameT (t : List UInt8) : Bool := decide (t.length ≤ 8) && (match t with | [] => false | c :: _ => letC c) && t.all nameC
theorem letC_iff {b : UInt8} : letC b = true ↔ 97 ≤ b.toNat ∧ b.toNat ≤ 122 := by
  unfold letC; rw [Bool.and_eq_true, decide_eq_true_eq, decide_eq_true_eq]
theorem nameC_iff {b : UInt8} : nameC b = true ↔ (97 ≤ b.toNat ∧ b.toNat ≤ 122) ∨ (48 ≤ b.toNat ∧ b.toNat ≤ 57) := by
  unfold nameC; rw [Bool.or_eq_true, letC_iff, Bool.and_eq_true, decide_eq_true_eq, decide_eq_true_eq]
theorem nameT_iff {t : List UInt8} : nameT t = true ↔ t.length ≤ 8 ∧ (∃ c r, t = c :: r ∧ letC c = true) ∧ ∀ c ∈ t, nameC c = true := by
  unfold nameT
  rw [Bool.and_eq_true, Bool.and_eq_true, decide_eq_true_eq, List.all_eq_true, and_assoc]
  cases t with
  | nil => simp
  | cons c r => simp
theorem name_no0 {s : ByteArray} (h : s.size = 0) : nameT s.data.toList = false := by
  rw [Bool.eq_false_iff]
  intro hr
  obtain ⟨-, ⟨c, r, e, -⟩, -⟩ := nameT_iff.1 hr
  have := lt_list s
  rw [e] at this; simp at this; omega
theorem name_no1 {s : ByteArray} (h : 8 < s.size) : nameT s.data.toList = false := by
  rw [Bool.eq_false_iff]
  intro hr
  have := (nameT_iff.1 hr).1
  rw [lt_list] at this
  omega
theorem name_no2 {s : ByteArray} (h : 0 < s.size) (h2 : letC s[0] = false) : nameT s.data.toList = false := by
  rw [Bool.eq_false_iff]
  intro hr
  obtain ⟨-, ⟨c, r, e, hc⟩, -⟩ := nameT_iff.1 hr
  have h3 := at_list s 0 h
  rw [e] at h3
  simp at h3
  rw [h3, h2] at hc
  cases hc
theorem name_no3 {s : ByteArray} {k : Nat} (h : k < s.size) (h2 : nameC s[k] = false) : nameT s.data.toList = false := by
  rw [Bool.eq_false_iff]
  intro hr
  have := (nameT_iff.1 hr).2.2 s[k] (List.mem_of_getElem? (at_list s k h))
  rw [h2] at this
  cases this
theorem name_yes {s : ByteArray} (h0 : 0 < s.size) (h1 : s.size ≤ 8) (h2 : letC s[0] = true) (h3 : ∀ i (h : i < s.size), nameC s[i] = true) : nameT s.data.toList = true := by
  rw [nameT_iff]
  refine ⟨by rw [lt_list]; exact h1, ?_, ?_⟩
  · have h4 := at_list s 0 h0
    cases e : s.data.toList with
    | nil => rw [e] at h4; simp at h4
    | cons c r =>
      rw [e] at h4
      simp at h4
      exact ⟨c, r, rfl, by rw [h4]; exact h2⟩
  · intro x hx
    obtain ⟨i, hi, rfl⟩ := List.mem_iff_getElem.1 hx
    have hi' : i < s.size := by rw [lt_list] at hi; exact hi
    have := h3 i hi'
    have e : s.data.toList[i] = s[i] := by
      have h := at_list s i hi'
      rw [List.getElem?_eq_getElem hi] at h
      exact Option.some.inj h
    rw [e]; exact this
set_option maxRecDepth 100000 in
theorem pname_any (s : ByteArray) (w : World) :
    Calls Tryz.prog 55 #[.string s] w fun e w' => e = .returned (.bool (nameT s.data.toList)) ∧ Below w.heap.size w w' := by
  by_cases hz : s.size = 0
  · have e : s = ⟨#[]⟩ := by
      have : s.data = #[] := Array.eq_empty_of_size_eq_zero hz
      cases s; simp_all
    subst e
    go_enter Tryz.func55, Tryz.ntmps55
    go_wp2
    go_ret
    exact ⟨rfl, Below.refl _ _⟩
  have h0 : 0 < s.size := by omega
  have hl0 : s.toList = s.data.toList := Lib.toList_data s
  have he : ¬ s.toList = [] := fun e => by rw [hl0] at e; have := lt_list s; rw [e] at this; simp at this; omega
  have he2 : s.toList.isEmpty = false := by
    cases hx : s.toList with
    | nil => exact absurd hx he
    | cons a l => rfl
  clear hl0
  by_cases h1 : 8 < s.size
  · have HR := Lib.hid (name_no1 h1)
    have d0 : (8 : Int) < (s.size : Int) := by omega
    go_enter Tryz.func55, Tryz.ntmps55
    go_wp2
    go_ret
    exact ⟨by rw [HR.out] <;> rfl, Below.refl _ _⟩
  have d0 : ¬ (8 : Int) < (s.size : Int) := by omega
  by_cases h2 : letC s[0] = true
  rotate_left
  · have HR := Lib.hid (name_no2 h0 (by simpa using h2))
    have h6 : ¬ (97 ≤ s[0].toNat ∧ s[0].toNat ≤ 122) := fun h => h2 (letC_iff.2 h)
    obtain ⟨u, hu⟩ : ∃ u : Nat, s[0].toNat = u := ⟨_, rfl⟩
    rw [hu] at h6
    by_cases h7 : u < 97
    · have e1 : (u : Int) < 97 := by omega
      clear h2 h6
      go_enter Tryz.func55, Tryz.ntmps55
      go_wp2
      go_ret
      exact ⟨by rw [HR.out] <;> rfl, Below.refl _ _⟩
    · have e1 : ¬ (u : Int) < 97 := by omega
      have e2 : (122 : Int) < (u : Int) := by omega
      clear h2 h6
      go_enter Tryz.func55, Tryz.ntmps55
      go_wp2
      go_ret
      exact ⟨by rw [HR.out] <;> rfl, Below.refl _ _⟩
  have HY := Lib.hid (fun h3 => name_yes h0 (by omega) h2 h3)
  obtain ⟨g1, g2⟩ := letC_iff.1 h2
  obtain ⟨u0, hu0⟩ : ∃ u : Nat, s[0].toNat = u := ⟨_, rfl⟩
  rw [hu0] at g1 g2
  have e1 : ¬ (u0 : Int) < 97 := by omega
  have e2 : ¬ (122 : Int) < (u0 : Int) := by omega
  clear h2 g1 g2
  go_enter Tryz.func55, Tryz.ntmps55
  go_upto_region 4 with fail
  go_loopw [] (fun wr => ∃ k : Nat, wr = w.iter s k ∧ k ≤ s.size ∧ Hid (∀ i (h : i < s.size), i < k → nameC s[i] = true)) (fun wr => s.size - wr.iterPos w.heap.size)
  case atStart => exact ⟨0, rfl, by omega, Lib.hid fun i h hi => by omega⟩
  case round =>
    obtain ⟨k, rfl, hk, hr⟩ := hrel
    clear hu0
    by_cases hlt : k < s.size
    · obtain ⟨b, hb⟩ : ∃ b, s[k] = b := ⟨_, rfl⟩
      by_cases h4 : b.toNat < 128
      · have hnx : ∀ ty, (Instr.next (.pointer (some ⟨w.heap.size, 0, none⟩)) true ty).run Tryz.prog (w.iter s k) = .ok (.tuple #[.bool true, .int .i64 k, .int .i32 b.toNat]) (w.iter s (k + 1)) := fun ty => by
          have := run_next_ascii (P := Tryz.prog) w s k ty hlt (by rw [hb]; exact h4)
          rw [hb] at this
          exact this
        by_cases h5 : nameC b = true
        · have h6 := nameC_iff.1 h5
          have R2 := Lib.hid (show ∀ i (h : i < s.size), i < k + 1 → nameC s[i] = true from fun i h hi => by
            by_cases he : i < k
            · exact hr.out i h he
            · obtain rfl : i = k := by omega
              rw [hb]; exact h5)
          obtain ⟨u, hu⟩ : ∃ u : Nat, b.toNat = u := ⟨_, rfl⟩
          rw [hu] at h6
          by_cases h7 : 97 ≤ u
          · have d1 : ¬ (u : Int) < 97 := by omega
            have d2 : ¬ (122 : Int) < (u : Int) := by omega
            clear hr h5 hb h6
            go_wp2
            go_roundw
            case rel => exact ⟨k + 1, rfl, by omega, R2⟩
            case measure => simp; omega
          · have d1 : (u : Int) < 97 := by omega
            have d2 : ¬ (u : Int) < 48 := by omega
            have d3 : ¬ (57 : Int) < (u : Int) := by omega
            clear hr h5 hb h6
            go_wp2
            go_roundw
            case rel => exact ⟨k + 1, rfl, by omega, R2⟩
            case measure => simp; omega
        · have HR := Lib.hid (name_no3 hlt (by rw [hb]; simpa using h5))
          have h6 : ¬ ((97 ≤ b.toNat ∧ b.toNat ≤ 122) ∨ (48 ≤ b.toNat ∧ b.toNat ≤ 57)) := fun h => h5 (nameC_iff.2 h)
          obtain ⟨u, hu⟩ : ∃ u : Nat, b.toNat = u := ⟨_, rfl⟩
          rw [hu] at h6
          by_cases h7 : u < 48
          · have d1 : (u : Int) < 97 := by omega
            have d2 : (u : Int) < 48 := by omega
            clear hr h5 hb h6
            go_wp2
            go_ret
            exact ⟨by rw [HR.out] <;> rfl, below_new _ _⟩
          · have d2 : ¬ (u : Int) < 48 := by omega
            have d3 : (57 : Int) < (u : Int) := by omega
            by_cases h8 : u < 97
            · have d1 : (u : Int) < 97 := by omega
              clear hr h5 hb h6
              go_wp2
              go_ret
              exact ⟨by rw [HR.out] <;> rfl, below_new _ _⟩
            · have d1 : ¬ (u : Int) < 97 := by omega
              have d4 : (122 : Int) < (u : Int) := by omega
              clear hr h5 hb h6
              go_wp2
              go_ret
              exact ⟨by rw [HR.out] <;> rfl, below_new _ _⟩
      · have HR := Lib.hid (name_no3 hlt (by rw [hb, Bool.eq_false_iff]; exact fun h => by have := nameC_iff.1 h; omega))
        obtain ⟨hx1, hx2⟩ := decode_high s k hlt (by rw [hb]; omega)
        have hx3 := decode_le s k
        have hnx := fun ty => run_next_any (P := Tryz.prog) w s k ty hlt
        obtain ⟨r, hrr⟩ : ∃ r, r = (Utf8.decode s k).1 := ⟨_, rfl⟩
        obtain ⟨v, hv⟩ : ∃ r, r = (Utf8.decode s k).2 := ⟨_, rfl⟩
        rw [← hrr] at hx1 hx3 hnx
        rw [← hv] at hnx
        have d1 : ¬ r < 97 := by omega
        have d2 : 122 < r := by omega
        have d3 : ¬ r < 48 := by omega
        have d4 : 57 < r := by omega
        clear hr hb hrr hv h4
        go_wp2
        go_ret
        exact ⟨by rw [HR.out] <;> rfl, below_new _ _⟩
    · have hnx := fun ty => run_next_end (P := Tryz.prog) w s k ty hlt
      have HR := Lib.hid (HY.out fun i h => hr.out i h (by omega))
      clear hr HY
      go_wp2
      go_ret
      exact ⟨by rw [HR.out] <;> rfl, below_new _ _⟩
set_option maxRecDepth 100000 in
theorem rname_any (s : ByteArray) (w : World) :
    Calls Tryz.prog 56 #[.string s] w fun e w' => e = .returned (.bool (nameT s.data.toList)) ∧ w = w' := by
  by_cases hz : s.size = 0
  · have HR := Lib.hid (name_no0 hz)
    have d0 : (s.size : Int) < 1 := by omega
    clear hz
    go_enter Tryz.func56, Tryz.ntmps56
    go_wp2
    go_ret
    exact ⟨by rw [HR.out] <;> rfl, rfl⟩
  have h0 : 0 < s.size := by omega
  have dz : ¬ (s.size : Int) < 1 := by omega
  clear hz
  by_cases h1 : 8 < s.size
  · have HR := Lib.hid (name_no1 h1)
    have d0 : (8 : Int) < (s.size : Int) := by omega
    go_enter Tryz.func56, Tryz.ntmps56
    go_wp2
    go_ret
    exact ⟨by rw [HR.out] <;> rfl, rfl⟩
  have d0 : ¬ (8 : Int) < (s.size : Int) := by omega
  have HN2 := Lib.hid (fun h => name_no2 (s := s) h0 h)
  have HY := Lib.hid (fun h2 h3 => name_yes h0 (by omega) h2 h3)
  go_enter Tryz.func56, Tryz.ntmps56
  go_upto_region 2 with fail
  go_loopw [3] (fun t wr => ∃ k : Nat, t = .int .i64 k ∧ wr = w ∧ k ≤ s.size ∧ Hid (∀ i (h : i < s.size), i < k → nameC s[i] = true ∧ (i = 0 → letC s[i] = true))) (fun t _ => s.size - (intOf t).toNat)
  case atStart => exact ⟨0, rfl, rfl, by omega, Lib.hid fun i h hi => by omega⟩
  case round =>
    obtain ⟨k, rfl, rfl, hk, hr⟩ := hrel
    by_cases hlt : k < s.size
    · have dl : decide ((k : Int) < (s.size : Int)) = true := decide_eq_true (by omega)
      obtain ⟨u, hu⟩ : ∃ u : Nat, s[k].toNat = u := ⟨_, rfl⟩
      by_cases hlet : letC s[k] = true
      · have hnm : nameC s[k] = true := by unfold nameC; rw [hlet]; rfl
        obtain ⟨g1, g2⟩ := letC_iff.1 hlet
        rw [hu] at g1 g2
        have R2 := Lib.hid (show ∀ i (h : i < s.size), i < k + 1 → nameC s[i] = true ∧ (i = 0 → letC s[i] = true) from fun i h hi => by
          by_cases he : i < k
          · exact hr.out i h he
          · obtain rfl : i = k := by omega
            exact ⟨hnm, fun _ => hlet⟩)
        have d1 : (97 : Int) ≤ (u : Int) := by omega
        have d2 : (u : Int) ≤ 122 := by omega
        clear hr hlet hnm g1 g2
        go_wp2
        go_roundw
        case rel => exact ⟨k + 1, by go_num, trivial, by omega, R2⟩
        case measure => simp [intOf]; omega
      · by_cases hk0 : k = 0
        · subst hk0
          have HR := Lib.hid (HN2.out (by simpa using hlet))
          have h6 : ¬ (97 ≤ u ∧ u ≤ 122) := fun h => hlet (letC_iff.2 (by rw [hu]; exact h))
          by_cases h7 : 97 ≤ u
          · have d1 : (97 : Int) ≤ (u : Int) := by omega
            have d2 : ¬ (u : Int) ≤ 122 := by omega
            clear hr hlet h6
            go_wp2
            go_ret
            exact ⟨by rw [HR.out] <;> rfl, rfl⟩
          · have d1 : ¬ (97 : Int) ≤ (u : Int) := by omega
            clear hr hlet h6
            go_wp2
            go_ret
            exact ⟨by rw [HR.out] <;> rfl, rfl⟩
        · have k0 : ((k : Int) == 0) = false := by rw [beq_eq_false_iff_ne]; omega
          have h6 : ¬ (97 ≤ u ∧ u ≤ 122) := fun h => hlet (letC_iff.2 (by rw [hu]; exact h))
          by_cases h5 : nameC s[k] = true
          · have h8 := nameC_iff.1 h5
            rw [hu] at h8
            have R2 := Lib.hid (show ∀ i (h : i < s.size), i < k + 1 → nameC s[i] = true ∧ (i = 0 → letC s[i] = true) from fun i h hi => by
              by_cases he : i < k
              · exact hr.out i h he
              · obtain rfl : i = k := by omega
                exact ⟨h5, fun e => absurd e hk0⟩)
            have d1 : ¬ (97 : Int) ≤ (u : Int) := by omega
            have d3 : ¬ (u : Int) < 48 := by omega
            have d4 : ¬ (57 : Int) < (u : Int) := by omega
            clear hr h5 hlet h6 h8
            go_wp2
            go_roundw
            case rel => exact ⟨k + 1, by go_num, trivial, by omega, R2⟩
            case measure => simp [intOf]; omega
          · have HR := Lib.hid (name_no3 hlt (by simpa using h5))
            have h8 : ¬ ((97 ≤ s[k].toNat ∧ s[k].toNat ≤ 122) ∨ (48 ≤ s[k].toNat ∧ s[k].toNat ≤ 57)) := fun h => h5 (nameC_iff.2 h)
            rw [hu] at h8
            by_cases h7 : 97 ≤ u
            · have d1 : (97 : Int) ≤ (u : Int) := by omega
              have d2 : ¬ (u : Int) ≤ 122 := by omega
              have d3 : ¬ (u : Int) < 48 := by omega
              have d4 : (57 : Int) < (u : Int) := by omega
              clear hr h5 hlet h6 h8
              go_wp2
              go_ret
              exact ⟨by rw [HR.out] <;> rfl, rfl⟩
            · have d1 : ¬ (97 : Int) ≤ (u : Int) := by omega
              by_cases h9 : u < 48
              · have d3 : (u : Int) < 48 := by omega
                clear hr h5 hlet h6 h8
                go_wp2
                go_ret
                exact ⟨by rw [HR.out] <;> rfl, rfl⟩
              · have d3 : ¬ (u : Int) < 48 := by omega
                have d4 : (57 : Int) < (u : Int) := by omega
                clear hr h5 hlet h6 h8
                go_wp2
                go_ret
                exact ⟨by rw [HR.out] <;> rfl, rfl⟩
    · have dl : decide ((k : Int) < (s.size : Int)) = false := decide_eq_false (by omega)
      have HR := Lib.hid (HY.out ((hr.out 0 h0 (by omega)).2 rfl) fun i h => (hr.out i h (by omega)).1)
      clear hr HY
      go_wp2
      go_ret
      exact ⟨by rw [HR.out] <;> rfl, rfl⟩
end Go.Proofs.YtaadelcmhbgpnaaGreatDoor
/-
  BOOKS: postings: which are valid; lists of them in memory.
-/
namespace Go.Proofs.YtaadelcmhbgpnaaGreatDoor
open Go.RowKit
open Go.Lib
structure Po where
  d : ByteArray
  c : ByteArray
  p : Int
def nmP (x : Po) : Bool := nameT x.d.data.toList && nameT x.c.data.toList
def okP (x : Po) : Bool := decide (x.d ≠ x.c) && (decide (1 ≤ x.p) && decide (x.p ≤ 1099511627776))
def valPo (l : List Po) : Int := if 64 < l.length then 4 else if l.all nmP = false then 2 else if l.all okP = false then 1 else 0
theorem okP_iff {x : Po} : okP x = true ↔ x.d ≠ x.c ∧ 1 ≤ x.p ∧ x.p ≤ 1099511627776 := by
  unfold okP; rw [Bool.and_eq_true, Bool.and_eq_true, decide_eq_true_eq, decide_eq_true_eq, decide_eq_true_eq]
theorem nmP_iff {x : Po} : nmP x = true ↔ nameT x.d.data.toList = true ∧ nameT x.c.data.toList = true := by
  unfold nmP; rw [Bool.and_eq_true]
theorem valPo_one {x : Po} : valPo [x] = 0 ↔ nmP x = true ∧ okP x = true := by
  unfold valPo
  simp only [List.length_cons, List.length_nil, List.all_cons, List.all_nil, Bool.and_true]
  rw [if_neg (by omega)]
  cases nmP x <;> cases okP x <;> simp
def Po.cells (x : Po) : List Value := [.string x.d, .string x.c, .int .i64 x.p]
def Po.v (x : Po) : Value := .agg #[.string x.d, .string x.c, .int .i64 x.p]
def flatP (l : List Po) : List Value := l.flatMap Po.cells
theorem flatP_app (x y : List Po) : flatP (x ++ y) = flatP x ++ flatP y := List.flatMap_append
theorem flatP_len : ∀ l : List Po, (flatP l).length = l.length * 3
  | [] => rfl
  | x :: l => by
    have := flatP_len l
    simp only [flatP, List.flatMap_cons, List.length_append, List.length_cons] at this ⊢
    rw [this]; simp [Po.cells]; omega
theorem flatP_at : ∀ (l : List Po) (k : Nat) (h : k < l.length), (flatP l)[k * 3]? = some (.string l[k].d) ∧ (flatP l)[k * 3 + 1]? = some (.string l[k].c) ∧ (flatP l)[k * 3 + 2]? = some (.int .i64 l[k].p)
  | x :: l, 0, _ => by simp [flatP, Po.cells]
  | x :: l, k + 1, h => by
    have hq := flatP_at l k (by simpa using h)
    have e : flatP (x :: l) = .string x.d :: .string x.c :: .int .i64 x.p :: flatP l := by simp [flatP, Po.cells]
    rw [e, show (k + 1) * 3 = k * 3 + 1 + 1 + 1 by omega, List.getElem?_cons_succ, List.getElem?_cons_succ, List.getElem?_cons_succ, show k * 3 + 1 + 1 + 1 + 1 = k * 3 + 1 + 1 + 1 + 1 from rfl, List.getElem?_cons_succ, List.getElem?_cons_succ, List.getElem?_cons_succ, show k * 3 + 1 + 1 + 1 + 2 = k * 3 + 2 + 1 + 1 + 1 from rfl, List.getElem?_cons_succ, List.getElem?_cons_succ, List.getElem?_cons_succ, List.getElem_cons_succ]
    exact hq
/-- The postings that lie at A. -/
def IsPo (w : World) (A : Option Addr) (l : List Po) : Prop :=
  0 < l.length → ∃ b o, A = some ⟨b, o, none⟩ ∧ b < w.heap.size ∧ ∀ k (h : k < l.length), w.cell? ⟨b, o + k * 3, none⟩ = some (.string l[k].d) ∧ w.cell? ⟨b, o + k * 3 + 1, none⟩ = some (.string l[k].c) ∧ w.cell? ⟨b, o + k * 3 + 2, none⟩ = some (.int .i64 l[k].p)
theorem IsPo.below {w w' : World} {A : Option Addr} {l : List Po} (hb : Below w.heap.size w w') (h : IsPo w A l) : IsPo w' A l := by
  intro hp
  obtain ⟨b, o, rfl, hlt, hc⟩ := h hp
  exact ⟨b, o, rfl, Nat.lt_of_lt_of_le hlt hb.size, fun k hk => ⟨(hb.cell (p := ⟨b, _, none⟩) hlt).trans (hc k hk).1, (hb.cell (p := ⟨b, _, none⟩) hlt).trans (hc k hk).2.1, (hb.cell (p := ⟨b, _, none⟩) hlt).trans (hc k hk).2.2⟩⟩
/-- One posting in a new block. -/
theorem IsPo.one (w : World) (x : Po) (t : TypeId) : IsPo (w.alloc (.cells #[.string x.d, .string x.c, .int .i64 x.p] t)) (some ⟨w.heap.size, 0, none⟩) [x] := by
  intro _
  refine ⟨w.heap.size, 0, rfl, by simp, fun k hk => ?_⟩
  have h0 : k = 0 := by simp at hk; omega
  subst h0
  simp [go_sem]
end Go.Proofs.YtaadelcmhbgpnaaGreatDoor
