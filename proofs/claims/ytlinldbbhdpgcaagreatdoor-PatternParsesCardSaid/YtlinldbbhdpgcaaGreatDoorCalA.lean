/-
  LISTS OF INTEGERS AS SLICES THAT ARE ONLY READ; isSet AND IsSet.
-/
import Derived.Test.YtlinldbbhdpgcaaGreatDoorNumB
import Derived.Test.YtlinldbbhdpgcaaGreatDoorRegM
import Derived.Shelf.Abstract
import Derived.Deep.DeepCutAuto
import Derived.Lib.Hide
namespace Go.Proofs.YtlinldbbhdpgcaaGreatDoor
open Go.RowKit
/-- The slice with address A and length n reads as the numbers xs. -/
def IsL (w : World) (A : Option Addr) (n : Nat) (xs : List Int) : Prop :=
  xs.length = n ∧ (0 < n → ∃ b o, A = some ⟨b, o, none⟩ ∧ b < w.heap.size ∧ ∀ i, i < n → w.cell? ⟨b, o + i, none⟩ = some (.int .i64 (xs.getD i 0)))
theorem IsL.below {w w' : World} {A : Option Addr} {n : Nat} {xs : List Int} (hb : Below w.heap.size w w') (h : IsL w A n xs) : IsL w' A n xs := by
  refine ⟨h.1, fun hn => ?_⟩
  obtain ⟨b, o, rfl, hlt, hc⟩ := h.2 hn
  exact ⟨b, o, rfl, Nat.lt_of_lt_of_le hlt hb.size, fun i hi => (hb.cell (p := ⟨b, o + i, none⟩) hlt).trans (hc i hi)⟩
theorem IsL.drewN {w : World} {A : Option Addr} {n : Nat} {xs : List Int} (h : IsL w A n xs) (m : Nat) : IsL (w.drewN m) A n xs := h
theorem IsL.alloc {w : World} {A : Option Addr} {n : Nat} {xs : List Int} (h : IsL w A n xs) (o : Obj) : IsL (w.alloc o) A n xs :=
  h.below ((Below.refl _ _).alloc (Nat.le_refl _) o)
/-- A set of numbers from 0 to most, its first k elements. -/
def SetTo (xs : List Int) (most : Int) (k : Nat) : Prop := ∀ i, i < k → 0 ≤ xs.getD i 0 ∧ xs.getD i 0 ≤ most ∧ (0 < i → xs.getD (i - 1) 0 < xs.getD i 0)
theorem SetTo.succ {xs : List Int} {most : Int} {k : Nat} (h : SetTo xs most k) (h1 : 0 ≤ xs.getD k 0) (h2 : xs.getD k 0 ≤ most) (h3 : 0 < k → xs.getD (k - 1) 0 < xs.getD k 0) : SetTo xs most (k + 1) := by
  intro i hi
  rcases Nat.lt_succ_iff_lt_or_eq.1 hi with h' | rfl
  · exact h i h'
  · exact ⟨h1, h2, h3⟩
theorem ret_false {P : Prop} {b : Bool} (hb : b = true ↔ P) (h : ¬ P) : Ending.returned (.bool false) = .returned (.bool b) := by
  cases b
  · rfl
  · exact absurd (hb.1 rfl) h
theorem ret_true {P : Prop} {b : Bool} (hb : b = true ↔ P) (h : P) : Ending.returned (.bool true) = .returned (.bool b) := by
  rw [hb.2 h]
theorem quiet_add {P : Program} {f : FuncId} {args : Array Value} {w : World} {m n : Nat} {v : Value}
    (h : Calls P f args (w.drewN (m + n)) fun e w' => e = .returned v ∧ w.drewN (m + n) = w') : Calls P f args (w.drewN (m + n)) fun e w'' => e = .returned v ∧ ∃ k, w'' = w.drewN (m + k) :=
  h.mono fun _ _ ⟨he, hm⟩ => ⟨he, n, hm.symm⟩
end Go.Proofs.YtlinldbbhdpgcaaGreatDoor
/-
  slices.IndexFunc and ContainsFunc at ints, whatever the predicate.
-/
namespace Go.Proofs.YtlinldbbhdpgcaaGreatDoor
open Go.RowKit
theorem pany_take {α : Type} (l : List α) (p : α → Bool) {k : Nat} (h : k < l.length) : (l.take (k + 1)).any p = ((l.take k).any p || p l[k]) := by
  rw [List.take_succ_eq_append_getElem h, List.any_append]; simp
theorem pany_hit {α : Type} (l : List α) (p : α → Bool) {k : Nat} (h : k < l.length) (hp : p l[k] = true) : l.any p = true := List.any_eq_true.2 ⟨_, List.getElem_mem h, hp⟩
/-- The function g, with what it captured, answers as p does for the numbers of a list. -/
def PPred (g : Nat) (lb : Array Value) (p : Int → Bool) (w : World) (xs : List Int) : Prop := ∀ w' x, Below w.heap.size w w' → x ∈ xs → Calls Tryz.prog g (#[.int .i64 x] ++ lb) w' fun e w'' => e = .returned (.bool (p x)) ∧ Below w'.heap.size w' w''
theorem pgetD_mem {xs : List Int} {k : Nat} (h : k < xs.length) : xs.getD k 0 ∈ xs := by
  rw [List.getD_eq_getElem?_getD, List.getElem?_eq_getElem h]; exact List.getElem_mem h
theorem pgetD_at {xs : List Int} {k : Nat} (h : k < xs.length) : xs[k] = xs.getD k 0 := by
  rw [List.getD_eq_getElem?_getD, List.getElem?_eq_getElem h]; rfl
set_option maxRecDepth 100000 in
set_option maxHeartbeats 400000 in
theorem pindexFunc (g : Nat) (lb : Array Value) (p : Int → Bool) (eg : ∀ args w, (callFunc g args).run Tryz.prog w = .ok (.enter g args) w) (A : Option Addr) (n c : Nat) (xs : List Int) (hl : xs.length ≤ 1000000) (w : World) (hP : IsL w A n xs) (hp : PPred g lb p w xs) :
    Calls Tryz.prog 100 #[.slice A n c, .func (.func g) #[] lb] w fun e w' => (∃ n : Int, e = .returned (.int .i64 n) ∧ decide (0 ≤ n) = xs.any p ∧ -1 ≤ n ∧ n ≤ 1000000) ∧ Below w.heap.size w w' := by
  obtain rfl := hP.1
  have HP := Lib.hid hP
  have HPP := Lib.hid hp
  clear hP hp
  go_enter Tryz.func100, Tryz.ntmps100
  go_wp2
  go_loopw [8] (fun i wr => ∃ k : Nat, i = .int .i64 k ∧ k ≤ xs.length ∧ Hid (Below w.heap.size w wr ∧ (xs.take k).any p = false)) (fun i _ => xs.length - (intOf i).toNat)
  case atStart => exact ⟨0, rfl, by omega, Below.refl _ _, rfl⟩
  case round =>
    obtain ⟨k, rfl, hk, hr⟩ := hrel
    by_cases hlt : k < xs.length
    · obtain ⟨b, o, rfl, hb, hc⟩ := (HP.out.below hr.out.1).2 (by omega)
      have q0 := hc k hlt
      have hat := pany_take xs p hlt
      have hah := pany_hit xs p hlt
      rw [hr.out.2, Bool.false_or] at hat
      rw [pgetD_at hlt] at hat hah
      obtain ⟨x, hx⟩ : ∃ x, xs.getD k 0 = x := ⟨_, rfl⟩
      rw [hx] at q0 hat hah
      have hcall := HPP.out wr x hr.out.1 (by rw [← hx]; exact pgetD_mem hlt)
      have HAT := Lib.hid hat
      have HAH := Lib.hid hah
      clear hc hx hat hah
      cases hq : p x with
      | true =>
        rw [hq] at hcall
        have HX := Lib.hid (HAH.out hq)
        clear hq
        go_wp2_with (go_at_fn g; refine hcall.mono ?_; rintro e w' ⟨rfl, hb'⟩)
        go_ret
        exact ⟨⟨k, rfl, by rw [HX.out]; exact decide_eq_true (by omega), by omega, by omega⟩, hr.out.1.trans (hb'.mono hr.out.1.size)⟩
      | false =>
        rw [hq] at hcall
        have HX := Lib.hid (HAT.out.trans hq)
        clear hq
        go_wp2_with (go_at_fn g; refine hcall.mono ?_; rintro e w' ⟨rfl, hb'⟩)
        go_roundw
        case rel => exact ⟨k + 1, by go_num, by omega, hr.out.1.trans (hb'.mono hr.out.1.size), HX.out⟩
        case measure => simp [intOf]; omega
    · obtain rfl : k = xs.length := by omega
      have hr := hr.out
      rw [List.take_length] at hr
      have HR := Lib.hid hr
      clear hr
      go_wp2
      go_ret
      exact ⟨⟨-1, rfl, by rw [HR.out.2]; rfl, by omega, by omega⟩, HR.out.1⟩
set_option maxRecDepth 100000 in
set_option maxHeartbeats 400000 in
theorem pcontainsFunc (g : Nat) (lb : Array Value) (p : Int → Bool) (eg : ∀ args w, (callFunc g args).run Tryz.prog w = .ok (.enter g args) w) (A : Option Addr) (n c : Nat) (xs : List Int) (hl : xs.length ≤ 1000000) (w : World) (hP : IsL w A n xs) (hp : PPred g lb p w xs) :
    Calls Tryz.prog 69 #[.slice A n c, .func (.func g) #[] lb] w fun e w' => e = .returned (.bool (xs.any p)) ∧ Below w.heap.size w w' := by
  have hc := pindexFunc g lb p eg A n c xs hl w hP hp
  clear eg
  go_enter Tryz.func69, Tryz.ntmps69
  go_wp2_with fail
  refine hc.mono ?_
  rintro e w' ⟨⟨n, rfl, hn, h1, h2⟩, hb⟩
  have HN := Lib.hid hn
  clear hn hc
  go_wp2
  go_ret
  exact ⟨by rw [← HN.out]; rfl, hb⟩
end Go.Proofs.YtlinldbbhdpgcaaGreatDoor
