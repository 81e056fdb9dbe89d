/-
  slices.IndexFunc and ContainsFunc, at parts and at ints, whatever the predicate.
-/
import Derived.Test.YtdgmpaijpjkeoaaLotA
import Derived.Shelf.Abstract
namespace Go.Proofs.Ytdgmpaijpjkeoaa
open Go.RowKit
/-- A predicate that makes blocks of its own at most. -/
def PredP (g : Nat) (lb : Array Value) (p : Int × Int → Bool) (w : World) (ps : List (Int × Int)) : Prop :=
  ∀ (W : World) (x : Int × Int), Below w.heap.size w W → x ∈ ps → I64 x.1 → I64 x.2 → Calls Try.prog g (#[.agg #[.int .i64 x.1, .int .i64 x.2]] ++ lb) W fun e w' => e = .returned (.bool (p x)) ∧ Below W.heap.size W w'
def PredI (g : Nat) (lb : Array Value) (p : Int → Bool) (w : World) (xs : List Int) : Prop :=
  ∀ (W : World) (x : Int), Below w.heap.size w W → x ∈ xs → I64 x → Calls Try.prog g (#[.int .i64 x] ++ lb) W fun e w' => e = .returned (.bool (p x)) ∧ Below W.heap.size W w'
theorem any_take {α : Type} (l : List α) (p : α → Bool) {k : Nat} (h : k < l.length) : (l.take (k + 1)).any p = ((l.take k).any p || p l[k]) := by
  rw [List.take_succ_eq_append_getElem h, List.any_append]; simp
theorem any_hit {α : Type} (l : List α) (p : α → Bool) {k : Nat} (h : k < l.length) (hp : p l[k] = true) : l.any p = true := List.any_eq_true.2 ⟨_, List.getElem_mem h, hp⟩
set_option maxRecDepth 100000 in
set_option maxHeartbeats 400000 in
theorem indexFuncP (g : Nat) (lb : Array Value) (p : Int × Int → Bool) (eg : ∀ args w, (callFunc g args).run Try.prog w = .ok (.enter g args) w) (A : Option Addr) (c : Nat) (ps : List (Int × Int)) (hl : ps.length ≤ 1000000) (w : World) (hP : PartsIn w A ps) (hp : PredP g lb p w ps) :
    Calls Try.prog 117 #[.slice A ps.length c, .func (.func g) #[] lb] w fun e w' => (∃ n : Int, e = .returned (.int .i64 n) ∧ decide (0 ≤ n) = ps.any p ∧ -1 ≤ n ∧ n ≤ 1000000) ∧ Below w.heap.size w w' := by
  have HP := Lib.hid hP
  have HPP := Lib.hid hp
  clear hP hp
  go_enter Try.func117, Try.ntmps117
  go_wp2
  go_loopw [8] (fun i wr => ∃ k : Nat, i = .int .i64 k ∧ k ≤ ps.length ∧ Hid (Below w.heap.size w wr ∧ (ps.take k).any p = false)) (fun i _ => ps.length - (intOf i).toNat)
  case atStart => exact ⟨0, rfl, by omega, Below.refl _ _, rfl⟩
  case round =>
    obtain ⟨k, rfl, hk, hr⟩ := hrel
    by_cases hlt : k < ps.length
    · obtain ⟨b, o, rfl, hb, hc⟩ := (HP.out.below hr.out.1).2 (by omega)
      obtain ⟨q0, q1⟩ := hc k hlt
      have h64 := HP.out.1 _ (List.getElem_mem hlt)
      have hat := any_take ps p hlt
      have hah := any_hit ps p hlt
      rw [hr.out.2, Bool.false_or] at hat
      obtain ⟨x, hx⟩ : ∃ x, ps[k] = x := ⟨_, rfl⟩
      rw [hx] at q0 q1 h64 hat hah
      have hcall := HPP.out wr x hr.out.1 (by rw [← hx]; exact List.getElem_mem hlt) h64.1 h64.2
      have HAT := Lib.hid hat
      have HAH := Lib.hid hah
      clear hc hx hat hah
      cases hq : p x with
      | true =>
        rw [hq] at hcall
        have HX := Lib.hid (HAH.out hq)
        clear hq
        go_wp2_with (go_at_fn g; refine hcall.mono ?_; rintro e w' ⟨rfl, hb'⟩)
        go_ret
        exact ⟨⟨k, rfl, by rw [HX.out]; exact decide_eq_true (by omega), by omega, by omega⟩, hr.out.1.trans (hb'.mono hr.out.1.size)⟩
      | false =>
        rw [hq] at hcall
        have HX := Lib.hid (HAT.out.trans hq)
        clear hq
        go_wp2_with (go_at_fn g; refine hcall.mono ?_; rintro e w' ⟨rfl, hb'⟩)
        go_roundw
        case rel => exact ⟨k + 1, by go_num, by omega, hr.out.1.trans (hb'.mono hr.out.1.size), HX.out⟩
        case measure => simp [intOf]; omega
    · obtain rfl : k = ps.length := by omega
      have hr := hr.out
      rw [List.take_length] at hr
      have HR := Lib.hid hr
      clear hr
      go_wp2
      go_ret
      exact ⟨⟨-1, rfl, by rw [HR.out.2]; rfl, by omega, by omega⟩, HR.out.1⟩
set_option maxRecDepth 100000 in
set_option maxHeartbeats 400000 in
theorem containsFuncP (g : Nat) (lb : Array Value) (p : Int × Int → Bool) (eg : ∀ args w, (callFunc g args).run Try.prog w = .ok (.enter g args) w) (A : Option Addr) (n c : Nat) (ps : List (Int × Int)) (hn : ps.length = n) (hl : ps.length ≤ 1000000) (w : World) (hP : PartsIn w A ps) (hp : PredP g lb p w ps) :
    Calls Try.prog 100 #[.slice A n c, .func (.func g) #[] lb] w fun e w' => e = .returned (.bool (ps.any p)) ∧ Below w.heap.size w w' := by
  subst hn
  have hc := indexFuncP g lb p eg A c ps hl w hP hp
  clear eg
  go_enter Try.func100, Try.ntmps100
  go_wp2_with fail
  refine hc.mono ?_
  rintro e w' ⟨⟨n, rfl, hn, h1, h2⟩, hb⟩
  have HN := Lib.hid hn
  clear hn hc
  go_wp2
  go_ret
  exact ⟨by rw [← HN.out]; rfl, hb⟩
theorem getD_mem {xs : List Int} {k : Nat} (h : k < xs.length) : xs.getD k 0 ∈ xs := by
  rw [List.getD_eq_getElem?_getD, List.getElem?_eq_getElem h]; exact List.getElem_mem h
theorem getD_at {xs : List Int} {k : Nat} (h : k < xs.length) : xs[k] = xs.getD k 0 := by
  rw [List.getD_eq_getElem?_getD, List.getElem?_eq_getElem h]; rfl
set_option maxRecDepth 100000 in
set_option maxHeartbeats 400000 in
theorem indexFuncI (g : Nat) (lb : Array Value) (p : Int → Bool) (eg : ∀ args w, (callFunc g args).run Try.prog w = .ok (.enter g args) w) (A : Option Addr) (n c : Nat) (xs : List Int) (hl : xs.length ≤ 1000000) (w : World) (hP : IsL w A n xs) (h64 : ∀ x ∈ xs, I64 x) (hp : PredI g lb p w xs) :
    Calls Try.prog 102 #[.slice A n c, .func (.func g) #[] lb] w fun e w' => (∃ n : Int, e = .returned (.int .i64 n) ∧ decide (0 ≤ n) = xs.any p ∧ -1 ≤ n ∧ n ≤ 1000000) ∧ Below w.heap.size w w' := by
  obtain rfl := hP.1
  have HP := Lib.hid hP
  have HPP := Lib.hid hp
  have H64 := Lib.hid h64
  clear hP hp h64
  go_enter Try.func102, Try.ntmps102
  go_wp2
  go_loopw [8] (fun i wr => ∃ k : Nat, i = .int .i64 k ∧ k ≤ xs.length ∧ Hid (Below w.heap.size w wr ∧ (xs.take k).any p = false)) (fun i _ => xs.length - (intOf i).toNat)
  case atStart => exact ⟨0, rfl, by omega, Below.refl _ _, rfl⟩
  case round =>
    obtain ⟨k, rfl, hk, hr⟩ := hrel
    by_cases hlt : k < xs.length
    · obtain ⟨b, o, rfl, hb, hc⟩ := (HP.out.below hr.out.1).2 (by omega)
      have q0 := hc k hlt
      have h64 := H64.out _ (getD_mem hlt)
      have hat := any_take xs p hlt
      have hah := any_hit xs p hlt
      rw [hr.out.2, Bool.false_or] at hat
      rw [getD_at hlt] at hat hah
      obtain ⟨x, hx⟩ : ∃ x, xs.getD k 0 = x := ⟨_, rfl⟩
      rw [hx] at q0 h64 hat hah
      have hcall := HPP.out wr x hr.out.1 (by rw [← hx]; exact getD_mem hlt) h64
      have HAT := Lib.hid hat
      have HAH := Lib.hid hah
      clear hc hx hat hah
      cases hq : p x with
      | true =>
        rw [hq] at hcall
        have HX := Lib.hid (HAH.out hq)
        clear hq
        go_wp2_with (go_at_fn g; refine hcall.mono ?_; rintro e w' ⟨rfl, hb'⟩)
        go_ret
        exact ⟨⟨k, rfl, by rw [HX.out]; exact decide_eq_true (by omega), by omega, by omega⟩, hr.out.1.trans (hb'.mono hr.out.1.size)⟩
      | false =>
        rw [hq] at hcall
        have HX := Lib.hid (HAT.out.trans hq)
        clear hq
        go_wp2_with (go_at_fn g; refine hcall.mono ?_; rintro e w' ⟨rfl, hb'⟩)
        go_roundw
        case rel => exact ⟨k + 1, by go_num, by omega, hr.out.1.trans (hb'.mono hr.out.1.size), HX.out⟩
        case measure => simp [intOf]; omega
    · obtain rfl : k = xs.length := by omega
      have hr := hr.out
      rw [List.take_length] at hr
      have HR := Lib.hid hr
      clear hr
      go_wp2
      go_ret
      exact ⟨⟨-1, rfl, by rw [HR.out.2]; rfl, by omega, by omega⟩, HR.out.1⟩
set_option maxRecDepth 100000 in
set_option maxHeartbeats 400000 in
theorem containsFuncI (g : Nat) (lb : Array Value) (p : Int → Bool) (eg : ∀ args w, (callFunc g args).run Try.prog w = .ok (.enter g args) w) (A : Option Addr) (n c : Nat) (xs : List Int) (hl : xs.length ≤ 1000000) (w : World) (hP : IsL w A n xs) (h64 : ∀ x ∈ xs, I64 x) (hp : PredI g lb p w xs) :
    Calls Try.prog 74 #[.slice A n c, .func (.func g) #[] lb] w fun e w' => e = .returned (.bool (xs.any p)) ∧ Below w.heap.size w w' := by
  have hc := indexFuncI g lb p eg A n c xs hl w hP h64 hp
  clear eg
  have H64 := Lib.hid h64
  clear h64
  go_enter Try.func74, Try.ntmps74
  go_wp2_with fail
  refine hc.mono ?_
  rintro e w' ⟨⟨n, rfl, hn, h1, h2⟩, hb⟩
  have HN := Lib.hid hn
  clear hn hc
  go_wp2
  go_ret
  exact ⟨by rw [← HN.out]; rfl, hb⟩
end Go.Proofs.Ytdgmpaijpjkeoaa
