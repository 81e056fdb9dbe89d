/-
  slices.IndexFunc and ContainsFunc, at parts and at ints, whatever the predicate.
-/
import Derived.Test.YtdgmpaijpjkeoaaLotA
import Derived.Shelf.Abstract
import Derived.Deep.DeepCutAuto
namespace Go.Proofs.Ytdgmpaijpjkeoaa
open Go.RowKit
/-- A predicate that makes blocks of its own at most. -/
def PredP (g : Nat) (lb : Array Value) (p : Int × Int → Bool) (w : World) (ps : List (Int × Int)) : Prop :=
  ∀ (W : World) (x : Int × Int), Below w.heap.size w W → x ∈ ps → I64 x.1 → I64 x.2 → Calls Try.prog g (#[.agg #[.int .i64 x.1, .int .i64 x.2]] ++ lb) W fun e w' => e = .returned (.bool (p x)) ∧ Below W.heap.size W w'
def PredI (g : Nat) (lb : Array Value) (p : Int → Bool) (w : World) (xs : List Int) : Prop :=
  ∀ (W : World) (x : Int), Below w.heap.size w W → x ∈ xs → I64 x → Calls Try.prog g (#[.int .i64 x] ++ lb) W fun e w' => e = .returned (.bool (p x)) ∧ Below W.heap.size W w'
theorem any_take {α : Type} (l : List α) (p : α → Bool) {k : Nat} (h : k < l.length) : (l.take (k + 1)).any p = ((l.take k).any p || p l[k]) := by
  rw [List.take_succ_eq_append_getElem h, List.any_append]; simp
theorem any_hit {α : Type} (l : List α) (p : α → Bool) {k : Nat} (h : k < l.length) (hp : p l[k] = true) : l.any p = true := List.any_eq_true.2 ⟨_, List.getElem_mem h, hp⟩
set_option maxRecDepth 100000 in
set_option maxHeartbeats 400000 in
theorem indexFuncP (g : Nat) (lb : Array Value) (p : Int × Int → Bool) (eg : ∀ args w, (callFunc g args).run Try.prog w = .ok (.enter g args) w) (A : Option Addr) (c : Nat) (ps : List (Int × Int)) (hl : ps.length ≤ 1000000) (w : World) (hP : PartsIn w A ps) (hp : PredP g lb p w ps) :
    Calls Try.prog 117 #[.slice A ps.length c, .func (.func g) #[] lb] w fun e w' => (∃ n : Int, e = .returned (.int .i64 n) ∧ decide (0 ≤ n) = ps.any p ∧ -1 ≤ n ∧ n ≤ 1000000) ∧ Below w.heap.size w w' := by
  have HP := Lib.hid hP
  have HPP := Lib.hid hp
  clear hP hp
  go_enter Try.func117, Try.ntmps117
  go_wp2
  go_loopw [8] (fun i wr => ∃ k : Nat, i = .int .i64 k ∧ k ≤ ps.length ∧ Hid (Below w.heap.size w wr ∧ (ps.take k).any p = false)) (fun i _ => ps.length - (intOf i).toNat)
  case atStart => exact ⟨0, rfl, by omega, Below.refl _ _, rfl⟩
  case round =>
    obtain ⟨k, rfl, hk, hr⟩ := hrel
    by_cases hlt : k < ps.length
    · obtain ⟨b, o, rfl, hb, hc⟩ := (HP.out.below hr.out.1).2 (by omega)
      obtain ⟨q0, q1⟩ := hc k hlt
      have h64 := HP.out.1 _ (List.getElem_mem hlt)
      have hat := any_take ps p hlt
      have hah := any_hit ps p hlt
      rw [hr.out.2, Bool.false_or] at hat
      obtain ⟨x, hx⟩ : ∃ x, ps[k] = x := ⟨_, rfl⟩
      rw [hx] at q0 q1 h64 hat hah
      have hcall := HPP.out wr x hr.out.1 (by rw [← hx]; exact List.getElem_mem hlt) h64.1 h64.2
      have HAT := Lib.hid hat
      have HAH := Lib.hid hah
      clear hc hx hat hah
      cases hq : p x with
      | true =>
        rw [hq] at hcall
        have HX := Lib.hid (HAH.out hq)
        clear hq
        go_wp2_with (go_at_fn g; refine hcall.mono ?_; rintro e w' ⟨rfl, hb'⟩)
        go_ret
        exact ⟨⟨k, rfl, by rw [HX.out]; exact decide_eq_true (by omega), by omega, by omega⟩, hr.out.1.trans (hb'.mono hr.out.1.size)⟩
      | false =>
        rw [hq] at hcall
        have HX := Lib.hid (HAT.out.trans hq)
        clear hq
        go_wp2_with (go_at_fn g; refine hcall.mono ?_; rintro e w' ⟨rfl, hb'⟩)
        go_roundw
        case rel => exact ⟨k + 1, by go_num, by omega, hr.out.1.trans (hb'.mono hr.out.1.size), HX.out⟩
        case measure => simp [intOf]; omega
    · obtain rfl : k = ps.length := by omega
      have hr := hr.out
      rw [List.take_length] at hr
      have HR := Lib.hid hr
      clear hr
      go_wp2
      go_ret
      exact ⟨⟨-1, rfl, by rw [HR.out.2]; rfl, by omega, by omega⟩, HR.out.1⟩
set_option maxRecDepth 100000 in
set_option maxHeartbeats 400000 in
theorem containsFuncP (g : Nat) (lb : Array Value) (p : Int × Int → Bool) (eg : ∀ args w, (callFunc g args).run Try.prog w = .ok (.enter g args) w) (A : Option Addr) (n c : Nat) (ps : List (Int × Int)) (hn : ps.length = n) (hl : ps.length ≤ 1000000) (w : World) (hP : PartsIn w A ps) (hp : PredP g lb p w ps) :
    Calls Try.prog 100 #[.slice A n c, .func (.func g) #[] lb] w fun e w' => e = .returned (.bool (ps.any p)) ∧ Below w.heap.size w w' := by
  subst hn
  have hc := indexFuncP g lb p eg A c ps hl w hP hp
  clear eg
  go_enter Try.func100, Try.ntmps100
  go_wp2_with fail
  refine hc.mono ?_
  rintro e w' ⟨⟨n, rfl, hn, h1, h2⟩, hb⟩
  have HN := Lib.hid hn
  clear hn hc
  go_wp2
  go_ret
  exact ⟨by rw [← HN.out]; rfl, hb⟩
theorem getD_mem {xs : List Int} {k : Nat} (h : k < xs.length) : xs.getD k 0 ∈ xs := by
  rw [List.getD_eq_getElem?_getD, List.getElem?_eq_getElem h]; exact List.getElem_mem h
theorem getD_at {xs : List Int} {k : Nat} (h : k < xs.length) : xs[k] = xs.getD k 0 := by
  rw [List.getD_eq_getElem?_getD, List.getElem?_eq_getElem h]; rfl
set_option maxRecDepth 100000 in
set_option maxHeartbeats 400000 in
theorem indexFuncI (g : Nat) (lb : Array Value) (p : Int → Bool) (eg : ∀ args w, (callFunc g args).run Try.prog w = .ok (.enter g args) w) (A : Option Addr) (n c : Nat) (xs : List Int) (hl : xs.length ≤ 1000000) (w : World) (hP : IsL w A n xs) (h64 : ∀ x ∈ xs, I64 x) (hp : PredI g lb p w xs) :
    Calls Try.prog 102 #[.slice A n c, .func (.func g) #[] lb] w fun e w' => (∃ n : Int, e = .returned (.int .i64 n) ∧ decide (0 ≤ n) = xs.any p ∧ -1 ≤ n ∧ n ≤ 1000000) ∧ Below w.heap.size w w' := by
  obtain rfl := hP.1
  have HP := Lib.hid hP
  have HPP := Lib.hid hp
  have H64 := Lib.hid h64
  clear hP hp h64
  go_enter Try.func102, Try.ntmps102
  go_wp2
  go_loopw [8] (fun i wr => ∃ k : Nat, i = .int .i64 k ∧ k ≤ xs.length ∧ Hid (Below w.heap.size w wr ∧ (xs.take k).any p = false)) (fun i _ => xs.length - (intOf i).toNat)
  case atStart => exact ⟨0, rfl, by omega, Below.refl _ _, rfl⟩
  case round =>
    obtain ⟨k, rfl, hk, hr⟩ := hrel
    by_cases hlt : k < xs.length
    · obtain ⟨b, o, rfl, hb, hc⟩ := (HP.out.below hr.out.1).2 (by omega)
      have q0 := hc k hlt
      have h64 := H64.out _ (getD_mem hlt)
      have hat := any_take xs p hlt
      have hah := any_hit xs p hlt
      rw [hr.out.2, Bool.false_or] at hat
      rw [getD_at hlt] at hat hah
      obtain ⟨x, hx⟩ : ∃ x, xs.getD k 0 = x := ⟨_, rfl⟩
      rw [hx] at q0 h64 hat hah
      have hcall := HPP.out wr x hr.out.1 (by rw [← hx]; exact getD_mem hlt) h64
      have HAT := Lib.hid hat
      have HAH := Lib.hid hah
      clear hc hx hat hah
      cases hq : p x with
      | true =>
        rw [hq] at hcall
        have HX := Lib.hid (HAH.out hq)
        clear hq
        go_wp2_with (go_at_fn g; refine hcall.mono ?_; rintro e w' ⟨rfl, hb'⟩)
        go_ret
        exact ⟨⟨k, rfl, by rw [HX.out]; exact decide_eq_true (by omega), by omega, by omega⟩, hr.out.1.trans (hb'.mono hr.out.1.size)⟩
      | false =>
        rw [hq] at hcall
        have HX := Lib.hid (HAT.out.trans hq)
        clear hq
        go_wp2_with (go_at_fn g; refine hcall.mono ?_; rintro e w' ⟨rfl, hb'⟩)
        go_roundw
        case rel => exact ⟨k + 1, by go_num, by omega, hr.out.1.trans (hb'.mono hr.out.1.size), HX.out⟩
        case measure => simp [intOf]; omega
    · obtain rfl : k = xs.length := by omega
      have hr := hr.out
      rw [List.take_length] at hr
      have HR := Lib.hid hr
      clear hr
      go_wp2
      go_ret
      exact ⟨⟨-1, rfl, by rw [HR.out.2]; rfl, by omega, by omega⟩, HR.out.1⟩
set_option maxRecDepth 100000 in
set_option maxHeartbeats 400000 in
theorem containsFuncI (g : Nat) (lb : Array Value) (p : Int → Bool) (eg : ∀ args w, (callFunc g args).run Try.prog w = .ok (.enter g args) w) (A : Option Addr) (n c : Nat) (xs : List Int) (hl : xs.length ≤ 1000000) (w : World) (hP : IsL w A n xs) (h64 : ∀ x ∈ xs, I64 x) (hp : PredI g lb p w xs) :
    Calls Try.prog 74 #[.slice A n c, .func (.func g) #[] lb] w fun e w' => e = .returned (.bool (xs.any p)) ∧ Below w.heap.size w w' := by
  have hc := indexFuncI g lb p eg A n c xs hl w hP h64 hp
  clear eg
  have H64 := Lib.hid h64
  clear h64
  go_enter Try.func74, Try.ntmps74
  go_wp2_with fail
  refine hc.mono ?_
  rintro e w' ⟨⟨n, rfl, hn, h1, h2⟩, hb⟩
  have HN := Lib.hid hn
  clear hn hc
  go_wp2
  go_ret
  exact ⟨by rw [← HN.out]; rfl, hb⟩
end Go.Proofs.Ytdgmpaijpjkeoaa
/-
  partsError.
-/
namespace Go.Proofs.Ytdgmpaijpjkeoaa
open Go.RowKit
theorem enter_of {f : FuncId} {fn : Func} (hf : Try.prog.funcs[f]? = some fn) (hname : (fn.name == "runtime.NumGoroutine") = false) (hb : fn.body.isNone = false) (args : Array Value) (w : World) : (callFunc f args).run Try.prog w = .ok (.enter f args) w := by
  have h1 : fn.name ≠ "runtime.NumGoroutine" := by simpa using hname
  have h2 : fn.body ≠ none := by intro e; rw [e] at hb; cases hb
  simp [callFunc, hf, h1, h2]
theorem enter_same (args : Array Value) (w : World) : (callFunc 116 args).run Try.prog w = .ok (.enter 116 args) w :=
  enter_of Try.func116 (by kernel_rfl) (by kernel_rfl) args w
theorem PartsIn.take {w : World} {A : Option Addr} {ps : List (Int × Int)} (h : PartsIn w A ps) (k : Nat) : PartsIn w A (ps.take k) := by
  refine ⟨fun p hp => h.1 p (List.mem_of_mem_take hp), fun hk => ?_⟩
  rw [List.length_take] at hk
  obtain ⟨b, o, rfl, hlt, hc⟩ := h.2 (by omega)
  refine ⟨b, o, rfl, hlt, fun j hj => ?_⟩
  rw [List.length_take] at hj
  rw [List.getElem_take]
  exact hc j (by omega)
set_option maxRecDepth 100000 in
theorem same_any (b : Nat) (n : Int) (ps : List (Int × Int)) (w : World) (h : w.cell? ⟨b, 0, none⟩ = some (.int .i64 n)) (hlt : b < w.heap.size) : PredP 116 #[.pointer (some ⟨b, 0, none⟩)] (fun q => q.1 == n) w ps := by
  intro W x hb _ h1 h2
  have hc := (hb.cell (p := ⟨b, 0, none⟩) hlt).trans h
  have hs := Nat.lt_of_lt_of_le hlt hb.size
  obtain ⟨x1, x2⟩ := x
  go_enter Try.func116, Try.ntmps116
  go_wp2
  go_ret
  exact ⟨rfl, (by repeat' (first | (with_reducible exact Below.refl _ _) | (with_reducible assumption) | (with_reducible refine below_drewN ?_ _) | (with_reducible refine below_step (by assumption) ?_ ?_) | (with_reducible refine Below.alloc ?_ ?_ _) | (with_reducible refine Below.setCell ?_ ?_ _) | (with_reducible refine Below.drew ?_) | go_size | (exact Below.size (by assumption)) | (refine Nat.le_trans (Below.size (by assumption)) ?_)))⟩
/-- The error of the parts of the i-th lot. -/
def prtE (i : Nat) (ps : List (Int × Int)) : Int := if 6 < ps.length then 4 else if badPs i [] ps = true then 1 else 0
theorem bad_step {i k : Nat} {ps : List (Int × Int)} (h : k < ps.length) : badPs i (ps.take k) (ps.drop k) = (badP i (ps.take k) ps[k] || badPs i (ps.take (k + 1)) (ps.drop (k + 1))) := by
  rw [List.drop_eq_getElem_cons h, badPs, ← List.take_succ_eq_append_getElem h]
set_option maxRecDepth 100000 in
set_option maxHeartbeats 1000000 in
theorem partsError_any (l : List LotD) (i : Nat) (hi : i < l.length) (hl : l.length ≤ 1000) (A : Option Addr) (c : Nat) (w : World) (hL : LotsIn w A l) (hps : l[i].parts.length ≤ 1000) :
    Calls Try.prog 99 #[.slice A l.length c, .int .i64 i] w fun e w' => e = .returned (.int .i64 (prtE i l[i].parts)) ∧ Below w.heap.size w w' := by
  obtain ⟨b, o, rfl, hc⟩ := hL (by omega)
  obtain ⟨h1, h2, h3, h4, h5, A', c', h6, h8, h7⟩ := hc i hi
  obtain ⟨ps, hps'⟩ : ∃ ps, ps = l[i].parts := ⟨_, rfl⟩
  rw [← hps'] at h6 h7 h8 hps ⊢
  have HP := Lib.hid h7
  clear hc h7 hps' h4 h5 h1 h2 hL
  by_cases h0 : 6 < ps.length
  · have HR := Lib.hid (show prtE i ps = 4 by rw [prtE, if_pos h0])
    go_enter Try.func99, Try.ntmps99
    go_wp2
    go_ret
    exact ⟨by rw [HR.out]; rfl, Below.refl _ _⟩
  · have HR := Lib.hid (show prtE i ps = if badPs i [] ps = true then 1 else 0 by rw [prtE, if_neg h0])
    go_enter Try.func99, Try.ntmps99
    go_wp2
    go_loopw [19] (fun t wr => ∃ k : Nat, t = .int .i64 k ∧ k ≤ ps.length ∧ Hid (badPs i (ps.take k) (ps.drop k) = badPs i [] ps ∧ Below w.heap.size w wr)) (fun t _ => ps.length - (intOf t).toNat)
    case atStart => exact ⟨0, rfl, by omega, Lib.hid ⟨by simp, Below.refl _ _⟩⟩
    case round =>
      obtain ⟨k, rfl, hk, hr⟩ := hrel
      by_cases hlt : k < ps.length
      · obtain ⟨b', o', rfl, hb', hc⟩ := (HP.out.below hr.out.2).2 (by omega)
        obtain ⟨q0, q1⟩ := hc k hlt
        have h64 := HP.out.1 _ (List.getElem_mem hlt)
        have hst := bad_step (i := i) hlt
        obtain ⟨x, hx⟩ : ∃ x, ps[k] = x := ⟨_, rfl⟩
        rw [hx] at q0 q1 h64 hst
        have HX := Lib.hid hx
        have HS := Lib.hid hst
        clear hc hx hst
        obtain ⟨x1, x2⟩ := x
        simp only at q0 q1 h64
        go_upto_region 8 with fail
        obtain ⟨wa, hwa⟩ : ∃ wa, wa = wr.alloc (.cells #[.int .i64 x1, .int .i64 x2] 39) := ⟨_, rfl⟩
        rw [← hwa]
        have k0 : wa.cell? ⟨wr.heap.size, 0, none⟩ = some (.int .i64 x1) := by rw [hwa]; simp
        have k1 : wa.cell? ⟨wr.heap.size, 1, none⟩ = some (.int .i64 x2) := by rw [hwa]; simp
        have kz : wr.heap.size < wa.heap.size := by rw [hwa]; simp
        have HA := Lib.hid (show Below w.heap.size w wa by rw [hwa]; exact hr.out.2.alloc hr.out.2.size _)
        clear hwa q0 q1
        go_cut [50] (fun s wx => ∃ cc : Bool, s = .bool cc ∧ Hid (cc = badP i (ps.take k) (x1, x2) ∧ Below w.heap.size w wx))
        case first =>
          by_cases c1 : x1 < 0
          · have HB := Lib.hid (show badP i (ps.take k) (x1, x2) = true by simp [badP, c1])
            go_wp2_with fail
            go_meet
            exact ⟨true, rfl, Lib.hid ⟨HB.out.symm, HA.out⟩⟩
          · by_cases c2 : (i : Int) ≤ x1
            · have HB := Lib.hid (show badP i (ps.take k) (x1, x2) = true by simp [badP, c2])
              have d1 : decide ((i : Int) ≤ x1) = true := decide_eq_true c2
              go_wp2_with fail
              go_meet
              exact ⟨true, rfl, Lib.hid ⟨HB.out.symm, HA.out⟩⟩
            · have d1 : decide ((i : Int) ≤ x1) = false := decide_eq_false c2
              by_cases c3 : x2 < 1
              · have HB := Lib.hid (show badP i (ps.take k) (x1, x2) = true by simp [badP, c3])
                go_wp2_with fail
                go_meet
                exact ⟨true, rfl, Lib.hid ⟨HB.out.symm, HA.out⟩⟩
              · by_cases c4 : 100000 < x2
                · have HB := Lib.hid (show badP i (ps.take k) (x1, x2) = true by simp [badP, c4])
                  go_wp2_with fail
                  go_meet
                  exact ⟨true, rfl, Lib.hid ⟨HB.out.symm, HA.out⟩⟩
                · have HB := Lib.hid (show badP i (ps.take k) (x1, x2) = (ps.take k).any fun q => q.1 == x1 by simp [badP, c1, c2, c3, c4])
                  have d4 : decide (100000 < x2) = false := decide_eq_false c4
                  have hcf := containsFuncP 116 #[.pointer (some ⟨wr.heap.size, 0, none⟩)] (fun q => q.1 == x1) enter_same (some ⟨b', o', none⟩) k c' (ps.take k) (by rw [List.length_take]; omega) (by rw [List.length_take]; omega) wa ((HP.out.below HA.out).take k) (same_any _ _ _ _ k0 kz)
                  have HCF := Lib.hid hcf
                  clear hcf
                  go_wp2_with fail
                  refine HCF.out.mono ?_
                  rintro e w2 ⟨rfl, hb2⟩
                  rw [← HB.out]
                  go_wp2_with fail
                  go_meet
                  exact ⟨_, rfl, Lib.hid ⟨rfl, HA.out.trans (hb2.mono HA.out.size)⟩⟩
        case rest =>
          obtain ⟨cc, rfl, hcc⟩ := hcut
          have H1 := Lib.hid hr.out.1
          clear hr HA k0 k1 kz
          cases cc with
          | true =>
            have H2 := Lib.hid (HR.out.trans (if_pos (by rw [← H1.out, HS.out, ← hcc.out.1]; rfl)))
            go_wp2
            go_ret
            exact ⟨by rw [H2.out]; rfl, hcc.out.2⟩
          | false =>
            go_wp2
            go_roundw
            case rel => exact ⟨k + 1, by go_num, by omega, Lib.hid ⟨by rw [← H1.out, HS.out, ← hcc.out.1]; rfl, hcc.out.2⟩⟩
            case measure => simp [intOf]; omega
      · obtain rfl : k = ps.length := by omega
        have H2 := Lib.hid (HR.out.trans (if_neg (by rw [← hr.out.1, List.drop_length]; simp [badPs])))
        go_wp2
        go_ret
        exact ⟨by rw [H2.out]; rfl, hr.out.2⟩
end Go.Proofs.Ytdgmpaijpjkeoaa
/-
  lotError.
-/
namespace Go.Proofs.Ytdgmpaijpjkeoaa
open Go.RowKit
attribute [local go_sem] grow_cell grow_frozen
theorem enter_oil (args : Array Value) (w : World) : (callFunc 101 args).run Try.prog w = .ok (.enter 101 args) w :=
  enter_of Try.func101 (by kernel_rfl) (by kernel_rfl) args w
theorem badPs_false' {i : Nat} {ps : List (Int × Int)} (h : prtE i ps = 0) : ps.length ≤ 6 ∧ badPs i [] ps = false := by
  unfold prtE at h
  split at h
  · cases h
  · split at h
    · cases h
    · rename_i h1 h2
      exact ⟨by omega, by simpa using h2⟩
set_option maxRecDepth 100000 in
theorem oil_any (b : Nat) (l : List LotD) (A : Option Addr) (c : Nat) (ps : List (Int × Int)) (w : World) (hL : LotsIn w A l) (h : w.cell? ⟨b, 0, none⟩ = some (.slice A l.length c)) (hlt : b < w.heap.size) (hp : ∀ p ∈ ps, 0 ≤ p.1 ∧ p.1 < l.length) (hl : l.length ≤ 1000) :
    PredP 101 #[.pointer (some ⟨b, 0, none⟩)] (fun q => kindOf l q.1 == 0) w ps := by
  intro W x hb hx h1 h2
  have hc := (hb.cell (p := ⟨b, 0, none⟩) hlt).trans h
  have hs := Nat.lt_of_lt_of_le hlt hb.size
  obtain ⟨p1, p2⟩ := hp x hx
  obtain ⟨x1, x2⟩ := x
  simp only at p1 p2 h1 h2
  obtain ⟨j, rfl⟩ : ∃ j : Nat, x1 = j := ⟨x1.toNat, by omega⟩
  have hj : j < l.length := by omega
  obtain ⟨b', o, rfl, hcs⟩ := (hL.below hb) (by omega)
  obtain ⟨e1, e2, e3, e4, -⟩ := hcs j hj
  have hk : kindOf l (j : Int) = l[j].kind := by
    unfold kindOf
    rw [Int.toNat_natCast, List.getD_eq_getElem?_getD, List.getElem?_eq_getElem hj]; rfl
  obtain ⟨kd, hkd⟩ : ∃ kd, kd = l[j].kind := ⟨_, rfl⟩
  rw [← hkd] at e4 e1 hk
  simp only [hk]
  clear hcs hkd hk h
  go_enter Try.func101, Try.ntmps101
  go_wp2
  go_ret
  exact ⟨rfl, (by repeat' (first | (with_reducible exact Below.refl _ _) | (with_reducible assumption) | (with_reducible refine below_drewN ?_ _) | (with_reducible refine below_step (by assumption) ?_ ?_) | (with_reducible refine Below.alloc ?_ ?_ _) | (with_reducible refine Below.setCell ?_ ?_ _) | (with_reducible refine Below.drew ?_) | go_size | (exact Below.size (by assumption)) | (refine Nat.le_trans (Below.size (by assumption)) ?_)))⟩
set_option maxRecDepth 100000 in
set_option maxHeartbeats 1000000 in
theorem lotError_any (l : List LotD) (i : Nat) (hi : i < l.length) (hl : l.length ≤ 1000) (A : Option Addr) (c : Nat) (w : World) (hL : LotsIn w A l) (hps : l[i].parts.length ≤ 1000) :
    Calls Try.prog 73 #[.slice A l.length c, .int .i64 i] w fun e w' => e = .returned (.int .i64 (lotE l i l[i])) ∧ Below w.heap.size w w' := by
  have hpe := fun w' hL' => partsError_any l i hi hl A c w' hL' hps
  have HPE := Lib.hid hpe
  have HL := Lib.hid hL
  obtain ⟨b, o, rfl, hc⟩ := hL (by omega)
  obtain ⟨h1, h2, h3, h4, h5, A', c', h6, h8, h7⟩ := hc i hi
  obtain ⟨x, hx⟩ : ∃ x, x = l[i] := ⟨_, rfl⟩
  rw [← hx] at h1 h2 h4 h5 h6 h7 h8 hps HPE ⊢
  have HP := Lib.hid h7
  obtain ⟨kd, ms, ps⟩ := x
  simp only at h1 h2 h4 h5 h6 h8 hps HP HPE
  clear hc h7 hx hpe
  by_cases c1 : kd < 0 ∨ 8 ≤ kd ∨ ms < 1 ∨ 100000 < ms
  · have HR := Lib.hid (show lotE l i ⟨kd, ms, ps⟩ = 1 by rw [lotE, if_pos c1])
    rcases (by omega : kd < 0 ∨ 0 ≤ kd ∧ 8 ≤ kd ∨ 0 ≤ kd ∧ kd < 8 ∧ ms < 1 ∨ 0 ≤ kd ∧ kd < 8 ∧ 1 ≤ ms ∧ 100000 < ms) with c1 | ⟨c1, c2⟩ | ⟨c1, c2, c3⟩ | ⟨c1, c2, c3, c4⟩
    all_goals
      go_enter Try.func73, Try.ntmps73
      go_wp2
      go_ret
      exact ⟨by rw [HR.out]; rfl, (by repeat' (first | (with_reducible exact Below.refl _ _) | (with_reducible assumption) | (with_reducible refine below_drewN ?_ _) | (with_reducible refine below_step (by assumption) ?_ ?_) | (with_reducible refine Below.alloc ?_ ?_ _) | (with_reducible refine Below.setCell ?_ ?_ _) | (with_reducible refine Below.drew ?_) | go_size | (exact Below.size (by assumption)) | (refine Nat.le_trans (Below.size (by assumption)) ?_)))⟩
  · have HR := Lib.hid (show lotE l i ⟨kd, ms, ps⟩ = if 6 < ps.length then 4 else if badPs i [] ps = true then 1 else if ps.length = 0 then (if kd = 5 ∨ kd = 6 ∨ kd = 7 then 9 else 0) else if sumP ps < ms ∧ ¬ (kd = 5 ∧ oily l ps = true) then 9 else 0 by rw [lotE, if_neg c1])
    have k0 : 0 ≤ kd := by omega
    have k1 : kd < 8 := by omega
    have m0 : 1 ≤ ms := by omega
    have m1 : ms ≤ 100000 := by omega
    clear c1
    go_enter Try.func73, Try.ntmps73
    go_wp2_with fail
    obtain ⟨W, hW⟩ : ∃ W, W = (w.alloc (.cells #[.slice (some ⟨b, o, none⟩) l.length c] 22)).alloc (.cells #[.int .i64 kd, .int .i64 ms, .slice A' ps.length c'] 37) := ⟨_, rfl⟩
    rw [← hW]
    have q0 : W.cell? ⟨w.heap.size, 0, none⟩ = some (.slice (some ⟨b, o, none⟩) l.length c) := by rw [hW]; simp
    have q1 : W.cell? ⟨w.heap.size + 1, 0, none⟩ = some (.int .i64 kd) := by rw [hW]; simp
    have q2 : W.cell? ⟨w.heap.size + 1, 1, none⟩ = some (.int .i64 ms) := by rw [hW]; simp
    have q3 : W.cell? ⟨w.heap.size + 1, 2, none⟩ = some (.slice A' ps.length c') := by rw [hW]; simp
    have qz : w.heap.size + 1 < W.heap.size := by rw [hW]; simp
    have HW := Lib.hid (show Below w.heap.size w W by rw [hW]; exact (by repeat' (first | (with_reducible exact Below.refl _ _) | (with_reducible assumption) | (with_reducible refine below_drewN ?_ _) | (with_reducible refine below_step (by assumption) ?_ ?_) | (with_reducible refine Below.alloc ?_ ?_ _) | (with_reducible refine Below.setCell ?_ ?_ _) | (with_reducible refine Below.drew ?_) | go_size | (exact Below.size (by assumption)) | (refine Nat.le_trans (Below.size (by assumption)) ?_))))
    clear hW h4 h5 h6
    refine (HPE.out W (HL.out.below HW.out)).mono ?_
    rintro e w1 ⟨rfl, hb1⟩
    have r0 := (hb1.cell (p := ⟨w.heap.size, 0, none⟩) (show w.heap.size < W.heap.size by omega)).trans q0
    have r1 := (hb1.cell (p := ⟨w.heap.size + 1, 0, none⟩) qz).trans q1
    have r2 := (hb1.cell (p := ⟨w.heap.size + 1, 1, none⟩) qz).trans q2
    have r3 := (hb1.cell (p := ⟨w.heap.size + 1, 2, none⟩) qz).trans q3
    have rz := Nat.lt_of_lt_of_le qz hb1.size
    have HW1 := Lib.hid (HW.out.trans (hb1.mono HW.out.size))
    clear q0 q1 q2 q3 qz hb1 HW
    by_cases hpr : prtE i ps = 0
    · obtain ⟨b1, b2⟩ := badPs_false' hpr
      have HR2 := Lib.hid (HR.out.trans ((if_neg (show ¬ 6 < ps.length by omega)).trans (if_neg (by rw [b2]; decide))))
      have HB2 := Lib.hid b2
      rw [hpr]
      clear hpr b2
      by_cases hz : ps.length = 0
      · have HR3 := Lib.hid (HR2.out.trans (if_pos hz))
        have d0 : ((ps.length : Int) == 0) = true := by rw [hz]; rfl
        rcases (by omega : kd = 5 ∨ kd = 6 ∨ kd = 7 ∨ kd < 5) with rfl | rfl | rfl | hk
        · have HR4 := Lib.hid (HR3.out.trans (if_pos (by decide)))
          clear hz
          go_wp2
          go_ret
          exact ⟨by rw [HR4.out]; rfl, HW1.out⟩
        · have HR4 := Lib.hid (HR3.out.trans (if_pos (by decide)))
          clear hz
          go_wp2
          go_ret
          exact ⟨by rw [HR4.out]; rfl, HW1.out⟩
        · have HR4 := Lib.hid (HR3.out.trans (if_pos (by decide)))
          clear hz
          go_wp2
          go_ret
          exact ⟨by rw [HR4.out]; rfl, HW1.out⟩
        · have HR4 := Lib.hid (HR3.out.trans (if_neg (by omega)))
          clear hz
          have e5 : (kd == 5) = false := by rw [beq_eq_false_iff_ne]; omega
          have e6 : (kd == 6) = false := by rw [beq_eq_false_iff_ne]; omega
          have e7 : (kd == 7) = false := by rw [beq_eq_false_iff_ne]; omega
          go_wp2
          go_ret
          exact ⟨by rw [HR4.out]; rfl, HW1.out⟩
      · have HR3 := Lib.hid (HR2.out.trans (if_neg hz))
        have d0 : ((ps.length : Int) == 0) = false := by rw [beq_eq_false_iff_ne]; omega
        have hall := badPs_false HB2.out
        have hcf := containsFuncP 101 #[.pointer (some ⟨w.heap.size, 0, none⟩)] (fun q => kindOf l q.1 == 0) enter_oil A' ps.length c' ps rfl (by omega) w1 (HP.out.below HW1.out) (oil_any w.heap.size l _ c ps w1 (HL.out.below HW1.out) r0 (by omega) (fun p hp => ⟨(hall p hp).1, by have := (hall p hp).2.1; omega⟩) hl)
        have hsm : SmallP ps := ⟨by omega, fun p hp => by have := hall p hp; omega⟩
        have hsb := sumP_bd (fun p hp => ⟨(hall p hp).2.2.1, (hall p hp).2.2.2⟩)
        have HCF := Lib.hid hcf
        have HSM := Lib.hid hsm
        obtain ⟨S, hS⟩ : ∃ S, S = sumP ps := ⟨_, rfl⟩
        rw [← hS] at HR3 hsb
        have HSS := Lib.hid hS
        obtain ⟨oi, hoi⟩ : ∃ oi, oi = oily l ps := ⟨_, rfl⟩
        rw [← hoi] at HR3
        have HO := Lib.hid hoi
        clear hz hall hcf hsm hS hoi
        go_wp2_with fail
        refine HCF.out.mono ?_
        rintro e w2 ⟨rfl, hb2⟩
        rw [show (ps.any fun q => kindOf l q.1 == 0) = oi from HO.out.symm]
        have s1 := (hb2.cell (p := ⟨w.heap.size + 1, 0, none⟩) rz).trans r1
        have s2 := (hb2.cell (p := ⟨w.heap.size + 1, 1, none⟩) rz).trans r2
        have s3 := (hb2.cell (p := ⟨w.heap.size + 1, 2, none⟩) rz).trans r3
        have sz := Nat.lt_of_lt_of_le rz hb2.size
        have HW2 := Lib.hid (HW1.out.trans (hb2.mono HW1.out.size))
        have HP2 := Lib.hid (HP.out.below HW2.out)
        have htk := fun x => takes_any ⟨kd, ms, ps⟩ A' c' (grow w2 x) (HP2.out.below (below_grow w2 x)) HSM.out
        simp only [← HSS.out] at htk
        have HTK := Lib.hid htk
        clear r0 r1 r2 r3 rz hb2 HW1 htk
        by_cases hms : S < ms
        · have dm : decide (S < ms) = true := decide_eq_true hms
          by_cases h5 : kd = 5
          · subst h5
            cases oi with
            | true =>
              have HR4 := Lib.hid (HR3.out.trans (if_neg (by simp)))
              clear hms
              go_wp2
              refine region_grow (by kernel_rfl) (by kernel_rfl) ?_
              repeat (go_big_quiet_step ((go_at_call 96; exact grow_call (HTK.out _))))
              refine wpQuiet_nil ?_
              rintro w3 ⟨xg, hxg⟩
              have hb3 := below_grow w2 xg
              rw [← hxg] at hb3
              clear hxg xg
              have HW3 := Lib.hid (HW2.out.trans (hb3.mono HW2.out.size))
              clear hb3
              go_wp2
              go_ret
              exact ⟨by rw [HR4.out]; rfl, HW3.out⟩
            | false =>
              have HR4 := Lib.hid (HR3.out.trans (if_pos ⟨hms, by simp⟩))
              clear hms
              go_wp2
              refine region_grow (by kernel_rfl) (by kernel_rfl) ?_
              repeat (go_big_quiet_step ((go_at_call 96; exact grow_call (HTK.out _))))
              refine wpQuiet_nil ?_
              rintro w3 ⟨xg, hxg⟩
              have hb3 := below_grow w2 xg
              rw [← hxg] at hb3
              clear hxg xg
              have HW3 := Lib.hid (HW2.out.trans (hb3.mono HW2.out.size))
              clear hb3
              go_wp2
              go_ret
              exact ⟨by rw [HR4.out]; rfl, HW3.out⟩
          · have HR4 := Lib.hid (HR3.out.trans (if_pos ⟨hms, fun h => h5 h.1⟩))
            have e5 : (kd == 5) = false := by rw [beq_eq_false_iff_ne]; exact h5
            have e6 : (kd != 5) = true := by rw [bne_iff_ne]; exact h5
            clear hms h5
            go_wp2
            refine region_grow (by kernel_rfl) (by kernel_rfl) ?_
            repeat (go_big_quiet_step ((go_at_call 96; exact grow_call (HTK.out _))))
            refine wpQuiet_nil ?_
            rintro w3 ⟨xg, hxg⟩
            have hb3 := below_grow w2 xg
            rw [← hxg] at hb3
            clear hxg xg
            have HW3 := Lib.hid (HW2.out.trans (hb3.mono HW2.out.size))
            clear hb3
            go_wp2
            go_ret
            exact ⟨by rw [HR4.out]; rfl, HW3.out⟩
        · have dm : decide (S < ms) = false := decide_eq_false hms
          have HR4 := Lib.hid (HR3.out.trans (if_neg (fun h => hms h.1)))
          clear hms
          go_wp2
          refine region_grow (by kernel_rfl) (by kernel_rfl) ?_
          repeat (go_big_quiet_step ((go_at_call 96; exact grow_call (HTK.out _))))
          refine wpQuiet_nil ?_
          rintro w3 ⟨xg, hxg⟩
          have hb3 := below_grow w2 xg
          rw [← hxg] at hb3
          clear hxg xg
          have HW3 := Lib.hid (HW2.out.trans (hb3.mono HW2.out.size))
          clear hb3
          go_wp2
          go_ret
          exact ⟨by rw [HR4.out]; rfl, HW3.out⟩
    · have HR2 := Lib.hid (show lotE l i ⟨kd, ms, ps⟩ = prtE i ps by
        rw [HR.out]
        unfold prtE at hpr ⊢
        split
        · rfl
        · split
          · rfl
          · rename_i g1 g2; exact absurd (by rw [if_neg g1, if_neg g2]) hpr)
      obtain ⟨z, hz⟩ : ∃ z, z = prtE i ps := ⟨_, rfl⟩
      rw [← hz] at hpr HR2 ⊢
      have d0 : (z == 0) = false := by rw [beq_eq_false_iff_ne]; exact hpr
      have d1 : (z != 0) = true := by rw [bne_iff_ne]; exact hpr
      clear hz hpr
      go_wp2
      go_ret
      exact ⟨by rw [HR2.out]; rfl, HW1.out⟩
end Go.Proofs.Ytdgmpaijpjkeoaa
