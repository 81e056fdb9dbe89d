/-
  Validate, check.
-/
import Derived.Test.YtdgmpaijpjkeoaaLotE
namespace Go.Proofs.Ytdgmpaijpjkeoaa
open Go.RowKit
theorem enter_neg (args : Array Value) (w : World) : (callFunc 75 args).run Try.prog w = .ok (.enter 75 args) w :=
  enter_of Try.func75 (by kernel_rfl) (by kernel_rfl) args w
theorem neg_any (xs : List Int) (w : World) : PredI 75 #[] (fun x => decide (x < 0)) w xs := by
  intro W x hb _ h1
  obtain ⟨h1, h2⟩ := h1
  show Calls Try.prog 75 #[.int .i64 x] W _
  go_enter Try.func75, Try.ntmps75
  go_wp2
  go_ret
  exact ⟨rfl, (by repeat' (first | (with_reducible exact Below.refl _ _) | (with_reducible assumption) | (with_reducible refine below_drewN ?_ _) | (with_reducible refine below_step (by assumption) ?_ ?_) | (with_reducible refine Below.alloc ?_ ?_ _) | (with_reducible refine Below.setCell ?_ ?_ _) | (with_reducible refine Below.drew ?_) | go_size | (exact Below.size (by assumption)) | (refine Nat.le_trans (Below.size (by assumption)) ?_)))⟩
theorem short_rest (l : List LotD) : ((restL l).any fun x => decide (x < 0)) = shortL l := by
  unfold restL shortL
  rw [List.any_map]; rfl
theorem rest_64 {l : List LotD} (hl : l.length ≤ 1000) (hg : GoodAll l) : ∀ x ∈ restL l, I64 x := by
  intro x hx
  unfold restL at hx
  obtain ⟨j, hj, rfl⟩ := List.mem_map.1 hx
  have hj : j < l.length := by simpa using hj
  have h1 := massOf_bd hg hj
  have h2 := takenL_bd (l := l) (j := j) (fun x hx => hg.mem hx)
  have e : leftL l j = massOf l j - takenL j l := rfl
  unfold I64
  rw [e]; omega
theorem lots_step {l : List LotD} {k : Nat} (hk : k < l.length) : lotsE l k (l.drop k) = if lotE l k l[k] = 0 then lotsE l (k + 1) (l.drop (k + 1)) else lotE l k l[k] := by
  rw [List.drop_eq_getElem_cons hk, lotsE]
theorem good_of_lots {l : List LotD} (h : lotsE l 0 l = 0) : GoodAll l := fun k hk => by
  have := lotsE_zero (l := l) (r := l) (i := 0) h k hk
  rwa [Nat.zero_add] at this
set_option maxRecDepth 100000 in
set_option maxHeartbeats 1000000 in
theorem validate_any (l : List LotD) (hl : l.length ≤ 1000) (hps : ∀ x ∈ l, x.parts.length ≤ 1000) (A : Option Addr) (c : Nat) (w : World) (hL : LotsIn w A l) :
    Calls Try.prog 32 #[.slice A l.length c] w fun e w' => e = .returned (.int .i64 (valE l)) ∧ Below w.heap.size w w' := by
  have HL := Lib.hid hL
  have HPS := Lib.hid hps
  clear hL hps
  by_cases h0 : 24 < l.length
  · have HR := Lib.hid (show valE l = 4 by rw [valE, if_pos h0])
    go_enter Try.func32, Try.ntmps32
    go_wp2
    go_ret
    exact ⟨by rw [HR.out]; rfl, Below.refl _ _⟩
  · have HR := Lib.hid (show valE l = if lotsE l 0 l ≠ 0 then lotsE l 0 l else if shortL l = true then 6 else 0 by rw [valE, if_neg h0])
    have d0 : decide ((24 : Int) < (l.length : Int)) = false := decide_eq_false (by omega)
    go_enter Try.func32, Try.ntmps32
    go_wp2
    go_loopw [10] (fun t wr => ∃ k : Nat, t = .int .i64 k ∧ k ≤ l.length ∧ Hid (lotsE l k (l.drop k) = lotsE l 0 l ∧ Below w.heap.size w wr)) (fun t _ => l.length - (intOf t).toNat)
    case atStart => exact ⟨0, rfl, by omega, Lib.hid ⟨by simp, Below.refl _ _⟩⟩
    case round =>
      obtain ⟨k, rfl, hk, hr⟩ := hrel
      by_cases hlt : k < l.length
      · have hst := lots_step hlt
        rw [hr.out.1] at hst
        have hcall := lotError_any l k hlt hl A c wr (HL.out.below hr.out.2) (HPS.out _ (List.getElem_mem hlt))
        obtain ⟨z, hz⟩ : ∃ z, z = lotE l k l[k] := ⟨_, rfl⟩
        rw [← hz] at hst hcall
        have HST := Lib.hid hst
        have HC := Lib.hid hcall
        clear hst hcall hz
        go_wp2_with fail
        refine HC.out.mono ?_
        rintro e w1 ⟨rfl, hb1⟩
        have H1 := Lib.hid (hr.out.2.trans (hb1.mono hr.out.2.size))
        clear hr hb1
        by_cases hz : z = 0
        · subst hz
          have H2 := Lib.hid (HST.out.trans (if_pos rfl))
          go_wp2
          go_roundw
          case rel => exact ⟨k + 1, by go_num, by omega, Lib.hid ⟨H2.out.symm, H1.out⟩⟩
          case measure => simp [intOf]; omega
        · have H2 := Lib.hid (HST.out.trans (if_neg hz))
          have H3 := Lib.hid (HR.out.trans (if_pos (by rw [H2.out]; exact hz)))
          have d1 : (z == 0) = false := by rw [beq_eq_false_iff_ne]; exact hz
          have d2 : (z != 0) = true := by rw [bne_iff_ne]; exact hz
          clear hz
          go_wp2
          go_ret
          exact ⟨by rw [H3.out, H2.out]; rfl, H1.out⟩
      · obtain rfl : k = l.length := by omega
        have H2 := Lib.hid (show lotsE l 0 l = 0 by rw [← hr.out.1, List.drop_length]; rfl)
        have H3 := Lib.hid (HR.out.trans (if_neg (by rw [H2.out]; decide)))
        have H1 := Lib.hid hr.out.2
        have hgd := good_of_lots H2.out
        have hrest := rest_any l hl hgd A c wr (HL.out.below H1.out)
        have h64 := rest_64 hl hgd
        have HG := Lib.hid hgd
        have HC := Lib.hid hrest
        have H64 := Lib.hid h64
        clear hr hgd hrest h64
        go_wp2_with fail
        refine HC.out.mono ?_
        rintro e w1 ⟨rfl, hrow, hb1⟩
        have HI := Lib.hid hrow.isL
        have B1 := Lib.hid (H1.out.trans (hb1.mono H1.out.size))
        have hrl : (restL l).length = l.length := by simp [restL]
        have hcf := containsFuncI 75 #[] (fun x => decide (x < 0)) enter_neg (some ⟨wr.heap.size, 0, none⟩) (restL l).length l.length (restL l) (by omega) w1 HI.out H64.out (neg_any _ _)
        rw [short_rest] at hcf
        rw [hrl] at hcf
        have HCF := Lib.hid hcf
        clear hrow hb1 hcf hrl
        cases hsh : shortL l with
        | true =>
          have H4 := Lib.hid (H3.out.trans (if_pos hsh))
          rw [hsh] at HCF
          clear hsh
          go_wp2_with fail
          refine HCF.out.mono ?_
          rintro e w2 ⟨rfl, hb2⟩
          go_wp2
          go_ret
          exact ⟨by rw [H4.out]; rfl, B1.out.trans (hb2.mono B1.out.size)⟩
        | false =>
          have H4 := Lib.hid (H3.out.trans (if_neg (by rw [hsh]; decide)))
          rw [hsh] at HCF
          clear hsh
          go_wp2_with fail
          refine HCF.out.mono ?_
          rintro e w2 ⟨rfl, hb2⟩
          go_wp2
          go_ret
          exact ⟨by rw [H4.out]; rfl, B1.out.trans (hb2.mono B1.out.size)⟩
/-- The errors of a genealogy and of numbers of lots. -/
def inL (l : List LotD) (x : Int) : Bool := decide (0 ≤ x) && decide (x < l.length)
def chkE (l : List LotD) (xs : List Int) : Int := if valE l ≠ 0 then valE l else if xs.all (inL l) = true then 0 else 5
theorem all_step {xs : List Int} {k : Nat} (p : Int → Bool) (hk : k < xs.length) : (xs.drop k).all p = (p (xs.getD k 0) && (xs.drop (k + 1)).all p) := by
  rw [List.drop_eq_getElem_cons hk, List.all_cons, getD_at hk]
set_option maxRecDepth 100000 in
set_option maxHeartbeats 1000000 in
theorem check_any (l : List LotD) (hl : l.length ≤ 1000) (hps : ∀ x ∈ l, x.parts.length ≤ 1000) (A : Option Addr) (c : Nat) (B : Option Addr) (n c2 : Nat) (xs : List Int) (w : World) (hL : LotsIn w A l) (hX : IsL w B n xs) (hn : n ≤ 1000) (h64 : ∀ x ∈ xs, I64 x) :
    Calls Try.prog 56 #[.slice A l.length c, .slice B n c2] w fun e w' => e = .returned (.int .i64 (chkE l xs)) ∧ Below w.heap.size w w' := by
  have hval := validate_any l hl hps A c w hL
  obtain rfl := hX.1
  have HX := Lib.hid hX
  have H64 := Lib.hid h64
  obtain ⟨z, hz⟩ : ∃ z, z = valE l := ⟨_, rfl⟩
  have hch : chkE l xs = if z ≠ 0 then z else if xs.all (inL l) = true then 0 else 5 := by rw [chkE, hz]
  have HCH := Lib.hid hch
  rw [← hz] at hval
  have HV := Lib.hid hval
  clear hval hX h64 hL hps hz hch
  go_enter Try.func56, Try.ntmps56
  go_wp2_with fail
  refine HV.out.mono ?_
  rintro e w1 ⟨rfl, hb1⟩
  have H1 := Lib.hid hb1
  clear hb1
  by_cases hz : z = 0
  · subst hz
    have H2 := Lib.hid (HCH.out.trans (if_neg (by decide)))
    go_wp2
    go_loopw [15] (fun t wr => ∃ k : Nat, t = .int .i64 k ∧ k ≤ xs.length ∧ Hid ((xs.drop k).all (inL l) = xs.all (inL l) ∧ wr = w1)) (fun t _ => xs.length - (intOf t).toNat)
    case atStart => exact ⟨0, rfl, by omega, Lib.hid ⟨by simp, rfl⟩⟩
    case round =>
      obtain ⟨k, rfl, hk, hr⟩ := hrel
      have hwr := hr.out.2
      subst hwr
      by_cases hlt : k < xs.length
      · obtain ⟨b, o, rfl, hb, hc⟩ := (HX.out.below H1.out).2 (by omega)
        have q0 := hc k hlt
        have h64 := H64.out _ (getD_mem hlt)
        have hst := all_step (inL l) hlt
        rw [hr.out.1] at hst
        obtain ⟨x, hx⟩ : ∃ x, x = xs.getD k 0 := ⟨_, rfl⟩
        rw [← hx] at q0 h64 hst
        have HST := Lib.hid hst
        clear hc hst hx hr
        by_cases c1 : x < 0
        · have H3 := Lib.hid (H2.out.trans (if_neg (by rw [HST.out]; simp [inL]; omega)))
          go_wp2
          go_ret
          exact ⟨by rw [H3.out]; rfl, H1.out⟩
        · by_cases c2 : (l.length : Int) ≤ x
          · have H3 := Lib.hid (H2.out.trans (if_neg (by rw [HST.out]; simp [inL]; omega)))
            have d1 : decide ((l.length : Int) ≤ x) = true := decide_eq_true c2
            go_wp2
            go_ret
            exact ⟨by rw [H3.out]; rfl, H1.out⟩
          · have H3 := Lib.hid (show xs.all (inL l) = (xs.drop (k + 1)).all (inL l) by rw [HST.out]; simp [inL]; omega)
            have d1 : decide ((l.length : Int) ≤ x) = false := decide_eq_false c2
            go_wp2
            go_roundw
            case rel => exact ⟨k + 1, by go_num, by omega, Lib.hid ⟨H3.out.symm, trivial⟩⟩
            case measure => simp [intOf]; omega
      · obtain rfl : k = xs.length := by omega
        have H3 := Lib.hid (H2.out.trans (if_pos (by rw [← hr.out.1, List.drop_length]; rfl)))
        go_wp2
        go_ret
        exact ⟨by rw [H3.out]; rfl, H1.out⟩
  · have H2 := Lib.hid (HCH.out.trans (if_pos hz))
    have d1 : (z == 0) = false := by rw [beq_eq_false_iff_ne]; exact hz
    have d2 : (z != 0) = true := by rw [bne_iff_ne]; exact hz
    clear hz
    go_wp2
    go_ret
    exact ⟨by rw [H2.out]; rfl, H1.out⟩
end Go.Proofs.Ytdgmpaijpjkeoaa
