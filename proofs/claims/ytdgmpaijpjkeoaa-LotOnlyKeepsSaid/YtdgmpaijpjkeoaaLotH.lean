/-
  Validate, check.
-/
import Derived.Test.YtdgmpaijpjkeoaaLotE
import Derived.Test.YtdgmpaijpjkeoaaNat
import Derived.Maps.OwnSet
namespace Go.Proofs.Ytdgmpaijpjkeoaa
open Go.RowKit
theorem enter_neg (args : Array Value) (w : World) : (callFunc 75 args).run Try.prog w = .ok (.enter 75 args) w :=
  enter_of Try.func75 (by kernel_rfl) (by kernel_rfl) args w
theorem neg_any (xs : List Int) (w : World) : PredI 75 #[] (fun x => decide (x < 0)) w xs := by
  intro W x hb _ h1
  obtain ⟨h1, h2⟩ := h1
  show Calls Try.prog 75 #[.int .i64 x] W _
  go_enter Try.func75, Try.ntmps75
  go_wp2
  go_ret
  exact ⟨rfl, (by repeat' (first | (with_reducible exact Below.refl _ _) | (with_reducible assumption) | (with_reducible refine below_drewN ?_ _) | (with_reducible refine below_step (by assumption) ?_ ?_) | (with_reducible refine Below.alloc ?_ ?_ _) | (with_reducible refine Below.setCell ?_ ?_ _) | (with_reducible refine Below.drew ?_) | go_size | (exact Below.size (by assumption)) | (refine Nat.le_trans (Below.size (by assumption)) ?_)))⟩
theorem short_rest (l : List LotD) : ((restL l).any fun x => decide (x < 0)) = shortL l := by
  unfold restL shortL
  rw [List.any_map]; rfl
theorem rest_64 {l : List LotD} (hl : l.length ≤ 1000) (hg : GoodAll l) : ∀ x ∈ restL l, I64 x := by
  intro x hx
  unfold restL at hx
  obtain ⟨j, hj, rfl⟩ := List.mem_map.1 hx
  have hj : j < l.length := by simpa using hj
  have h1 := massOf_bd hg hj
  have h2 := takenL_bd (l := l) (j := j) (fun x hx => hg.mem hx)
  have e : leftL l j = massOf l j - takenL j l := rfl
  unfold I64
  rw [e]; omega
theorem lots_step {l : List LotD} {k : Nat} (hk : k < l.length) : lotsE l k (l.drop k) = if lotE l k l[k] = 0 then lotsE l (k + 1) (l.drop (k + 1)) else lotE l k l[k] := by
  rw [List.drop_eq_getElem_cons hk, lotsE]
theorem good_of_lots {l : List LotD} (h : lotsE l 0 l = 0) : GoodAll l := fun k hk => by
  have := lotsE_zero (l := l) (r := l) (i := 0) h k hk
  rwa [Nat.zero_add] at this
set_option maxRecDepth 100000 in
set_option maxHeartbeats 1000000 in
theorem validate_any (l : List LotD) (hl : l.length ≤ 1000) (hps : ∀ x ∈ l, x.parts.length ≤ 1000) (A : Option Addr) (c : Nat) (w : World) (hL : LotsIn w A l) :
    Calls Try.prog 32 #[.slice A l.length c] w fun e w' => e = .returned (.int .i64 (valE l)) ∧ Below w.heap.size w w' := by
  have HL := Lib.hid hL
  have HPS := Lib.hid hps
  clear hL hps
  by_cases h0 : 24 < l.length
  · have HR := Lib.hid (show valE l = 4 by rw [valE, if_pos h0])
    go_enter Try.func32, Try.ntmps32
    go_wp2
    go_ret
    exact ⟨by rw [HR.out]; rfl, Below.refl _ _⟩
  · have HR := Lib.hid (show valE l = if lotsE l 0 l ≠ 0 then lotsE l 0 l else if shortL l = true then 6 else 0 by rw [valE, if_neg h0])
    have d0 : decide ((24 : Int) < (l.length : Int)) = false := decide_eq_false (by omega)
    go_enter Try.func32, Try.ntmps32
    go_wp2
    go_loopw [10] (fun t wr => ∃ k : Nat, t = .int .i64 k ∧ k ≤ l.length ∧ Hid (lotsE l k (l.drop k) = lotsE l 0 l ∧ Below w.heap.size w wr)) (fun t _ => l.length - (intOf t).toNat)
    case atStart => exact ⟨0, rfl, by omega, Lib.hid ⟨by simp, Below.refl _ _⟩⟩
    case round =>
      obtain ⟨k, rfl, hk, hr⟩ := hrel
      by_cases hlt : k < l.length
      · have hst := lots_step hlt
        rw [hr.out.1] at hst
        have hcall := lotError_any l k hlt hl A c wr (HL.out.below hr.out.2) (HPS.out _ (List.getElem_mem hlt))
        obtain ⟨z, hz⟩ : ∃ z, z = lotE l k l[k] := ⟨_, rfl⟩
        rw [← hz] at hst hcall
        have HST := Lib.hid hst
        have HC := Lib.hid hcall
        clear hst hcall hz
        go_wp2_with fail
        refine HC.out.mono ?_
        rintro e w1 ⟨rfl, hb1⟩
        have H1 := Lib.hid (hr.out.2.trans (hb1.mono hr.out.2.size))
        clear hr hb1
        by_cases hz : z = 0
        · subst hz
          have H2 := Lib.hid (HST.out.trans (if_pos rfl))
          go_wp2
          go_roundw
          case rel => exact ⟨k + 1, by go_num, by omega, Lib.hid ⟨H2.out.symm, H1.out⟩⟩
          case measure => simp [intOf]; omega
        · have H2 := Lib.hid (HST.out.trans (if_neg hz))
          have H3 := Lib.hid (HR.out.trans (if_pos (by rw [H2.out]; exact hz)))
          have d1 : (z == 0) = false := by rw [beq_eq_false_iff_ne]; exact hz
          have d2 : (z != 0) = true := by rw [bne_iff_ne]; exact hz
          clear hz
          go_wp2
          go_ret
          exact ⟨by rw [H3.out, H2.out]; rfl, H1.out⟩
      · obtain rfl : k = l.length := by omega
        have H2 := Lib.hid (show lotsE l 0 l = 0 by rw [← hr.out.1, List.drop_length]; rfl)
        have H3 := Lib.hid (HR.out.trans (if_neg (by rw [H2.out]; decide)))
        have H1 := Lib.hid hr.out.2
        have hgd := good_of_lots H2.out
        have hrest := rest_any l hl hgd A c wr (HL.out.below H1.out)
        have h64 := rest_64 hl hgd
        have HG := Lib.hid hgd
        have HC := Lib.hid hrest
        have H64 := Lib.hid h64
        clear hr hgd hrest h64
        go_wp2_with fail
        refine HC.out.mono ?_
        rintro e w1 ⟨rfl, hrow, hb1⟩
        have HI := Lib.hid hrow.isL
        have B1 := Lib.hid (H1.out.trans (hb1.mono H1.out.size))
        have hrl : (restL l).length = l.length := by simp [restL]
        have hcf := containsFuncI 75 #[] (fun x => decide (x < 0)) enter_neg (some ⟨wr.heap.size, 0, none⟩) (restL l).length l.length (restL l) (by omega) w1 HI.out H64.out (neg_any _ _)
        rw [short_rest] at hcf
        rw [hrl] at hcf
        have HCF := Lib.hid hcf
        clear hrow hb1 hcf hrl
        cases hsh : shortL l with
        | true =>
          have H4 := Lib.hid (H3.out.trans (if_pos hsh))
          rw [hsh] at HCF
          clear hsh
          go_wp2_with fail
          refine HCF.out.mono ?_
          rintro e w2 ⟨rfl, hb2⟩
          go_wp2
          go_ret
          exact ⟨by rw [H4.out]; rfl, B1.out.trans (hb2.mono B1.out.size)⟩
        | false =>
          have H4 := Lib.hid (H3.out.trans (if_neg (by rw [hsh]; decide)))
          rw [hsh] at HCF
          clear hsh
          go_wp2_with fail
          refine HCF.out.mono ?_
          rintro e w2 ⟨rfl, hb2⟩
          go_wp2
          go_ret
          exact ⟨by rw [H4.out]; rfl, B1.out.trans (hb2.mono B1.out.size)⟩
/-- The errors of a genealogy and of numbers of lots. -/
def inL (l : List LotD) (x : Int) : Bool := decide (0 ≤ x) && decide (x < l.length)
def chkE (l : List LotD) (xs : List Int) : Int := if valE l ≠ 0 then valE l else if xs.all (inL l) = true then 0 else 5
theorem all_step {xs : List Int} {k : Nat} (p : Int → Bool) (hk : k < xs.length) : (xs.drop k).all p = (p (xs.getD k 0) && (xs.drop (k + 1)).all p) := by
  rw [List.drop_eq_getElem_cons hk, List.all_cons, getD_at hk]
set_option maxRecDepth 100000 in
set_option maxHeartbeats 1000000 in
theorem check_any (l : List LotD) (hl : l.length ≤ 1000) (hps : ∀ x ∈ l, x.parts.length ≤ 1000) (A : Option Addr) (c : Nat) (B : Option Addr) (n c2 : Nat) (xs : List Int) (w : World) (hL : LotsIn w A l) (hX : IsL w B n xs) (hn : n ≤ 1000) (h64 : ∀ x ∈ xs, I64 x) :
    Calls Try.prog 56 #[.slice A l.length c, .slice B n c2] w fun e w' => e = .returned (.int .i64 (chkE l xs)) ∧ Below w.heap.size w w' := by
  have hval := validate_any l hl hps A c w hL
  obtain rfl := hX.1
  have HX := Lib.hid hX
  have H64 := Lib.hid h64
  obtain ⟨z, hz⟩ : ∃ z, z = valE l := ⟨_, rfl⟩
  have hch : chkE l xs = if z ≠ 0 then z else if xs.all (inL l) = true then 0 else 5 := by rw [chkE, hz]
  have HCH := Lib.hid hch
  rw [← hz] at hval
  have HV := Lib.hid hval
  clear hval hX h64 hL hps hz hch
  go_enter Try.func56, Try.ntmps56
  go_wp2_with fail
  refine HV.out.mono ?_
  rintro e w1 ⟨rfl, hb1⟩
  have H1 := Lib.hid hb1
  clear hb1
  by_cases hz : z = 0
  · subst hz
    have H2 := Lib.hid (HCH.out.trans (if_neg (by decide)))
    go_wp2
    go_loopw [15] (fun t wr => ∃ k : Nat, t = .int .i64 k ∧ k ≤ xs.length ∧ Hid ((xs.drop k).all (inL l) = xs.all (inL l) ∧ wr = w1)) (fun t _ => xs.length - (intOf t).toNat)
    case atStart => exact ⟨0, rfl, by omega, Lib.hid ⟨by simp, rfl⟩⟩
    case round =>
      obtain ⟨k, rfl, hk, hr⟩ := hrel
      have hwr := hr.out.2
      subst hwr
      by_cases hlt : k < xs.length
      · obtain ⟨b, o, rfl, hb, hc⟩ := (HX.out.below H1.out).2 (by omega)
        have q0 := hc k hlt
        have h64 := H64.out _ (getD_mem hlt)
        have hst := all_step (inL l) hlt
        rw [hr.out.1] at hst
        obtain ⟨x, hx⟩ : ∃ x, x = xs.getD k 0 := ⟨_, rfl⟩
        rw [← hx] at q0 h64 hst
        have HST := Lib.hid hst
        clear hc hst hx hr
        by_cases c1 : x < 0
        · have H3 := Lib.hid (H2.out.trans (if_neg (by rw [HST.out]; simp [inL]; omega)))
          go_wp2
          go_ret
          exact ⟨by rw [H3.out]; rfl, H1.out⟩
        · by_cases c2 : (l.length : Int) ≤ x
          · have H3 := Lib.hid (H2.out.trans (if_neg (by rw [HST.out]; simp [inL]; omega)))
            have d1 : decide ((l.length : Int) ≤ x) = true := decide_eq_true c2
            go_wp2
            go_ret
            exact ⟨by rw [H3.out]; rfl, H1.out⟩
          · have H3 := Lib.hid (show xs.all (inL l) = (xs.drop (k + 1)).all (inL l) by rw [HST.out]; simp [inL]; omega)
            have d1 : decide ((l.length : Int) ≤ x) = false := decide_eq_false c2
            go_wp2
            go_roundw
            case rel => exact ⟨k + 1, by go_num, by omega, Lib.hid ⟨H3.out.symm, trivial⟩⟩
            case measure => simp [intOf]; omega
      · obtain rfl : k = xs.length := by omega
        have H3 := Lib.hid (H2.out.trans (if_pos (by rw [← hr.out.1, List.drop_length]; rfl)))
        go_wp2
        go_ret
        exact ⟨by rw [H3.out]; rfl, H1.out⟩
  · have H2 := Lib.hid (HCH.out.trans (if_pos hz))
    have d1 : (z == 0) = false := by rw [beq_eq_false_iff_ne]; exact hz
    have d2 : (z != 0) = true := by rw [bne_iff_ne]; exact hz
    clear hz
    go_wp2
    go_ret
    exact ⟨by rw [H2.out]; rfl, H1.out⟩
end Go.Proofs.Ytdgmpaijpjkeoaa
/-
  shares: what it lies like in memory; scale, whole.
-/
namespace Go.Proofs.Ytdgmpaijpjkeoaa
open Go.RowKit
/-- What a lot takes; 1 where it takes nothing. -/
def tN (l : List LotD) (i : Nat) : Nat := if sumP (l.getD i default).parts = 0 then 1 else (sumP (l.getD i default).parts).toNat
def psN (l : List LotD) (i : Nat) : List (Nat × Nat) := (l.getD i default).parts.map fun p => (p.1.toNat, p.2.toNat)
theorem getD_out {l : List LotD} {k : Nat} (hk : l.length ≤ k) : l.getD k default = default := by rw [List.getD_eq_getElem?_getD, List.getElem?_eq_none hk]; rfl
theorem def_parts : (default : LotD).parts = [] := rfl
section
variable {l : List LotD} (hg : GoodAll l)
include hg
theorem part_good {i : Nat} {p : Int × Int} (hp : p ∈ (l.getD i default).parts) : 0 ≤ p.1 ∧ p.1 < i ∧ 1 ≤ p.2 ∧ p.2 ≤ 100000 := by
  by_cases h : i < l.length
  · rw [getD_at' h] at hp
    exact (hg i h).part p hp
  · rw [getD_out (by omega), def_parts] at hp
    cases hp
theorem plen_good (i : Nat) : (l.getD i default).parts.length ≤ 6 := by
  by_cases h : i < l.length
  · rw [getD_at' h]; exact (hg i h).plen
  · rw [getD_out (by omega), def_parts]; simp
theorem sum_good (i : Nat) : 0 ≤ sumP (l.getD i default).parts ∧ sumP (l.getD i default).parts ≤ 600000 := by
  have h1 := sumP_bd (fun p hp => (part_good hg (i := i) hp).2.2)
  have h2 := plen_good hg i
  omega
theorem tN_pos (i : Nat) : 0 < tN l i := by
  have h := sum_good hg i
  unfold tN
  split <;> omega
theorem tN_le (i : Nat) : tN l i ≤ 600000 := by
  have h := sum_good hg i
  unfold tN
  split <;> omega
theorem psN_lt (i : Nat) : ∀ p ∈ psN l i, p.1 < i := by
  intro p hp
  obtain ⟨q, hq, rfl⟩ := List.mem_map.1 hp
  have := part_good hg hq
  show q.1.toNat < i
  omega
theorem psN_sum (i : Nat) : ((psN l i).map (·.2)).sum ≤ tN l i := by
  have e : ((((psN l i).map (·.2)).sum : Nat) : Int) = sumP (l.getD i default).parts := by
    have hall := fun p hp => part_good hg (i := i) (p := p) hp
    unfold psN sumP
    generalize (l.getD i default).parts = ps at hall
    induction ps with
    | nil => rfl
    | cons p r ih =>
      have h1 := hall p (by simp)
      have h2 := ih (fun q hq => hall q (by simp [hq]))
      simp only [List.map_cons, List.sum_cons]
      omega
  have h := sum_good hg i
  unfold tN
  split <;> omega
end
theorem pr_big {l : List LotD} (hg : GoodAll l) (hl : l.length ≤ 24) {a b : Nat} (hb : b ≤ l.length) : Pr (tN l) a b ≤ 600000 ^ 24 :=
  Nat.le_trans (Pr_le (tN_le hg) a b) (Nat.pow_le_pow_right (by decide) (by omega))
theorem big_lt : 600000 ^ 24 < 4294967296 ^ 20 := by decide +kernel
/-- The block sb holds shares: the genealogy, the lot of, the map mb. -/
structure ShIn (w0 w : World) (sb mb : Nat) (l : List LotD) (A : Option Addr) (c : Nat) (of : Nat) : Prop where
  c0 : w.cell? ⟨sb, 0, none⟩ = some (.slice A l.length c)
  c1 : w.cell? ⟨sb, 1, none⟩ = some (.int .i64 of)
  c2 : w.cell? ⟨sb, 2, none⟩ = some (.map (some mb))
  s1 : sb < w.heap.size
  s2 : w0.heap.size ≤ sb
  s3 : w0.heap.size ≤ mb
  ne : sb ≠ mb
  lots : LotsIn w0 A l
  b : Below w0.heap.size w0 w
theorem ShIn.keep {w0 w w' : World} {sb mb : Nat} {l : List LotD} {A : Option Addr} {c of : Nat} (h : ShIn w0 w sb mb l A c of) (hb : Below w.heap.size w w') : ShIn w0 w' sb mb l A c of :=
  ⟨(hb.cell (p := ⟨sb, 0, none⟩) h.s1).trans h.c0, (hb.cell (p := ⟨sb, 1, none⟩) h.s1).trans h.c1, (hb.cell (p := ⟨sb, 2, none⟩) h.s1).trans h.c2, Nat.lt_of_lt_of_le h.s1 hb.size, h.s2, h.s3, h.ne, h.lots, h.b.trans (hb.mono h.b.size)⟩
theorem ShIn.grown {w0 w w' : World} {sb mb b : Nat} {l : List LotD} {A : Option Addr} {c of : Nat} (h : ShIn w0 w sb mb l A c of) (hg : w.grownBy w' (some b)) (h1 : sb ≠ b) (h2 : w0.heap.size ≤ b) : ShIn w0 w' sb mb l A c of :=
  ⟨hg.cell h.c0 (by simpa using h1), hg.cell h.c1 (by simpa using h1), hg.cell h.c2 (by simpa using h1), Nat.lt_of_lt_of_le h.s1 hg.size, h.s2, h.s3, h.ne, h.lots, below_grown h.b hg h2 h.b.size⟩
set_option maxRecDepth 100000 in
set_option maxHeartbeats 1000000 in
theorem scale_any (l : List LotD) (hl : l.length ≤ 24) (hg : GoodAll l) (A : Option Addr) (c sb mb of a i j : Nat) (hij : i ≤ j) (hj : j ≤ l.length) (w0 w : World) (hS : ShIn w0 w sb mb l A c of) :
    Calls Try.prog 87 #[.pointer (some ⟨sb, 0, none⟩), natV a, .int .i64 i, .int .i64 j] w fun e w' => e = .returned (natV (a * Pr (tN l) i j)) ∧ Below w.heap.size w w' := by
  have HS := Lib.hid hS
  have HG := Lib.hid hg
  clear hS hg
  unfold natV
  obtain ⟨cc, hc⟩ : ∃ c, c = natC a := ⟨_, rfl⟩
  rw [← hc]
  have HC := Lib.hid hc
  clear hc
  go_enter Try.func87, Try.ntmps87
  go_wp2
  rw [natZ, HC.out]
  obtain ⟨W, hW⟩ : ∃ W, W = (w.alloc (.cells (natC a) 77)).alloc (.cells (natC 0) 77) := ⟨_, rfl⟩
  rw [← hW]
  have h0 : Hid (NatB W w.heap.size a ∧ NatB W (w.heap.size + 1) 0 ∧ Below w.heap.size w W) := by rw [hW]; exact ⟨hp1 _ _ _, hp11 _ _ _, (by repeat' (first | (with_reducible exact Below.refl _ _) | (with_reducible assumption) | (with_reducible refine below_drewN ?_ _) | (with_reducible refine below_step (by assumption) ?_ ?_) | (with_reducible refine Below.alloc ?_ ?_ _) | (with_reducible refine Below.setCell ?_ ?_ _) | (with_reducible refine Below.drew ?_) | go_size | (exact Below.size (by assumption)) | (refine Nat.le_trans (Below.size (by assumption)) ?_)))⟩
  clear hW
  go_loopw [9] (fun t wr => ∃ k : Nat, t = .int .i64 k ∧ i ≤ k ∧ k ≤ j ∧ Hid (NatB wr w.heap.size (a * Pr (tN l) i k) ∧ NatB wr (w.heap.size + 1) 0 ∧ Below w.heap.size w wr)) (fun t _ => j - (intOf t).toNat)
  case atStart => exact ⟨i, rfl, Nat.le_refl _, hij, by rw [Pr_self, Nat.mul_one]; exact h0⟩
  case round =>
    clear h0
    obtain ⟨k, rfl, hik, hkj, hr⟩ := hrel
    have hSr := HS.out.keep hr.out.2.2
    by_cases hlt : k < j
    · obtain ⟨b, o, hA, hcs⟩ := (hSr.lots.below hSr.b) (by omega)
      subst hA
      have q0 := hSr.c0
      have hkl : k < l.length := by omega
      obtain ⟨h1, h2, h3, h4, h5, A', c', h6, h8, h7⟩ := hcs k hkl
      have hsg := sum_good HG.out k
      have hps := fun p hp => part_good HG.out (i := k) (p := p) hp
      have hpl := plen_good HG.out k
      have htn : tN l k = if sumP (l.getD k default).parts = 0 then 1 else (sumP (l.getD k default).parts).toNat := rfl
      rw [getD_at' hkl] at hsg hps hpl htn
      obtain ⟨x, hx⟩ : ∃ x, x = l[k] := ⟨_, rfl⟩
      rw [← hx] at h1 h2 h4 h5 h6 h7 h8 hsg hps hpl htn
      obtain ⟨kd, ms, ps⟩ := x
      simp only at h1 h2 h4 h5 h6 h8 hsg hpl htn
      have htk := takes_any ⟨kd, ms, ps⟩ A' c' wr h7 ⟨by show ps.length ≤ _; omega, fun p hp => by have := hps p hp; omega⟩
      obtain ⟨S, hS⟩ : ∃ S, S = sumP ps := ⟨_, rfl⟩
      simp only [← hS] at htk hsg htn
      have HTK := Lib.hid htk
      have HSR := Lib.hid hSr
      have hsucc := Pr_succ (t := tN l) hik
      have HT := Lib.hid htn
      have HSU := Lib.hid hsucc
      clear hcs htk hS hps hx h7 hSr htn hsucc
      go_wp2_with fail
      refine HTK.out.mono ?_
      rintro e w1 ⟨rfl, hb1⟩
      have hr1 := Lib.hid (show NatB w1 w.heap.size (a * Pr (tN l) i k) ∧ NatB w1 (w.heap.size + 1) 0 ∧ Below w.heap.size w w1 from ⟨hr.out.1.keep hb1, hr.out.2.1.keep hb1, hr.out.2.2.trans (hb1.mono hr.out.2.2.size)⟩)
      clear hb1 hr q0 h3 h4 h5 h6
      by_cases hz : S = 0
      · have HT2 := Lib.hid (HT.out.trans (if_pos hz))
        subst hz
        go_wp2
        go_roundw
        case rel => exact ⟨k + 1, by go_num, by omega, by omega, by rw [HSU.out, HT2.out, Nat.mul_one]; exact hr1⟩
        case measure => simp [intOf]; omega
      · have HT2 := Lib.hid (HT.out.trans (if_neg hz))
        obtain ⟨S', rfl⟩ : ∃ S' : Nat, S = S' := ⟨S.toNat, by omega⟩
        have hs0 : 0 < S' := by omega
        clear hz
        obtain ⟨m, hm⟩ : ∃ m, m = a * Pr (tN l) i k := ⟨_, rfl⟩
        rw [← hm] at hr1
        have HM := Lib.hid hm
        clear hm
        go_wp2_with (first | (refine ld_nat rfl _ rfl _ _ rfl hr1.out.1 ?_))
        refine (nat_times m S' (by omega) _).mono ?_
        rintro e w2 ⟨rfl, hb2⟩
        have hr2 := Lib.hid (show NatB w2 w.heap.size m ∧ NatB w2 (w.heap.size + 1) 0 ∧ Below w.heap.size w w2 from ⟨hr1.out.1.keep hb2, hr1.out.2.1.keep hb2, hr1.out.2.2.trans (hb2.mono hr1.out.2.2.size)⟩)
        clear hb2
        go_wp2_with (refine st_nat rfl _ _ rfl rfl _ _ _ rfl rfl hr2.out.1 ?_; intro w3 hn hg)
        go_roundw
        case rel => exact ⟨k + 1, by go_num, by omega, by omega, by rw [HSU.out, HT2.out, ← Nat.mul_assoc, ← HM.out, Int.toNat_natCast]; exact ⟨hn, hr2.out.2.1.grown hg (by simp), below_grown hr2.out.2.2 hg (by omega) hr2.out.2.2.size⟩⟩
        case measure => simp [intOf]; omega
    · obtain rfl : k = j := by omega
      clear hSr
      go_wp2_with (first | (refine ld_nat rfl _ rfl _ _ rfl hr.out.1 ?_) | (refine st_nat rfl _ _ rfl rfl _ _ _ rfl rfl hr.out.2.1 ?_; intro w3 hn hg))
      refine bodyPost_ret (v := natV (a * Pr (tN l) i k)) (ret_nat rfl rfl hn) rfl ⟨rfl, below_grown hr.out.2.2 hg (by omega) hr.out.2.2.size⟩
set_option maxRecDepth 100000 in
set_option maxHeartbeats 1000000 in
theorem whole_any (l : List LotD) (hl : l.length ≤ 24) (hg : GoodAll l) (A : Option Addr) (c sb mb of i : Nat) (hi : i < l.length) (w0 w : World) (hS : ShIn w0 w sb mb l A c of) :
    Calls Try.prog 60 #[.pointer (some ⟨sb, 0, none⟩), .int .i64 i] w fun e w' => e = .returned (natV (Pr (tN l) 0 (i + 1))) ∧ Below w.heap.size w w' := by
  have HS := Lib.hid hS
  have HG := Lib.hid hg
  clear hS hg
  go_enter Try.func60, Try.ntmps60
  go_wp2_with fail
  rw [natZ]
  obtain ⟨W, hW⟩ : ∃ W, W = w.alloc (.cells (natC 0) 77) := ⟨_, rfl⟩
  rw [← hW]
  have h0 : Hid (NatB W w.heap.size 0 ∧ Below w.heap.size w W) := by rw [hW]; exact ⟨NB.new _ _, (by repeat' (first | (with_reducible exact Below.refl _ _) | (with_reducible assumption) | (with_reducible refine below_drewN ?_ _) | (with_reducible refine below_step (by assumption) ?_ ?_) | (with_reducible refine Below.alloc ?_ ?_ _) | (with_reducible refine Below.setCell ?_ ?_ _) | (with_reducible refine Below.drew ?_) | go_size | (exact Below.size (by assumption)) | (refine Nat.le_trans (Below.size (by assumption)) ?_)))⟩
  clear hW
  refine (small_one W).mono ?_
  rintro e w1 ⟨rfl, hb1⟩
  have h1 := Lib.hid (show NatB w1 w.heap.size 0 ∧ Below w.heap.size w w1 from ⟨h0.out.1.keep hb1, h0.out.2.trans (hb1.mono h0.out.2.size)⟩)
  clear hb1 h0
  go_wp2_with fail
  refine (scale_any l hl HG.out A c sb mb of 1 0 (i + 1) (by omega) (by omega) w0 w1 (HS.out.keep h1.out.2)).mono ?_
  rw [Nat.one_mul]
  rintro e w2 ⟨rfl, hb2⟩
  have h2 := Lib.hid (show NatB w2 w.heap.size 0 ∧ Below w.heap.size w w2 from ⟨h1.out.1.keep hb2, h1.out.2.trans (hb2.mono h1.out.2.size)⟩)
  clear hb2
  go_wp2_with (refine st_nat rfl _ _ rfl rfl _ _ _ rfl rfl h2.out.1 ?_; intro w3 hn hg)
  refine bodyPost_ret (v := natV (Pr (tN l) 0 (i + 1))) (ret_nat rfl rfl hn) rfl ⟨rfl, below_grown h2.out.2 hg (by omega) h2.out.2.size⟩
end Go.Proofs.Ytdgmpaijpjkeoaa
/-
  THE MAP OF KNOWN SHARES.
-/
namespace Go.Proofs.Ytdgmpaijpjkeoaa
open Go.RowKit
open Go.Maps (Keyed)
theorem natV_inj {a b : Nat} (ha : a < 4294967296 ^ 20) (hb : b < 4294967296 ^ 20) (h : natV a = natV b) : a = b := by
  unfold natV at h
  injection h with h
  refine eq_of_words ha hb (fun i hi => ?_)
  have h1 := natC_at (a := a) hi
  rw [h, natC_at hi] at h1
  have := Option.some.inj h1
  injection this with _ h2
  omega
open Classical in
/-- How a natural in a map reads. -/
noncomputable def natR (v : Value) : Option (DataW Unit × List MemPlace) := if h : ∃ a : Nat, a < 4294967296 ^ 20 ∧ v = natV a then some (.lit (.int .u64 (h.choose : Int)), []) else none
theorem natR_mk {a : Nat} (ha : a < 4294967296 ^ 20) : natR (natV a) = some (.lit (.int .u64 (a : Int)), []) := by
  have h : ∃ b : Nat, b < 4294967296 ^ 20 ∧ natV a = natV b := ⟨a, ha, rfl⟩
  unfold natR
  rw [dif_pos h, natV_inj h.choose_spec.1 ha h.choose_spec.2.symm]
theorem natR_inv {v : Value} {z : DataW Unit × List MemPlace} (h : natR v = some z) : ∃ a : Nat, a < 4294967296 ^ 20 ∧ v = natV a ∧ z.1 = .lit (.int .u64 (a : Int)) := by
  unfold natR at h
  split at h
  · rename_i hx
    have := hx.choose_spec
    cases h
    exact ⟨_, this.1, this.2, rfl⟩
  · cases h
/-- How many below L are known. -/
def cnt (K : Nat → Bool) (L : Nat) : Nat := ((List.range L).filter K).length
theorem cnt_le (K : Nat → Bool) (L : Nat) : cnt K L ≤ L := by
  have := List.length_filter_le K (List.range L)
  simpa [cnt] using this
def setK (K : Nat → Bool) (i : Nat) : Nat → Bool := fun j => if j = i then true else K j
theorem cnt_succ (K : Nat → Bool) (L : Nat) : cnt K (L + 1) = cnt K L + (if K L = true then 1 else 0) := by
  unfold cnt
  rw [List.range_succ, List.filter_append, List.length_append]
  by_cases h : K L = true
  · simp [h]
  · simp [h]
theorem cnt_same {K : Nat → Bool} {i : Nat} : ∀ L, L ≤ i → cnt (setK K i) L = cnt K L
  | 0, _ => rfl
  | L + 1, h => by
    rw [cnt_succ, cnt_succ, cnt_same L (by omega)]
    have : setK K i L = K L := by unfold setK; rw [if_neg (by omega)]
    rw [this]
theorem cnt_set {K : Nat → Bool} {i : Nat} (hi : K i = false) : ∀ L, i < L → cnt (setK K i) L = cnt K L + 1
  | 0, h => absurd h (by omega)
  | L + 1, h => by
    rw [cnt_succ, cnt_succ]
    by_cases he : i = L
    · subst he
      rw [cnt_same _ (Nat.le_refl _), hi]
      simp [setK]
    · rw [cnt_set hi L (by omega)]
      have : setK K i L = K L := by unfold setK; rw [if_neg (by omega)]
      rw [this]; omega
/-- Block mb is a map of what f has at some of the numbers below L: at those of K. -/
def MapOK (w : World) (mb L : Nat) (f : Nat → Nat) (K : Nat → Bool) : Prop :=
  ∃ n D, w.ownsMap Try.prog 3 natR mb n D ∧ n ≤ cnt K L ∧ Maps.IsMap D ∧ (∀ j : Nat, j < L → Maps.has D (.int .i64 (j : Int)) = K j) ∧ (∀ j : Nat, j < L → K j = true → ∀ z, D.atKey (.int .i64 (j : Int)) z = .lit (.int .u64 (f j : Int)))
theorem MapOK.made (w : World) (L : Nat) (f : Nat → Nat) : MapOK (w.alloc (.map #[] 0)) w.heap.size L f (fun _ => false) :=
  ⟨0, .map [], World.ownsMap_made _ _ _ _, Nat.zero_le _, Maps.isMap_empty, fun j _ => rfl, fun j _ h => by cases h⟩
theorem MapOK.kept {w w' : World} {mb L : Nat} {f : Nat → Nat} {K : Nat → Bool} {row : Option Nat} (h : MapOK w mb L f K) (hg : w.grownBy w' row) (hne : some mb ≠ row) : MapOK w' mb L f K := by
  obtain ⟨n, D, h1, h2⟩ := h
  exact ⟨n, D, h1.kept hg hne, h2⟩
theorem grown_below {w w' : World} (h : Below w.heap.size w w') (row : Option Nat) : w.grownBy w' row := ⟨h.os, h.tape, h.output, h.size, fun k hk _ => h.block k hk⟩
theorem MapOK.keep {w w' : World} {mb L : Nat} {f : Nat → Nat} {K : Nat → Bool} (h : MapOK w mb L f K) (hb : Below w.heap.size w w') : MapOK w' mb L f K := h.kept (grown_below hb none) (by simp)
theorem MapOK.lt {w : World} {mb L : Nat} {f : Nat → Nat} {K : Nat → Bool} (h : MapOK w mb L f K) : mb < w.heap.size := by
  obtain ⟨n, D, h1, _⟩ := h
  exact h1.lt
theorem mapLaw : Keyed Try.prog 3 := Maps.int_keyed Try.underlying3
theorem mapKey (i : Nat) (hi : i ≤ 1000000) : keyOf Try.prog 3 (.int .i64 (i : Int)) = some (.int .i64 (i : Int)) := Maps.keyOf_int_mk Try.underlying3 (WalkArith.wf_i64 (by omega))
section
variable {ops : Array Oper} {rest : List Oper} {o : Oper} {a : Act} {w : World} {Q : Exit → Act → World → Prop}
theorem lk_yes (hgd : o.guard = none) (m x : Operand) (ho : o.op = .lookup 105 m x true) (mb i L : Nat) (f : Nat → Nat) (K : Nat → Bool) (hm : a.eval m = .map (some mb)) (hx : a.eval x = .int .i64 (i : Int))
    (h : MapOK w mb L f K) (hi : i < L) (hL : L ≤ 1000000) (hKi : K i = true) (hK : wpList Try.prog ops Q rest (a.put o.dst (.tuple #[natV (f i), .bool true])) w) : wpList Try.prog ops Q (o :: rest) a w := by
  obtain ⟨n, D, h1, h2, h3, h4, h5⟩ := h
  refine wpList_lookup_own_ok w hgd m x 105 ho 3 77 mapLaw Try.underlying105 natR (natZero w) _ [] (natR_mk (a := 0) (by decide)) mb n D hm h1 (.int .i64 (i : Int)) _ hx (mapKey i (by omega)) ?_
  intro v ps hv
  rw [h5 i hi hKi] at hv
  obtain ⟨b, hb, rfl, he⟩ := natR_inv hv
  have : f i = b := by
    simp only [DataW.lit.injEq, Lit.int.injEq, true_and] at he
    omega
  rw [h4 i hi, hKi, ← this]
  exact hK
theorem lk_no (hgd : o.guard = none) (m x : Operand) (ho : o.op = .lookup 105 m x true) (mb i L : Nat) (f : Nat → Nat) (K : Nat → Bool) (hm : a.eval m = .map (some mb)) (hx : a.eval x = .int .i64 (i : Int))
    (h : MapOK w mb L f K) (hi : i < L) (hL : L ≤ 1000000) (hKi : K i = false) (hK : ∀ b : Nat, wpList Try.prog ops Q rest (a.put o.dst (.tuple #[natV b, .bool false])) w) : wpList Try.prog ops Q (o :: rest) a w := by
  obtain ⟨n, D, h1, h2, h3, h4, h5⟩ := h
  refine wpList_lookup_own_ok w hgd m x 105 ho 3 77 mapLaw Try.underlying105 natR (natZero w) _ [] (natR_mk (a := 0) (by decide)) mb n D hm h1 (.int .i64 (i : Int)) _ hx (mapKey i (by omega)) ?_
  intro v ps hv
  obtain ⟨b, hb, rfl, he⟩ := natR_inv hv
  rw [h4 i hi, hKi]
  exact hK b
theorem key_ne {i j : Nat} (h : j ≠ i) : (Lit.int .i64 (j : Int)) ≠ .int .i64 (i : Int) := by
  intro e
  injection e with _ e
  omega
theorem st_map (hgd : o.guard = none) (m x v : Operand) (ho : o.op = .mapUpdate 105 m x v) (hd : o.dst = none) (mb i L : Nat) (f : Nat → Nat) (K : Nat → Bool) (hm : a.eval m = .map (some mb)) (hx : a.eval x = .int .i64 (i : Int)) (hv : a.eval v = natV (f i))
    (h : MapOK w mb L f K) (hi : i < L) (hL : L ≤ 1000000) (hf : f i < 4294967296 ^ 20) (hKi : K i = false) (hK : ∀ w', MapOK w' mb L f (setK K i) → w.grownBy w' (some mb) → wpList Try.prog ops Q rest a w') : wpList Try.prog ops Q (o :: rest) a w := by
  obtain ⟨n, D, h1, h2, h3, h4, h5⟩ := h
  have hn := cnt_le K L
  have hkl := mapLaw.key (mapKey i (by omega))
  refine wpList_mapUpdate_own w hgd m x v 105 ho 3 77 mapLaw Try.underlying105 natR mb n D hm h1 (by unfold maxLen; omega) (.int .i64 (i : Int)) (natV (f i)) _ hx hv (mapKey i (by omega)) _ [] (natR_mk hf) ?_
  intro w' h1' hg
  rw [hd]
  refine hK w' ⟨n + 1, _, h1', by rw [cnt_set hKi L hi]; omega, h3.put _ _, fun j hj => ?_, fun j hj hk z => ?_⟩ hg
  · by_cases he : j = i
    · subst he; rw [Maps.has_put_same h3 hkl]; simp [setK]
    · rw [Maps.has_put_other (key_ne he), h4 j hj]; simp [setK, he]
  · by_cases he : j = i
    · subst he; rw [Maps.atKey_put_same h3 hkl]
    · rw [Maps.atKey_put_other (key_ne he)]
      exact h5 j hj (by simpa [setK, he] using hk) z
end
end Go.Proofs.Ytdgmpaijpjkeoaa
