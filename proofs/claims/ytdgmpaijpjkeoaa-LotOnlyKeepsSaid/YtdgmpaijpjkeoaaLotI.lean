/-
  in: the numerator of a share.
-/
import Derived.Test.YtdgmpaijpjkeoaaLotH
import Derived.Deep.CutBlock
namespace Go.Proofs.Ytdgmpaijpjkeoaa
open Go.RowKit
attribute [local go_sem] grow_cell grow_frozen
theorem grown_trans {w w1 w2 : World} {row : Option Nat} (h1 : w.grownBy w1 row) (h2 : w1.grownBy w2 row) : w.grownBy w2 row :=
  ⟨h2.os.trans h1.os, h2.tape.trans h1.tape, h2.output.trans h1.output, Nat.le_trans h1.size h2.size, fun k hk hne => (h2.block k (Nat.lt_of_lt_of_le hk h1.size) hne).trans (h1.block k hk hne)⟩
/-- What a call of in for a number up to i may leave, from wb on. -/
def CIn (wb : World) (mb L : Nat) (f : Nat → Nat) (K : Nat → Bool) (i : Nat) (w' : World) : Prop := wb.grownBy w' (some mb) ∧ ∃ K', MapOK w' mb L f K' ∧ ∀ j, i ≤ j → K' j = K j
/-- .. as a type. -/
def CW (wb : World) (mb L : Nat) (f : Nat → Nat) (K : Nat → Bool) (i : Nat) : Type := { w' : World // CIn wb mb L f K i w' }
def CW.w {wb : World} {mb L : Nat} {f : Nat → Nat} {K : Nat → Bool} {i : Nat} (x : CW wb mb L f K i) : World := x.1
section
variable {wb : World} {mb L : Nat} {f : Nat → Nat} {K : Nat → Bool} {i : Nat}
theorem CIn.below {w w' : World} (h : CIn wb mb L f K i w) (hb : Below w.heap.size w w') : CIn wb mb L f K i w' := by
  obtain ⟨h1, K', h2, h3⟩ := h
  exact ⟨grown_trans h1 (grown_below hb _), K', h2.keep hb, h3⟩
theorem CIn.step {w w' : World} (h : CIn wb mb L f K i w) {p : Nat} (hp : p < i) (hc : ∀ K', MapOK w mb L f K' → w.grownBy w' (some mb) ∧ ∃ K'', MapOK w' mb L f K'' ∧ ∀ j, p < j → K'' j = K' j) : CIn wb mb L f K i w' := by
  obtain ⟨h1, K', h2, h3⟩ := h
  obtain ⟨g1, K'', g2, g3⟩ := hc K' h2
  exact ⟨grown_trans h1 g1, K'', g2, fun j hj => (g3 j (by omega)).trans (h3 j hj)⟩
theorem cw_call {P : Program} {g : FuncId} {args : Array Value} {v : Value} {x : CW wb mb L f K i} (h : Calls P g args x.w fun e w' => e = .returned v ∧ CIn wb mb L f K i w') : Calls P g args x.w fun e w'' => e = .returned v ∧ ∃ y : CW wb mb L f K i, w'' = y.w :=
  h.mono fun _ w' ⟨he, hc⟩ => ⟨he, ⟨w', hc⟩, rfl⟩
theorem cw_below {P : Program} {g : FuncId} {args : Array Value} {v : Value} {x : CW wb mb L f K i} (h : Calls P g args x.w fun e w' => e = .returned v ∧ Below x.w.heap.size x.w w') : Calls P g args x.w fun e w'' => e = .returned v ∧ ∃ y : CW wb mb L f K i, w'' = y.w :=
  cw_call (h.mono fun _ _ ⟨he, hb⟩ => ⟨he, CIn.below x.2 hb⟩)
theorem cw_cell {a : Addr} {v : Value} (h : wb.cell? a = some v) (hne : mb ≠ a.block) (x : CW wb mb L f K i) : x.w.cell? a = some v := x.2.1.cell h (by simpa using fun e => hne e.symm)
theorem cw_nat {b n : Nat} (h : NatB wb b n) (hne : b ≠ mb) : ∀ w', (∃ x : CW wb mb L f K i, w' = x.w) → NatB w' b n := by
  rintro w' ⟨x, rfl⟩
  exact h.grown x.2.1 (by simpa using hne)
end
/-- The numerators of the shares of the lot of. -/
def fN (l : List LotD) (of : Nat) : Nat → Nat := NN (tN l) (psN l) of
theorem fN_le {l : List LotD} (hg : GoodAll l) (of i : Nat) : fN l of i ≤ Pr (tN l) 0 (i + 1) := NN_le (psN_lt hg) (psN_sum hg) i
theorem fN_lt {l : List LotD} (hg : GoodAll l) (hl : l.length ≤ 24) (of : Nat) {i : Nat} (hi : i < l.length) : fN l of i < 4294967296 ^ 20 :=
  Nat.lt_of_le_of_lt (Nat.le_trans (fN_le hg of i) (pr_big hg hl (show i + 1 ≤ l.length by omega))) big_lt
/-- The sum over the first m parts. -/
def sN (l : List LotD) (of i m : Nat) : Nat := (((psN l i).take m).map fun p => fN l of p.1 * p.2 * Pr (tN l) (p.1 + 1) i).sum
theorem sN_succ {l : List LotD} {of i m : Nat} (hm : m < (psN l i).length) : sN l of i (m + 1) = sN l of i m + fN l of (psN l i)[m].1 * (psN l i)[m].2 * Pr (tN l) ((psN l i)[m].1 + 1) i := by
  unfold sN
  rw [List.take_succ_eq_append_getElem hm, List.map_append, List.sum_append]
  simp
theorem sN_all {l : List LotD} (hg : GoodAll l) {of i m : Nat} (hm : (psN l i).length ≤ m) (h : of < i) : sN l of i m = fN l of i := by
  unfold sN
  rw [List.take_of_length_le hm]
  exact (NN_high (psN_lt hg i) h).symm
/-- The contract of in. -/
def InOK (l : List LotD) (A : Option Addr) (c sb mb of : Nat) (w0 : World) (i : Nat) : Prop :=
  ∀ (w : World) (K : Nat → Bool), ShIn w0 w sb mb l A c of → MapOK w mb l.length (fN l of) K →
    Calls Try.prog 59 #[.pointer (some ⟨sb, 0, none⟩), .int .i64 i] w fun e w' => e = .returned (natV (fN l of i)) ∧ w.grownBy w' (some mb) ∧ ∃ K', MapOK w' mb l.length (fN l of) K' ∧ ∀ j, i < j → K' j = K j
theorem cw_in {l : List LotD} {A : Option Addr} {c sb mb of : Nat} {w0 wb : World} {K : Nat → Bool} {i p : Nat} (hIH : InOK l A c sb mb of w0 p) (hp : p < i) (hsh : ShIn w0 wb sb mb l A c of) (x : CW wb mb l.length (fN l of) K i) :
    Calls Try.prog 59 #[.pointer (some ⟨sb, 0, none⟩), .int .i64 p] x.w fun e w'' => e = .returned (natV (fN l of p)) ∧ ∃ y : CW wb mb l.length (fN l of) K i, w'' = y.w := by
  obtain ⟨g, K', m1, m2⟩ := x.2
  exact cw_call ((hIH x.w K' (hsh.grown g hsh.ne hsh.s3) m1).mono fun e w' ⟨he, hg, K'', n1, n2⟩ => ⟨he, grown_trans g hg, K'', n1, fun j hj => (n2 j (by omega)).trans (m2 j hj)⟩)
theorem cw_scale {l : List LotD} (hl : l.length ≤ 24) (hg : GoodAll l) {A : Option Addr} {c sb mb of : Nat} {w0 wb : World} {K : Nat → Bool} {i p : Nat} (a : Nat) (j0 : Int) (hj0 : j0 = ((p + 1 : Nat) : Int)) (hp : p < i) (hi : i ≤ l.length) (hsh : ShIn w0 wb sb mb l A c of) (x : CW wb mb l.length (fN l of) K i) :
    Calls Try.prog 87 #[.pointer (some ⟨sb, 0, none⟩), natV a, .int .i64 j0, .int .i64 i] x.w fun e w'' => e = .returned (natV (a * Pr (tN l) (p + 1) i)) ∧ ∃ y : CW wb mb l.length (fN l of) K i, w'' = y.w := by
  subst hj0
  exact cw_below (scale_any l hl hg A c sb mb of a (p + 1) i (by omega) hi w0 x.w (hsh.grown x.2.1 hsh.ne hsh.s3))
/-- The world at the head of in's loop. -/
structure InW (w0 w W : World) (sb mb sm : Nat) (l : List LotD) (A : Option Addr) (c of i s : Nat) (K : Nat → Bool) : Prop where
  r : NatB W w.heap.size 0
  s : NatB W sm s
  sh : ShIn w0 W sb mb l A c of
  g : w.grownBy W (some mb)
  m : ∃ K', MapOK W mb l.length (fN l of) K' ∧ ∀ j, i ≤ j → K' j = K j
theorem InW.below {w0 w W W' : World} {sb mb sm : Nat} {l : List LotD} {A : Option Addr} {c of i s : Nat} {K : Nat → Bool} (h : InW w0 w W sb mb sm l A c of i s K) (hb : Below W.heap.size W W') : InW w0 w W' sb mb sm l A c of i s K := by
  obtain ⟨K', m1, m2⟩ := h.m
  exact ⟨h.r.keep hb, h.s.keep hb, h.sh.keep hb, grown_trans h.g (grown_below hb _), K', m1.keep hb, m2⟩
theorem InW.set {w0 w W W' : World} {sb mb sm : Nat} {l : List LotD} {A : Option Addr} {c of i s s' : Nat} {K : Nat → Bool} (h : InW w0 w W sb mb sm l A c of i s K) (hn : NatB W' sm s') (hg : W.grownBy W' (some sm)) (hne : sm ≠ mb) (hw : w.heap.size < sm) (hsb : sb < w.heap.size) : InW w0 w W' sb mb sm l A c of i s' K := by
  obtain ⟨K', m1, m2⟩ := h.m
  refine ⟨h.r.grown hg (by simp; omega), hn, h.sh.grown hg (by omega) (by have := h.sh.s2; omega), ?_, K', m1.kept hg (by simpa using fun e => hne e.symm), m2⟩
  exact ⟨hg.os.trans h.g.os, hg.tape.trans h.g.tape, hg.output.trans h.g.output, Nat.le_trans h.g.size hg.size, fun k hk hk2 => (hg.block k (Nat.lt_of_lt_of_le hk h.g.size) (by simp; omega)).trans (h.g.block k hk hk2)⟩
theorem InW.cw {w0 w wb : World} {sb mb sm : Nat} {l : List LotD} {A : Option Addr} {c of i s : Nat} {K : Nat → Bool} (h : InW w0 w wb sb mb sm l A c of i s K) (x : CW wb mb l.length (fN l of) K i) (hsm : sm ≠ mb) (hr : w.heap.size ≠ mb) : InW w0 w x.w sb mb sm l A c of i s K := by
  obtain ⟨g, K', m1, m2⟩ := x.2
  exact ⟨h.r.grown g (by simpa using hr), h.s.grown g (by simpa using hsm), h.sh.grown g h.sh.ne h.sh.s3, grown_trans h.g g, K', m1, m2⟩
set_option maxRecDepth 100000 in
set_option maxHeartbeats 1000000 in
theorem in_step (l : List LotD) (hl : l.length ≤ 24) (hg : GoodAll l) (A : Option Addr) (c sb mb of : Nat) (w0 : World) (i : Nat) (hi : i < l.length) (ih : ∀ p < i, InOK l A c sb mb of w0 p) : InOK l A c sb mb of w0 i := by
  intro w K hS hM
  have HG := Lib.hid hg
  have HIH := Lib.hid ih
  have hfl := fN_lt hg hl of hi
  have HF := Lib.hid hfl
  have HS := Lib.hid hS
  have HM := Lib.hid hM
  have hmw := hM.lt
  have hsbw := hS.s1
  clear hg ih hfl hS hM
  cases hKi : K i with
  | true =>
    have HK := Lib.hid hKi
    clear hKi
    go_enter Try.func59, Try.ntmps59
    go_upto_region 1 with fail
    rw [natZ]
    obtain ⟨W, hW⟩ : ∃ W, W = w.alloc (.cells (natC 0) 77) := ⟨_, rfl⟩
    rw [← hW]
    have hb : Below w.heap.size w W := by rw [hW]; exact (by repeat' (first | (with_reducible exact Below.refl _ _) | (with_reducible assumption) | (with_reducible refine below_drewN ?_ _) | (with_reducible refine below_step (by assumption) ?_ ?_) | (with_reducible refine Below.alloc ?_ ?_ _) | (with_reducible refine Below.setCell ?_ ?_ _) | (with_reducible refine Below.drew ?_) | go_size | (exact Below.size (by assumption)) | (refine Nat.le_trans (Below.size (by assumption)) ?_)))
    have hr := Lib.hid (show NatB W w.heap.size 0 by rw [hW]; exact NB.new _ _)
    have hS1 := HS.out.keep hb
    have hM1 := Lib.hid (HM.out.keep hb)
    have HB := Lib.hid hb
    obtain ⟨q0, q1, q2, -⟩ := hS1
    clear hW hb
    have hz : NatB (W.alloc (.cells (natC 0) 77)) W.heap.size 0 := NB.new _ _
    rw [← natZ] at hz
    have HZ := Lib.hid hz
    have hr2 : NatB (W.alloc (.cells (natC 0) 77)) w.heap.size 0 := hr.out.keep ((Below.refl _ _).alloc (Nat.le_refl _) _)
    have hM2 : MapOK (W.alloc (.cells (natC 0) 77)) mb l.length (fN l of) K := hM1.out.keep ((Below.refl _ _).alloc (Nat.le_refl _) _)
    have hB2 : Below w.heap.size w (W.alloc (.cells (natC 0) 77)) := HB.out.alloc HB.out.size _
    rw [← natZ] at hr2 hM2 hB2
    have HR2 := Lib.hid hr2
    have HM2 := Lib.hid hM2
    have HB2 := Lib.hid hB2
    have hsz := hr.out.lt
    clear hz hr2 hM2 hB2
    go_wp2_with (first | refine lk_yes rfl _ _ rfl mb i l.length (fN l of) K rfl rfl hM1.out hi (by omega) HK.out ?_ | (refine st_nat rfl _ _ rfl rfl _ _ _ rfl rfl HZ.out ?_; intro w1 hn1 hg1; have n1 := Lib.hid hn1; have r1 := Lib.hid (HR2.out.grown hg1 (by simp; omega)); have b1 := Lib.hid (below_grown HB2.out hg1 (by omega) HB2.out.size); have m1 := Lib.hid (HM2.out.kept hg1 (by simp; omega))) | (refine ld_nat rfl _ rfl _ _ rfl n1.out ?_) | (refine st_nat rfl _ _ rfl rfl _ _ _ rfl rfl r1.out ?_; intro w2 hn2 hg2))
    refine bodyPost_ret (v := natV (fN l of i)) (ret_nat rfl rfl hn2) rfl ⟨rfl, grown_below (below_grown b1.out hg2 (by omega) b1.out.size) _, K, m1.out.kept hg2 (by simp; omega), fun _ _ => rfl⟩
  | false =>
    have HK := Lib.hid hKi
    clear hKi
    go_enter Try.func59, Try.ntmps59
    go_upto_region 1 with fail
    rw [natZ]
    obtain ⟨W, hW⟩ : ∃ W, W = w.alloc (.cells (natC 0) 77) := ⟨_, rfl⟩
    rw [← hW]
    have hb : Below w.heap.size w W := by rw [hW]; exact (by repeat' (first | (with_reducible exact Below.refl _ _) | (with_reducible assumption) | (with_reducible refine below_drewN ?_ _) | (with_reducible refine below_step (by assumption) ?_ ?_) | (with_reducible refine Below.alloc ?_ ?_ _) | (with_reducible refine Below.setCell ?_ ?_ _) | (with_reducible refine Below.drew ?_) | go_size | (exact Below.size (by assumption)) | (refine Nat.le_trans (Below.size (by assumption)) ?_)))
    have hr := Lib.hid (show NatB W w.heap.size 0 by rw [hW]; exact NB.new _ _)
    have hsw : W.heap.size = w.heap.size + 1 := by rw [hW]; simp
    have hS1 := HS.out.keep hb
    have hM1 := Lib.hid (HM.out.keep hb)
    have HB := Lib.hid hb
    obtain ⟨q0, q1, q2, -⟩ := hS1
    clear hW hb
    have hz : NatB (W.alloc (.cells (natC 0) 77)) W.heap.size 0 := NB.new _ _
    rw [← natZ] at hz
    have HZ := Lib.hid hz
    have hr2 : NatB (W.alloc (.cells (natC 0) 77)) w.heap.size 0 := hr.out.keep ((Below.refl _ _).alloc (Nat.le_refl _) _)
    have hM2 : MapOK (W.alloc (.cells (natC 0) 77)) mb l.length (fN l of) K := hM1.out.keep ((Below.refl _ _).alloc (Nat.le_refl _) _)
    have hB2 : Below w.heap.size w (W.alloc (.cells (natC 0) 77)) := HB.out.alloc HB.out.size _
    rw [← natZ] at hr2 hM2 hB2
    have HR2 := Lib.hid hr2
    have HM2 := Lib.hid hM2
    have HB2 := Lib.hid hB2
    have hsz := hr.out.lt
    have HSW := Lib.hid hsw
    clear hz hr2 hM2 hB2 hsw
    go_upto_block 0 with (first | (refine lk_no rfl _ _ rfl mb i l.length (fN l of) K rfl rfl hM1.out hi (by omega) HK.out ?_; intro vz) | (refine st_nat rfl _ _ rfl rfl _ _ _ rfl rfl HZ.out ?_; intro w1 hn1 hg1; have n1 := Lib.hid hn1; have r1 := Lib.hid (HR2.out.grown hg1 (by simp; omega)); have b1 := Lib.hid (below_grown HB2.out hg1 (by omega) HB2.out.size); have m1 := Lib.hid (HM2.out.kept hg1 (by simp; omega))))
    obtain ⟨W2, hW2⟩ : ∃ W2, W2 = w1.alloc (.cells #[.int .u32 0, .int .u32 0, .int .u32 0, .int .u32 0, .int .u32 0, .int .u32 0, .int .u32 0, .int .u32 0, .int .u32 0, .int .u32 0, .int .u32 0, .int .u32 0, .int .u32 0, .int .u32 0, .int .u32 0, .int .u32 0, .int .u32 0, .int .u32 0, .int .u32 0, .int .u32 0] 77) := ⟨_, rfl⟩
    rw [← hW2]
    rw [natZ] at hW2
    obtain ⟨sm, hsm⟩ : ∃ sm, sm = w1.heap.size := ⟨_, rfl⟩
    rw [← hsm]
    have hb2 : Below w1.heap.size w1 W2 := by rw [hW2]; exact (Below.refl _ _).alloc (Nat.le_refl _) _
    have IW := Lib.hid (show InW w0 w W2 sb mb sm l A c of i 0 K from ⟨r1.out.keep hb2, by rw [hW2, hsm]; exact NB.new _ _, HS.out.keep (b1.out.trans (hb2.mono b1.out.size)), grown_below (b1.out.trans (hb2.mono b1.out.size)) _, K, m1.out.keep hb2, fun _ _ => rfl⟩)
    have hsm1 : w.heap.size < sm := by have := r1.out.lt; omega
    have hsm2 : sm ≠ mb := by have := m1.out.lt; omega
    have hsm3 : sm < W2.heap.size := IW.out.s.lt
    clear hW2 hsm hb2 q0 q1 q2 r1 n1 m1 hn1 hg1 b1 HR2 HM2 HB2 HZ hr hM1 HB hsz HSW
    go_cut [] (fun wx => InW w0 w wx sb mb sm l A c of i (fN l of i) K)
    case first =>
      obtain ⟨p0, p1, p2, ps1, -⟩ := IW.out.sh
      rcases Nat.lt_trichotomy i of with h | h | h
      · have hz0 := Lib.hid (show 0 = fN l of i from (NN_low (psN_lt HG.out i) h).symm)
        have d1 : ((i : Int) == (of : Int)) = false := by rw [beq_eq_false_iff_ne]; omega
        have d2 : decide (of < i) = false := decide_eq_false (by omega)
        clear h
        go_wp2_with fail
        go_meet
        rw [← hz0.out]; exact IW.out
      · have hz0 := Lib.hid (show Pr (tN l) 0 (i + 1) = fN l of i by rw [h]; exact (NN_of (psN_lt HG.out of) rfl).symm)
        have d1 : ((i : Int) == (of : Int)) = true := by rw [beq_iff_eq]; omega
        clear h
        go_wp2_with fail
        refine (small_one W2).mono ?_
        rintro e w3 ⟨rfl, hb3⟩
        have hb3' := Lib.hid hb3
        clear hb3
        go_wp2_with fail
        refine (scale_any l hl HG.out A c sb mb of 1 0 (i + 1) (by omega) (by omega) w0 w3 (IW.out.sh.keep hb3'.out)).mono ?_
        rw [Nat.one_mul, hz0.out]
        rintro e w4 ⟨rfl, hb4⟩
        have IX := Lib.hid (IW.out.below (hb3'.out.trans (hb4.mono hb3'.out.size)))
        clear hb4 hb3'
        go_wp2_with (refine st_nat rfl _ _ rfl rfl _ _ _ rfl rfl IX.out.s ?_; intro w5 hn5 hg5)
        go_meet
        exact IX.out.set hn5 hg5 hsm2 hsm1 hsbw
      · have hall := sN_all HG.out (i := i) (m := (psN l i).length) (Nat.le_refl _) h
        have HALL := Lib.hid hall
        have d1 : ((i : Int) == (of : Int)) = false := by rw [beq_eq_false_iff_ne]; omega
        have d2 : decide (of < i) = true := decide_eq_true (by omega)
        have HLT := Lib.hid h
        clear h hall
        obtain ⟨b, o, hA, hcs⟩ := IW.out.sh.lots (by omega)
        subst hA
        obtain ⟨h1, h2, h3, h4, h5, A', c', h6, h8, h7⟩ := hcs i hi
        replace h6 := (IW.out.sh.b.cell (p := ⟨b, _, none⟩) h3).trans h6
        have hpg := fun p hp => part_good HG.out (i := i) (p := p) hp
        have hpl := plen_good HG.out i
        have hpsn : psN l i = (l.getD i default).parts.map fun p => (p.1.toNat, p.2.toNat) := rfl
        rw [getD_at' hi] at hpg hpl hpsn
        obtain ⟨ps, hps⟩ : ∃ ps, ps = l[i].parts := ⟨_, rfl⟩
        rw [← hps] at h6 h7 h8 hpg hpl hpsn
        have HP := Lib.hid h7
        have HPG := Lib.hid hpg
        have HPS := Lib.hid hpsn
        have hbw := Nat.lt_of_lt_of_le h3 IW.out.sh.b.size
        clear hcs h4 h5 h7 hpg hpsn hps h1 h2 h3
        go_wp2
        go_loopw [49] (fun t wr => ∃ m : Nat, t = .int .i64 m ∧ m ≤ ps.length ∧ Hid (InW w0 w wr sb mb sm l (some ⟨b, o, none⟩) c of i (sN l of i m) K)) (fun t _ => ps.length - (intOf t).toNat)
        case atStart => exact ⟨0, rfl, by omega, IW⟩
        case round =>
          clear p0 p1 p2 ps1 h6 hbw hsm3 IW
          obtain ⟨m, rfl, hm, hr⟩ := hrel
          by_cases hml : m < ps.length
          · obtain ⟨b', o', rfl, hb', hcc⟩ := (HP.out.below hr.out.sh.b).2 (by omega)
            obtain ⟨q0, q1⟩ := hcc m hml
            have hpg := HPG.out _ (List.getElem_mem hml)
            have hml2 : m < (psN l i).length := by rw [HPS.out]; simpa using hml
            have hsucc := sN_succ (of := of) hml2
            have hget : (psN l i)[m] = (ps[m].1.toNat, ps[m].2.toNat) := by simp [HPS.out]
            rw [hget] at hsucc
            obtain ⟨p, hp⟩ : ∃ p, p = ps[m] := ⟨_, rfl⟩
            rw [← hp] at q0 q1 hpg hsucc
            obtain ⟨p1, p2⟩ := p
            simp only at q0 q1 hpg hsucc
            obtain ⟨a, rfl⟩ : ∃ a : Nat, p1 = a := ⟨p1.toNat, by omega⟩
            obtain ⟨q, rfl⟩ : ∃ q : Nat, p2 = q := ⟨p2.toNat, by omega⟩
            rw [Int.toNat_natCast, Int.toNat_natCast] at hsucc
            have HSU := Lib.hid hsucc
            have ha : a < i := by omega
            have hq : q ≤ 100000 := by omega
            clear hcc hpg hml2 hsucc hget hp
            go_upto_region 11 with fail
            obtain ⟨wb, hwb⟩ : ∃ wb, wb = wr.alloc (.cells #[.int .i64 a, .int .i64 q] 39) := ⟨_, rfl⟩
            rw [← hwb]
            have k0 : wb.cell? ⟨wr.heap.size, 0, none⟩ = some (.int .i64 a) := by rw [hwb]; simp
            have k1 : wb.cell? ⟨wr.heap.size, 1, none⟩ = some (.int .i64 q) := by rw [hwb]; simp
            have kz : wr.heap.size < wb.heap.size := by rw [hwb]; simp
            have hbb : Below wr.heap.size wr wb := by rw [hwb]; exact (Below.refl _ _).alloc (Nat.le_refl _) _
            have IB := Lib.hid (hr.out.below hbb)
            have hmr : mb < wr.heap.size := by obtain ⟨K', m1, -⟩ := hr.out.m; exact m1.lt
            have c0 : ∀ x : CW wb mb l.length (fN l of) K i, x.w.cell? ⟨wr.heap.size, 0, none⟩ = some (.int .i64 a) := cw_cell k0 (by show mb ≠ wr.heap.size; omega)
            have c1 : ∀ x : CW wb mb l.length (fN l of) K i, x.w.cell? ⟨wr.heap.size, 1, none⟩ = some (.int .i64 q) := cw_cell k1 (by show mb ≠ wr.heap.size; omega)
            have cn : Hid (∀ w', (∃ x : CW wb mb l.length (fN l of) K i, w' = x.w) → NatB w' sm (sN l of i m)) := Lib.hid (cw_nat IB.out.s hsm2)
            have hC : CIn wb mb l.length (fN l of) K i { wb with drawn := wb.drawn + 1 } := by
              obtain ⟨K', m1, m2⟩ := IB.out.m
              exact ⟨⟨rfl, rfl, rfl, Nat.le_refl _, fun _ _ _ => rfl⟩, K', m1, m2⟩
            haveI : Nonempty (CW wb mb l.length (fN l of) K i) := ⟨⟨_, hC⟩⟩
            have hw1 : IntKind.i64.wrap ((a : Int) + 1) = (a : Int) + 1 := IntWalk.i64_in _ ⟨by omega, by omega⟩
            clear hwb hbb k0 k1 q0 q1 hb' hr
            refine region_tail (C := fun w' => ∃ x : CW wb mb l.length (fN l of) K i, w' = x.w) 15 (by kernel_rfl) (by kernel_rfl) ⟨⟨_, hC⟩, rfl⟩ ?_
            simp only [List.take_succ_cons, List.take_zero, List.drop_succ_cons, List.drop_zero]
            repeat (first | (go_big_quiet_want; refine quiet_ld_nat _ rfl _ _ rfl cn.out ?_; go_simp; go_big_quiet_on) | go_big_quiet_step ((first | (go_at_call 59; exact cw_in (HIH.out a ha) ha IB.out.sh _) | (go_at_call 89; exact cw_below (nat_times _ q (by omega) _)) | (go_at_call 87; exact cw_scale hl HG.out _ _ rfl ha (by omega) IB.out.sh _) | (go_at_call 77; exact cw_below (nat_plus _ _ _)))))
            refine wpQuiet_nil ?_
            rintro w3 ⟨y, rfl⟩
            have I3 := Lib.hid (IB.out.cw y hsm2 (by omega))
            obtain ⟨w3, hw3⟩ : ∃ w3, w3 = y.w := ⟨_, rfl⟩
            rw [← hw3] at I3 ⊢
            clear hw3 c0 c1 cn hC hw1 kz hmr y
            go_wp2_with (refine st_nat rfl _ _ rfl rfl _ _ _ rfl rfl I3.out.s ?_; intro w5 hn5 hg5)
            have I5 := Lib.hid (I3.out.set hn5 hg5 hsm2 hsm1 hsbw)
            clear hn5 hg5 I3
            go_wp2
            go_roundw
            case rel => exact ⟨m + 1, by go_num, by omega, by rw [HSU.out]; exact I5⟩
            case measure => simp [intOf]; omega
          · obtain rfl : m = ps.length := by omega
            go_wp2
            go_meet
            have := hr.out
            rw [show ps.length = (psN l i).length by rw [HPS.out]; simp, HALL.out] at this
            exact this
    case rest =>
      have IX := Lib.hid hcut
      clear hcut
      obtain ⟨p0, p1, p2, -⟩ := IX.out.sh
      have hz1 := IX.out.s.lt
      have hz2 := IX.out.sh.s1
      go_wp2
      refine region_grow_tail 6 (by kernel_rfl) (by kernel_rfl) ?_
      simp only [List.take_succ_cons, List.take_zero, List.drop_succ_cons, List.drop_zero]
      repeat (first | (go_big_quiet_want; (first | refine quiet_ld_nat _ rfl _ _ rfl IX.out.s.inGrow ?_); go_simp; go_big_quiet_on) | go_big_quiet_step (fail))
      refine wpQuiet_nil ?_
      rintro w3 ⟨xg, hxg⟩
      have hb3 := below_grow wc xg
      rw [← hxg] at hb3
      clear hxg xg
      have HB3 := Lib.hid hb3
      clear hb3 p0 p1 p2 hz1 hz2
      obtain ⟨K1, hK1, hK2⟩ := IX.out.m
      have HM3 := Lib.hid (hK1.keep HB3.out)
      have HKi := Lib.hid ((hK2 i (Nat.le_refl _)).trans HK.out)
      have HKJ := Lib.hid hK2
      have HR3 := Lib.hid (IX.out.r.keep HB3.out)
      have HS3 := Lib.hid (IX.out.s.keep HB3.out)
      have HG3 := Lib.hid (grown_trans IX.out.g (grown_below HB3.out _))
      clear hK1 hK2
      go_wp2_with (first | (refine st_map rfl _ _ _ rfl rfl mb i l.length (fN l of) K1 rfl rfl rfl HM3.out hi (by omega) HF.out HKi.out ?_; intro w4 hm4 hg4; have s4 := Lib.hid (HS3.out.grown hg4 (by simpa using hsm2)); have r4 := Lib.hid (HR3.out.grown hg4 (by simp; omega))) | (refine ld_nat rfl _ rfl _ _ rfl s4.out ?_) | (refine st_nat rfl _ _ rfl rfl _ _ _ rfl rfl r4.out ?_; intro w5 hn5 hg5))
      have hfin : w.grownBy w5 (some mb) := ⟨hg5.os.trans (hg4.os.trans HG3.out.os), hg5.tape.trans (hg4.tape.trans HG3.out.tape), hg5.output.trans (hg4.output.trans HG3.out.output), Nat.le_trans HG3.out.size (Nat.le_trans hg4.size hg5.size), fun k hk hne => (hg5.block k (Nat.lt_of_lt_of_le hk (Nat.le_trans HG3.out.size hg4.size)) (by simp; omega)).trans ((hg4.block k (Nat.lt_of_lt_of_le hk HG3.out.size) hne).trans (HG3.out.block k hk hne))⟩
      refine bodyPost_ret (v := natV (fN l of i)) (ret_nat rfl rfl hn5) rfl ⟨rfl, hfin, setK K1 i, hm4.kept hg5 (by simp; omega), fun j hj => ?_⟩
      unfold setK
      rw [if_neg (by omega), HKJ.out j (by omega)]
theorem in_any (l : List LotD) (hl : l.length ≤ 24) (hg : GoodAll l) (A : Option Addr) (c sb mb of : Nat) (w0 : World) : ∀ i, i < l.length → InOK l A c sb mb of w0 i := by
  intro i
  induction i using Nat.strongRecOn with
  | _ i ih => exact fun hi => in_step l hl hg A c sb mb of w0 i hi (fun p hp => ih p hp (by omega))
end Go.Proofs.Ytdgmpaijpjkeoaa
