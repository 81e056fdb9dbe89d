/-
  shares: what it lies like in memory; scale, whole.
-/
import Derived.Test.YtdgmpaijpjkeoaaLotF
import Derived.Test.YtdgmpaijpjkeoaaNat
namespace Go.Proofs.Ytdgmpaijpjkeoaa
open Go.RowKit
/-- What a lot takes; 1 where it takes nothing. -/
def tN (l : List LotD) (i : Nat) : Nat := if sumP (l.getD i default).parts = 0 then 1 else (sumP (l.getD i default).parts).toNat
def psN (l : List LotD) (i : Nat) : List (Nat × Nat) := (l.getD i default).parts.map fun p => (p.1.toNat, p.2.toNat)
theorem getD_out {l : List LotD} {k : Nat} (hk : l.length ≤ k) : l.getD k default = default := by rw [List.getD_eq_getElem?_getD, List.getElem?_eq_none hk]; rfl
theorem def_parts : (default : LotD).parts = [] := rfl
section
variable {l : List LotD} (hg : GoodAll l)
include hg
theorem part_good {i : Nat} {p : Int × Int} (hp : p ∈ (l.getD i default).parts) : 0 ≤ p.1 ∧ p.1 < i ∧ 1 ≤ p.2 ∧ p.2 ≤ 100000 := by
  by_cases h : i < l.length
  · rw [getD_at' h] at hp
    exact (hg i h).part p hp
  · rw [getD_out (by omega), def_parts] at hp
    cases hp
theorem plen_good (i : Nat) : (l.getD i default).parts.length ≤ 6 := by
  by_cases h : i < l.length
  · rw [getD_at' h]; exact (hg i h).plen
  · rw [getD_out (by omega), def_parts]; simp
theorem sum_good (i : Nat) : 0 ≤ sumP (l.getD i default).parts ∧ sumP (l.getD i default).parts ≤ 600000 := by
  have h1 := sumP_bd (fun p hp => (part_good hg (i := i) hp).2.2)
  have h2 := plen_good hg i
  omega
theorem tN_pos (i : Nat) : 0 < tN l i := by
  have h := sum_good hg i
  unfold tN
  split <;> omega
theorem tN_le (i : Nat) : tN l i ≤ 600000 := by
  have h := sum_good hg i
  unfold tN
  split <;> omega
theorem psN_lt (i : Nat) : ∀ p ∈ psN l i, p.1 < i := by
  intro p hp
  obtain ⟨q, hq, rfl⟩ := List.mem_map.1 hp
  have := part_good hg hq
  show q.1.toNat < i
  omega
theorem psN_sum (i : Nat) : ((psN l i).map (·.2)).sum ≤ tN l i := by
  have e : ((((psN l i).map (·.2)).sum : Nat) : Int) = sumP (l.getD i default).parts := by
    have hall := fun p hp => part_good hg (i := i) (p := p) hp
    unfold psN sumP
    generalize (l.getD i default).parts = ps at hall
    induction ps with
    | nil => rfl
    | cons p r ih =>
      have h1 := hall p (by simp)
      have h2 := ih (fun q hq => hall q (by simp [hq]))
      simp only [List.map_cons, List.sum_cons]
      omega
  have h := sum_good hg i
  unfold tN
  split <;> omega
end
theorem pr_big {l : List LotD} (hg : GoodAll l) (hl : l.length ≤ 24) {a b : Nat} (hb : b ≤ l.length) : Pr (tN l) a b ≤ 600000 ^ 24 :=
  Nat.le_trans (Pr_le (tN_le hg) a b) (Nat.pow_le_pow_right (by decide) (by omega))
theorem big_lt : 600000 ^ 24 < 4294967296 ^ 20 := by decide +kernel
/-- The block sb holds shares: the genealogy, the lot of, the map mb. -/
structure ShIn (w0 w : World) (sb mb : Nat) (l : List LotD) (A : Option Addr) (c : Nat) (of : Nat) : Prop where
  c0 : w.cell? ⟨sb, 0, none⟩ = some (.slice A l.length c)
  c1 : w.cell? ⟨sb, 1, none⟩ = some (.int .i64 of)
  c2 : w.cell? ⟨sb, 2, none⟩ = some (.map (some mb))
  s1 : sb < w.heap.size
  s2 : w0.heap.size ≤ sb
  s3 : w0.heap.size ≤ mb
  ne : sb ≠ mb
  lots : LotsIn w0 A l
  b : Below w0.heap.size w0 w
theorem ShIn.keep {w0 w w' : World} {sb mb : Nat} {l : List LotD} {A : Option Addr} {c of : Nat} (h : ShIn w0 w sb mb l A c of) (hb : Below w.heap.size w w') : ShIn w0 w' sb mb l A c of :=
  ⟨(hb.cell (p := ⟨sb, 0, none⟩) h.s1).trans h.c0, (hb.cell (p := ⟨sb, 1, none⟩) h.s1).trans h.c1, (hb.cell (p := ⟨sb, 2, none⟩) h.s1).trans h.c2, Nat.lt_of_lt_of_le h.s1 hb.size, h.s2, h.s3, h.ne, h.lots, h.b.trans (hb.mono h.b.size)⟩
theorem ShIn.grown {w0 w w' : World} {sb mb b : Nat} {l : List LotD} {A : Option Addr} {c of : Nat} (h : ShIn w0 w sb mb l A c of) (hg : w.grownBy w' (some b)) (h1 : sb ≠ b) (h2 : w0.heap.size ≤ b) : ShIn w0 w' sb mb l A c of :=
  ⟨hg.cell h.c0 (by simpa using h1), hg.cell h.c1 (by simpa using h1), hg.cell h.c2 (by simpa using h1), Nat.lt_of_lt_of_le h.s1 hg.size, h.s2, h.s3, h.ne, h.lots, below_grown h.b hg h2 h.b.size⟩
set_option maxRecDepth 100000 in
set_option maxHeartbeats 1000000 in
theorem scale_any (l : List LotD) (hl : l.length ≤ 24) (hg : GoodAll l) (A : Option Addr) (c sb mb of a i j : Nat) (hij : i ≤ j) (hj : j ≤ l.length) (w0 w : World) (hS : ShIn w0 w sb mb l A c of) :
    Calls Try.prog 87 #[.pointer (some ⟨sb, 0, none⟩), natV a, .int .i64 i, .int .i64 j] w fun e w' => e = .returned (natV (a * Pr (tN l) i j)) ∧ Below w.heap.size w w' := by
  have HS := Lib.hid hS
  have HG := Lib.hid hg
  clear hS hg
  unfold natV
  obtain ⟨cc, hc⟩ : ∃ c, c = natC a := ⟨_, rfl⟩
  rw [← hc]
  have HC := Lib.hid hc
  clear hc
  go_enter Try.func87, Try.ntmps87
  go_wp2
  rw [natZ, HC.out]
  obtain ⟨W, hW⟩ : ∃ W, W = (w.alloc (.cells (natC a) 77)).alloc (.cells (natC 0) 77) := ⟨_, rfl⟩
  rw [← hW]
  have h0 : Hid (NatB W w.heap.size a ∧ NatB W (w.heap.size + 1) 0 ∧ Below w.heap.size w W) := by rw [hW]; exact ⟨hp1 _ _ _, hp11 _ _ _, (by repeat' (first | (with_reducible exact Below.refl _ _) | (with_reducible assumption) | (with_reducible refine below_drewN ?_ _) | (with_reducible refine below_step (by assumption) ?_ ?_) | (with_reducible refine Below.alloc ?_ ?_ _) | (with_reducible refine Below.setCell ?_ ?_ _) | (with_reducible refine Below.drew ?_) | go_size | (exact Below.size (by assumption)) | (refine Nat.le_trans (Below.size (by assumption)) ?_)))⟩
  clear hW
  go_loopw [9] (fun t wr => ∃ k : Nat, t = .int .i64 k ∧ i ≤ k ∧ k ≤ j ∧ Hid (NatB wr w.heap.size (a * Pr (tN l) i k) ∧ NatB wr (w.heap.size + 1) 0 ∧ Below w.heap.size w wr)) (fun t _ => j - (intOf t).toNat)
  case atStart => exact ⟨i, rfl, Nat.le_refl _, hij, by rw [Pr_self, Nat.mul_one]; exact h0⟩
  case round =>
    clear h0
    obtain ⟨k, rfl, hik, hkj, hr⟩ := hrel
    have hSr := HS.out.keep hr.out.2.2
    by_cases hlt : k < j
    · obtain ⟨b, o, hA, hcs⟩ := (hSr.lots.below hSr.b) (by omega)
      subst hA
      have q0 := hSr.c0
      have hkl : k < l.length := by omega
      obtain ⟨h1, h2, h3, h4, h5, A', c', h6, h8, h7⟩ := hcs k hkl
      have hsg := sum_good HG.out k
      have hps := fun p hp => part_good HG.out (i := k) (p := p) hp
      have hpl := plen_good HG.out k
      have htn : tN l k = if sumP (l.getD k default).parts = 0 then 1 else (sumP (l.getD k default).parts).toNat := rfl
      rw [getD_at' hkl] at hsg hps hpl htn
      obtain ⟨x, hx⟩ : ∃ x, x = l[k] := ⟨_, rfl⟩
      rw [← hx] at h1 h2 h4 h5 h6 h7 h8 hsg hps hpl htn
      obtain ⟨kd, ms, ps⟩ := x
      simp only at h1 h2 h4 h5 h6 h8 hsg hpl htn
      have htk := takes_any ⟨kd, ms, ps⟩ A' c' wr h7 ⟨by show ps.length ≤ _; omega, fun p hp => by have := hps p hp; omega⟩
      obtain ⟨S, hS⟩ : ∃ S, S = sumP ps := ⟨_, rfl⟩
      simp only [← hS] at htk hsg htn
      have HTK := Lib.hid htk
      have HSR := Lib.hid hSr
      have hsucc := Pr_succ (t := tN l) hik
      have HT := Lib.hid htn
      have HSU := Lib.hid hsucc
      clear hcs htk hS hps hx h7 hSr htn hsucc
      go_wp2_with fail
      refine HTK.out.mono ?_
      rintro e w1 ⟨rfl, hb1⟩
      have hr1 := Lib.hid (show NatB w1 w.heap.size (a * Pr (tN l) i k) ∧ NatB w1 (w.heap.size + 1) 0 ∧ Below w.heap.size w w1 from ⟨hr.out.1.keep hb1, hr.out.2.1.keep hb1, hr.out.2.2.trans (hb1.mono hr.out.2.2.size)⟩)
      clear hb1 hr q0 h3 h4 h5 h6
      by_cases hz : S = 0
      · have HT2 := Lib.hid (HT.out.trans (if_pos hz))
        subst hz
        go_wp2
        go_roundw
        case rel => exact ⟨k + 1, by go_num, by omega, by omega, by rw [HSU.out, HT2.out, Nat.mul_one]; exact hr1⟩
        case measure => simp [intOf]; omega
      · have HT2 := Lib.hid (HT.out.trans (if_neg hz))
        obtain ⟨S', rfl⟩ : ∃ S' : Nat, S = S' := ⟨S.toNat, by omega⟩
        have hs0 : 0 < S' := by omega
        clear hz
        obtain ⟨m, hm⟩ : ∃ m, m = a * Pr (tN l) i k := ⟨_, rfl⟩
        rw [← hm] at hr1
        have HM := Lib.hid hm
        clear hm
        go_wp2_with (first | (refine ld_nat rfl _ rfl _ _ rfl hr1.out.1 ?_))
        refine (nat_times m S' (by omega) _).mono ?_
        rintro e w2 ⟨rfl, hb2⟩
        have hr2 := Lib.hid (show NatB w2 w.heap.size m ∧ NatB w2 (w.heap.size + 1) 0 ∧ Below w.heap.size w w2 from ⟨hr1.out.1.keep hb2, hr1.out.2.1.keep hb2, hr1.out.2.2.trans (hb2.mono hr1.out.2.2.size)⟩)
        clear hb2
        go_wp2_with (refine st_nat rfl _ _ rfl rfl _ _ _ rfl rfl hr2.out.1 ?_; intro w3 hn hg)
        go_roundw
        case rel => exact ⟨k + 1, by go_num, by omega, by omega, by rw [HSU.out, HT2.out, ← Nat.mul_assoc, ← HM.out, Int.toNat_natCast]; exact ⟨hn, hr2.out.2.1.grown hg (by simp), below_grown hr2.out.2.2 hg (by omega) hr2.out.2.2.size⟩⟩
        case measure => simp [intOf]; omega
    · obtain rfl : k = j := by omega
      clear hSr
      go_wp2_with (first | (refine ld_nat rfl _ rfl _ _ rfl hr.out.1 ?_) | (refine st_nat rfl _ _ rfl rfl _ _ _ rfl rfl hr.out.2.1 ?_; intro w3 hn hg))
      refine bodyPost_ret (v := natV (a * Pr (tN l) i k)) (ret_nat rfl rfl hn) rfl ⟨rfl, below_grown hr.out.2.2 hg (by omega) hr.out.2.2.size⟩
set_option maxRecDepth 100000 in
set_option maxHeartbeats 1000000 in
theorem whole_any (l : List LotD) (hl : l.length ≤ 24) (hg : GoodAll l) (A : Option Addr) (c sb mb of i : Nat) (hi : i < l.length) (w0 w : World) (hS : ShIn w0 w sb mb l A c of) :
    Calls Try.prog 60 #[.pointer (some ⟨sb, 0, none⟩), .int .i64 i] w fun e w' => e = .returned (natV (Pr (tN l) 0 (i + 1))) ∧ Below w.heap.size w w' := by
  have HS := Lib.hid hS
  have HG := Lib.hid hg
  clear hS hg
  go_enter Try.func60, Try.ntmps60
  go_wp2_with fail
  rw [natZ]
  obtain ⟨W, hW⟩ : ∃ W, W = w.alloc (.cells (natC 0) 77) := ⟨_, rfl⟩
  rw [← hW]
  have h0 : Hid (NatB W w.heap.size 0 ∧ Below w.heap.size w W) := by rw [hW]; exact ⟨NB.new _ _, (by repeat' (first | (with_reducible exact Below.refl _ _) | (with_reducible assumption) | (with_reducible refine below_drewN ?_ _) | (with_reducible refine below_step (by assumption) ?_ ?_) | (with_reducible refine Below.alloc ?_ ?_ _) | (with_reducible refine Below.setCell ?_ ?_ _) | (with_reducible refine Below.drew ?_) | go_size | (exact Below.size (by assumption)) | (refine Nat.le_trans (Below.size (by assumption)) ?_)))⟩
  clear hW
  refine (small_one W).mono ?_
  rintro e w1 ⟨rfl, hb1⟩
  have h1 := Lib.hid (show NatB w1 w.heap.size 0 ∧ Below w.heap.size w w1 from ⟨h0.out.1.keep hb1, h0.out.2.trans (hb1.mono h0.out.2.size)⟩)
  clear hb1 h0
  go_wp2_with fail
  refine (scale_any l hl HG.out A c sb mb of 1 0 (i + 1) (by omega) (by omega) w0 w1 (HS.out.keep h1.out.2)).mono ?_
  rw [Nat.one_mul]
  rintro e w2 ⟨rfl, hb2⟩
  have h2 := Lib.hid (show NatB w2 w.heap.size 0 ∧ Below w.heap.size w w2 from ⟨h1.out.1.keep hb2, h1.out.2.trans (hb2.mono h1.out.2.size)⟩)
  clear hb2
  go_wp2_with (refine st_nat rfl _ _ rfl rfl _ _ _ rfl rfl h2.out.1 ?_; intro w3 hn hg)
  refine bodyPost_ret (v := natV (Pr (tN l) 0 (i + 1))) (ret_nat rfl rfl hn) rfl ⟨rfl, below_grown h2.out.2 hg (by omega) h2.out.2.size⟩
end Go.Proofs.Ytdgmpaijpjkeoaa
