/-
  sharesOf, fraction, Share.
-/
import Derived.Test.YtdgmpaijpjkeoaaLotI
namespace Go.Proofs.Ytdgmpaijpjkeoaa
open Go.RowKit
/-- What sharesOf leaves. -/
def ShNew (w : World) (l : List LotD) (A : Option Addr) (c of : Nat) (e : Ending) (w' : World) : Prop :=
  ∃ sb mb, e = .returned (.pointer (some ⟨sb, 0, none⟩)) ∧ ShIn w w' sb mb l A c of ∧ MapOK w' mb l.length (fN l of) (fun _ => false)
set_option maxRecDepth 100000 in
set_option maxHeartbeats 1000000 in
theorem sharesOf_any (l : List LotD) (A : Option Addr) (c of : Nat) (w : World) (hL : LotsIn w A l) :
    Calls Try.prog 57 #[.slice A l.length c, .int .i64 of] w (ShNew w l A c of) := by
  have hmm := @run_makeMap Try.prog
  have HL := Lib.hid hL
  clear hL
  go_enter Try.func57, Try.ntmps57
  go_wp2
  go_ret
  refine ⟨w.heap.size + 1, w.heap.size, rfl, ⟨by simp, by simp, by simp, by simp, by omega, Nat.le_refl _, by omega, HL.out, (by repeat' (first | (with_reducible exact Below.refl _ _) | (with_reducible assumption) | (with_reducible refine below_drewN ?_ _) | (with_reducible refine below_step (by assumption) ?_ ?_) | (with_reducible refine Below.alloc ?_ ?_ _) | (with_reducible refine Below.setCell ?_ ?_ _) | (with_reducible refine Below.drew ?_) | go_size | (exact Below.size (by assumption)) | (refine Nat.le_trans (Below.size (by assumption)) ?_)))⟩, (MapOK.made w l.length (fN l of)).keep ?_⟩
  exact (Below.refl _ _).alloc (Nat.le_refl _) _
/-- The valid fraction with the value n / d. -/
def frE (n d : Nat) : Int × Int × Int := if n = 0 then (0, 1, 0) else if 1048576 < d / Nat.gcd n d then (0, 0, 4) else (((n / Nat.gcd n d : Nat) : Int), ((d / Nat.gcd n d : Nat) : Int), 0)
theorem ov_big {a b : Nat} (hb : 0 < b) (h : ovf a b = false) : 1152921504606846976 ≤ a / b := by
  unfold ovf at h
  have h1 : bitsN b + 60 < bitsN a := by simpa using h
  have h2 := div_big (bitsN_bits a) (bitsN_bits b) h1
  rw [Nat.le_div_iff_mul_le hb]
  exact h2
theorem ov_small {a b : Nat} (hb : 0 < b) (hab : b ≤ a) (h : ovf a b = true) : ovq a b = ((a / b : Nat) : Int) ∧ a / b < 2305843009213693952 := by
  unfold ovf at h
  have h1 : ¬ bitsN b + 60 < bitsN a := by simpa using h
  refine ⟨by unfold ovq; rw [if_neg h1], ?_⟩
  have hM := (bitsN_bits b).mono (bitsN_bits a) hab
  have h3 := div_start (bitsN_bits a) hb (bitsN_bits b) hM
  rw [Nat.div_lt_iff_lt_mul hb]
  have : 2 ^ (bitsN a - bitsN b + 1) ≤ 2 ^ 61 := Nat.pow_le_pow_right (by decide) (by omega)
  have := Nat.mul_le_mul_right b this
  have e : (2 : Nat) ^ 61 = 2305843009213693952 := by decide
  rw [e] at this
  omega
theorem frE_large {n d : Nat} (hn : 0 < n) (hnd : n ≤ d) (h : ovf n (Nat.gcd n d) = false ∨ ovf d (Nat.gcd n d) = false) : frE n d = (0, 0, 4) := by
  have hg : 0 < Nat.gcd n d := Nat.gcd_pos_of_pos_left _ hn
  have hle : n / Nat.gcd n d ≤ d / Nat.gcd n d := Nat.div_le_div_right hnd
  unfold frE
  rw [if_neg (by omega), if_pos]
  rcases h with h | h
  · have := ov_big hg h; omega
  · have := ov_big hg h; omega
theorem frE_mk {n d : Nat} (hn : 0 < n) (hnd : n ≤ d) : mk ((n / Nat.gcd n d : Nat) : Int) ((d / Nat.gcd n d : Nat) : Int) = frE n d := by
  have hg : 0 < Nat.gcd n d := Nat.gcd_pos_of_pos_left _ hn
  have hle : n / Nat.gcd n d ≤ d / Nat.gcd n d := Nat.div_le_div_right hnd
  have hc : Nat.gcd (n / Nat.gcd n d) (d / Nat.gcd n d) = 1 := Nat.gcd_div_gcd_div_gcd_of_pos_left hn
  have hn0 : 0 < n / Nat.gcd n d := Nat.div_pos (Nat.gcd_le_left _ hn) hg
  unfold frE
  rw [if_neg (by omega)]
  generalize hA : n / Nat.gcd n d = a at *
  generalize hB : d / Nat.gcd n d = b at *
  rw [mk_int (by omega)]
  simp only [Int.natAbs_natCast, hc]
  simp only [Int.natCast_one, Int.ediv_one]
  by_cases h : 1048576 < b
  · rw [if_pos (.inr (by omega)), if_pos h]
  · rw [if_neg (by omega), if_neg h, if_neg]
    rw [decide_eq_false (by omega), decide_eq_false (by omega)]; decide
set_option maxRecDepth 100000 in
set_option maxHeartbeats 1000000 in
theorem fraction_any (n d : Nat) (p q z : Int) (hm : frE n d = (p, q, z)) (hn : n < 4294967296 ^ 20) (hd : d < 4294967296 ^ 20) (hnd : n ≤ d) (w : World) :
    Calls Try.prog 58 #[natV n, natV d] w fun e w' => e = .returned (.tuple #[.agg #[.int .i64 p, .int .i64 q], .int .i64 z]) ∧ Below w.heap.size w w' := by
  have HM := Lib.hid hm
  have HN := Lib.hid hn
  have HD := Lib.hid hd
  clear hm hn hd
  unfold natV
  obtain ⟨c, hc⟩ : ∃ c, c = natC n := ⟨_, rfl⟩
  obtain ⟨f, hf⟩ : ∃ f, f = natC d := ⟨_, rfl⟩
  rw [← hc, ← hf]
  have HC := Lib.hid hc
  have HF := Lib.hid hf
  clear hc hf
  go_enter Try.func58, Try.ntmps58
  go_upto_region 1 with fail
  rw [HC.out, HF.out]
  obtain ⟨W, hW⟩ : ∃ W, W = ((w.alloc (.cells (natC n) 77)).alloc (.cells (natC d) 77)).alloc (.cells #[.int .i64 0, .int .i64 0] 28) := ⟨_, rfl⟩
  rw [← hW]
  have h1 : Hid (NatB W w.heap.size n) := by rw [hW]; exact hp2 _ _ _ _
  have h2 : Hid (NatB W (w.heap.size + 1) d) := by rw [hW]; exact hp21 _ _ _ _
  have hb := Lib.hid (show Below w.heap.size w W by rw [hW]; exact (by repeat' (first | (with_reducible exact Below.refl _ _) | (with_reducible assumption) | (with_reducible refine below_drewN ?_ _) | (with_reducible refine below_step (by assumption) ?_ ?_) | (with_reducible refine Below.alloc ?_ ?_ _) | (with_reducible refine Below.setCell ?_ ?_ _) | (with_reducible refine Below.drew ?_) | go_size | (exact Below.size (by assumption)) | (refine Nat.le_trans (Below.size (by assumption)) ?_))))
  have hx : Box2 W (w.heap.size + 1 + 1) (.int .i64 0) (.int .i64 0) := by rw [hW]; exact Box2.new2 _ _ _ _ _ _
  clear hW
  by_cases hz : n = 0
  · subst hz
    have HE := Lib.hid (HM.out.symm.trans (show frE 0 d = (0, 1, 0) from rfl))
    obtain ⟨x0, x1, x2, x3, x4⟩ := id hx
    go_wp2_with (first | (refine ld_nat rfl _ rfl _ _ rfl h1.out ?_) | refine eq_nat rfl _ _ _ rfl _ _ true rfl natZV (by decide) (by decide) rfl ?_)
    refine bodyPost_ret (v := .tuple #[.agg #[.int .i64 (0), .int .i64 (1)], .int .i64 (0)]) (by simp only [results, Try.results58]; go_simp) rfl ⟨?_, ?_⟩
    · exact ret_rat HE.out.symm
    · exact (hb.out.setCell (by simp; omega) _).setCell (by simp; omega) _
  · have hn0 : 0 < n := by omega
    have hd0 : 0 < d := by omega
    obtain ⟨g, hg⟩ : ∃ g, g = Nat.gcd n d := ⟨_, rfl⟩
    have hg0 : 0 < g := by rw [hg]; exact Nat.gcd_pos_of_pos_left _ hn0
    have hgn : g ≤ n := by rw [hg]; exact Nat.gcd_le_left _ hn0
    have hgl := Lib.hid (Nat.lt_of_le_of_lt hgn HN.out)
    have hlarge := fun h => (frE_large hn0 hnd h).symm.trans HM.out
    have hmk := (frE_mk hn0 hnd).trans HM.out
    rw [← hg] at hlarge hmk
    have HL := Lib.hid hlarge
    have HK := Lib.hid hmk
    have HG := Lib.hid hg
    have hdz : decide (n = 0) = false := decide_eq_false hz
    have HDZ := Lib.hid hdz
    clear hz hg hlarge hmk hdz
    go_wp2_with (first | (refine ld_nat rfl _ rfl _ _ rfl h1.out ?_) | refine eq_nat rfl _ _ _ rfl _ _ false rfl natZV HN.out (by decide) HDZ.out ?_ | (refine ld_nat rfl _ rfl _ _ rfl h2.out ?_))
    refine (nat_gcd n d HN.out HD.out hn0 hd0 _).mono ?_
    rw [← HG.out]
    rintro e w1 ⟨rfl, hb1⟩
    have i1 := Lib.hid (h1.out.keep hb1)
    have i2 := Lib.hid (h2.out.keep hb1)
    have ib := Lib.hid (hb.out.trans (hb1.mono hb.out.size))
    have ix : Box2 w1 (w.heap.size + 1 + 1) (.int .i64 0) (.int .i64 0) := hx.keep hb1
    clear hb1 hx h1 h2 hb
    go_upto_region 4 with (refine st_nat rfl _ _ rfl rfl _ _ _ rfl rfl (show NatB _ w1.heap.size 0 by rw [natZ]; exact NB.new _ _) ?_; intro w2 hn2 hg2)
    have hb2 : Below w1.heap.size w1 w2 := below_grown ((Below.refl _ _).alloc (Nat.le_refl _) _) hg2 (Nat.le_refl _) (by simp)
    have j1 := Lib.hid (i1.out.keep hb2)
    have j2 := Lib.hid (i2.out.keep hb2)
    have j3 := Lib.hid hn2
    have jb := Lib.hid (ib.out.trans (hb2.mono ib.out.size))
    have jx : Box2 w2 (w.heap.size + 1 + 1) (.int .i64 0) (.int .i64 0) := ix.keep hb2
    clear hb2 hn2 hg2 ix i1 i2 ib
    obtain ⟨Q1, hQ1⟩ : ∃ Q1, Q1 = ovq n g := ⟨_, rfl⟩
    obtain ⟨F1, hF1⟩ : ∃ F1, F1 = ovf n g := ⟨_, rfl⟩
    obtain ⟨Q2, hQ2⟩ : ∃ Q2, Q2 = ovq d g := ⟨_, rfl⟩
    obtain ⟨F2, hF2⟩ : ∃ F2, F2 = ovf d g := ⟨_, rfl⟩
    have HQ1 := Lib.hid hQ1
    have HF1 := Lib.hid hF1
    have HQ2 := Lib.hid hQ2
    have HF2 := Lib.hid hF2
    have hgd : g ≤ d := by omega
    clear hQ1 hF1 hQ2 hF2
    go_wp2_with (first | (refine ld_nat rfl _ rfl _ _ rfl j1.out ?_) | (refine ld_nat rfl _ rfl _ _ rfl j3.out ?_))
    refine (nat_over n g HN.out hgl.out hg0 hgn _).mono ?_
    rw [← HQ1.out, ← HF1.out]
    rintro e w3 ⟨rfl, hb3⟩
    have k2 := Lib.hid (j2.out.keep hb3)
    have k3 := Lib.hid (j3.out.keep hb3)
    have kb := Lib.hid (jb.out.trans (hb3.mono jb.out.size))
    have kx : Box2 w3 (w.heap.size + 1 + 1) (.int .i64 0) (.int .i64 0) := jx.keep hb3
    clear hb3 jx j1 j2 j3 jb
    go_wp2_with (first | (refine ld_nat rfl _ rfl _ _ rfl k2.out ?_) | (refine ld_nat rfl _ rfl _ _ rfl k3.out ?_))
    refine (nat_over d g HD.out hgl.out hg0 hgd _).mono ?_
    rw [← HQ2.out, ← HF2.out]
    rintro e w4 ⟨rfl, hb4⟩
    have lb := Lib.hid (kb.out.trans (hb4.mono kb.out.size))
    have lx : Box2 w4 (w.heap.size + 1 + 1) (.int .i64 0) (.int .i64 0) := kx.keep hb4
    clear hb4 kx k2 k3 kb
    obtain ⟨x0, x1, x2, x3, x4⟩ := id lx
    cases F1 with
    | false =>
      have HE := Lib.hid (HL.out (.inl HF1.out.symm))
      go_wp2
      refine bodyPost_ret (v := .tuple #[.agg #[.int .i64 (0), .int .i64 (0)], .int .i64 (4)]) (by simp only [results, Try.results58]; go_simp) rfl ⟨?_, ?_⟩
      · exact ret_rat HE.out
      · exact (lb.out.setCell (by simp; omega) _).setCell (by simp; omega) _
    | true =>
      cases F2 with
      | false =>
        have HE := Lib.hid (HL.out (.inr HF2.out.symm))
        go_wp2
        refine bodyPost_ret (v := .tuple #[.agg #[.int .i64 (0), .int .i64 (0)], .int .i64 (4)]) (by simp only [results, Try.results58]; go_simp) rfl ⟨?_, ?_⟩
        · exact ret_rat HE.out
        · exact (lb.out.setCell (by simp; omega) _).setCell (by simp; omega) _
      | true =>
        obtain ⟨e1, b1⟩ := ov_small hg0 hgn HF1.out.symm
        obtain ⟨e2, b2⟩ := ov_small hg0 hgd HF2.out.symm
        rw [← HQ1.out] at e1
        rw [← HQ2.out] at e2
        have HK2 := Lib.hid (show mk Q1 Q2 = (p, q, z) by rw [e1, e2]; exact HK.out)
        have c1 : 0 ≤ Q1 ∧ Q1 ≤ 2305843009213693952 := by rw [e1]; exact ⟨Int.natCast_nonneg _, Int.ofNat_le.2 (Nat.le_of_lt b1)⟩
        have c2 : 0 ≤ Q2 ∧ Q2 ≤ 2305843009213693952 := by rw [e2]; exact ⟨Int.natCast_nonneg _, Int.ofNat_le.2 (Nat.le_of_lt b2)⟩
        clear e1 e2 b1 b2
        go_wp2_with fail
        refine (make_any Q1 Q2 p q z HK2.out (by omega) (by omega) (by omega) (by omega) _).mono ?_
        rintro e w5 ⟨rfl, hb5⟩
        have mb := Lib.hid (lb.out.trans (hb5.mono lb.out.size))
        obtain ⟨y0, y1, y2, y3, y4⟩ := lx.keep hb5
        clear hb5 lb lx x0 x1 x2 x3 x4
        go_wp2
        refine bodyPost_ret (v := .tuple #[.agg #[.int .i64 (p), .int .i64 (q)], .int .i64 (z)]) (by simp only [results, Try.results58]; go_simp) rfl ⟨?_, ?_⟩
        · rfl
        · exact (mb.out.setCell (by simp; omega) _).setCell (by simp; omega) _
theorem Box2.grown {w w' : World} {b m : Nat} {x y : Value} (h : Box2 w b x y) (hg : w.grownBy w' (some m)) (hne : b ≠ m) : Box2 w' b x y := by
  obtain ⟨h1, h2, h3, h4, h5⟩ := h
  have hh := hg.block b h5 (by simpa using hne)
  exact ⟨(World.cell?_of_block (a := ⟨b, 0, none⟩) hh).trans h1, (World.cell?_of_block (a := ⟨b, 1, none⟩) hh).trans h2, (World.frozen?_of_block (a := ⟨b, 0, none⟩) hh).trans h3, (World.frozen?_of_block (a := ⟨b, 1, none⟩) hh).trans h4, Nat.lt_of_lt_of_le h5 hg.size⟩
/-- Which share. -/
def shE (l : List LotD) (of i : Int) : Int × Int × Int := if chkE l [of, i] ≠ 0 then (0, 0, chkE l [of, i]) else frE (fN l of.toNat i.toNat) (Pr (tN l) 0 (i.toNat + 1))
theorem chk_zero {l : List LotD} {xs : List Int} (h : chkE l xs = 0) : GoodL l ∧ ∀ x ∈ xs, 0 ≤ x ∧ x < l.length := by
  unfold chkE at h
  split at h
  · contradiction
  · rename_i hv
    split at h
    · rename_i hall
      refine ⟨valE_zero (by simpa using hv), fun x hx => ?_⟩
      have := List.all_eq_true.1 hall x hx
      simpa [inL] using this
    · cases h
theorem isL_two (W : World) (x y : Int) (t : TypeId) : IsL (W.alloc (.cells #[.int .i64 x, .int .i64 y] t)) (some ⟨W.heap.size, 0, none⟩) 2 [x, y] :=
  ⟨rfl, fun _ => ⟨W.heap.size, 0, rfl, by simp, fun i hi => by
    rcases i with _ | _ | i
    · simp
    · simp
    · omega⟩⟩
set_option maxRecDepth 100000 in
set_option maxHeartbeats 1000000 in
theorem share_any (l : List LotD) (hl : l.length ≤ 1000) (hps : ∀ x ∈ l, x.parts.length ≤ 1000) (of i p q z : Int) (hm : shE l of i = (p, q, z)) (hof : -9223372036854775808 ≤ of) (kof : of ≤ 9223372036854775807) (hi : -9223372036854775808 ≤ i) (ki : i ≤ 9223372036854775807) (A : Option Addr) (c : Nat) (w : World) (hL : LotsIn w A l) :
    Calls Try.prog 17 #[.slice A l.length c, .int .i64 of, .int .i64 i] w fun e w' => e = .returned (.tuple #[.agg #[.int .i64 p, .int .i64 q], .int .i64 z]) ∧ Below w.heap.size w w' := by
  have HM := Lib.hid hm
  have HL := Lib.hid hL
  have HPS := Lib.hid hps
  clear hm hL hps
  go_enter Try.func17, Try.ntmps17
  go_wp2_with fail
  obtain ⟨W, hW⟩ : ∃ W, W = (w.alloc (.cells #[.int .i64 0, .int .i64 0] 28)).alloc (.cells #[.int .i64 of, .int .i64 i] 3) := ⟨_, rfl⟩
  rw [← hW]
  have hb := Lib.hid (show Below w.heap.size w W by rw [hW]; exact (by repeat' (first | (with_reducible exact Below.refl _ _) | (with_reducible assumption) | (with_reducible refine below_drewN ?_ _) | (with_reducible refine below_step (by assumption) ?_ ?_) | (with_reducible refine Below.alloc ?_ ?_ _) | (with_reducible refine Below.setCell ?_ ?_ _) | (with_reducible refine Below.drew ?_) | go_size | (exact Below.size (by assumption)) | (refine Nat.le_trans (Below.size (by assumption)) ?_))))
  have hx : Box2 W w.heap.size (.int .i64 0) (.int .i64 0) := by rw [hW]; exact (Box2.new _ _ _ _).alloc _
  have hI := Lib.hid (show IsL W (some ⟨w.heap.size + 1, 0, none⟩) 2 [of, i] by
    rw [hW]
    have := isL_two (w.alloc (.cells #[.int .i64 0, .int .i64 0] 28)) of i 3
    rwa [World.size_alloc] at this)
  clear hW
  obtain ⟨E, hE⟩ : ∃ E, E = chkE l [of, i] := ⟨_, rfl⟩
  have HE := Lib.hid hE
  clear hE
  refine (check_any l hl HPS.out A c _ 2 2 [of, i] W (HL.out.below hb.out) hI.out (by omega) (fun x hx => by simp at hx; rcases hx with rfl | rfl <;> exact ⟨by omega, by omega⟩)).mono ?_
  rw [← HE.out]
  rintro e w1 ⟨rfl, hb1⟩
  have ib := Lib.hid (hb.out.trans (hb1.mono hb.out.size))
  have ix := hx.keep hb1
  clear hb1 hx hI hb
  by_cases hz : E = 0
  · subst hz
    have hm2 := HM.out
    unfold shE at hm2
    rw [if_neg (by rw [← HE.out]; decide)] at hm2
    obtain ⟨hgl, hin⟩ := chk_zero HE.out.symm
    have h1 := hin of (by simp)
    have h2 := hin i (by simp)
    obtain ⟨of, rfl⟩ : ∃ n : Nat, of = n := ⟨of.toNat, by omega⟩
    obtain ⟨i, rfl⟩ : ∃ n : Nat, i = n := ⟨i.toNat, by omega⟩
    rw [Int.toNat_natCast, Int.toNat_natCast] at hm2
    have HM2 := Lib.hid hm2
    have HG := Lib.hid hgl.lot
    have hl24 := hgl.len
    have hi : i < l.length := by omega
    clear hm2 hgl hin h1 h2
    go_wp2_with fail
    refine (sharesOf_any l A c of w1 (HL.out.below ib.out)).mono ?_
    rintro e w2 ⟨sb, mb, rfl, hS, hM⟩
    have HS := Lib.hid hS
    have HMM := Lib.hid hM
    have jb := Lib.hid (ib.out.trans (hS.b.mono ib.out.size))
    have jx := ix.keep hS.b
    have hw1 := ix.2.2.2.2
    clear hS hM ix
    go_wp2_with fail
    refine (in_any l hl24 HG.out A c sb mb of w1 i hi w2 (fun _ => false) HS.out HMM.out).mono ?_
    rintro e w3 ⟨rfl, hg3, -⟩
    have HS3 := Lib.hid (HS.out.grown hg3 HS.out.ne HS.out.s3)
    have kx : Box2 w3 w.heap.size (.int .i64 0) (.int .i64 0) := jx.grown hg3 (by have := HS.out.s3; omega)
    have kb := Lib.hid (ib.out.trans (HS3.out.b.mono ib.out.size))
    clear jx jb HS HMM hg3 ib
    go_wp2_with fail
    refine (whole_any l hl24 HG.out A c sb mb of i hi w1 w3 HS3.out).mono ?_
    rintro e w4 ⟨rfl, hb4⟩
    have lx := kx.keep hb4
    have lb := Lib.hid (kb.out.trans (hb4.mono kb.out.size))
    clear kx kb HS3 hb4
    go_wp2_with fail
    refine (fraction_any _ _ p q z HM2.out (fN_lt HG.out hl24 of hi) (Nat.lt_of_le_of_lt (pr_big HG.out hl24 (show i + 1 ≤ l.length by omega)) big_lt) (fN_le HG.out of i) _).mono ?_
    rintro e w5 ⟨rfl, hb5⟩
    have mb := Lib.hid (lb.out.trans (hb5.mono lb.out.size))
    obtain ⟨y0, y1, y2, y3, y4⟩ := lx.keep hb5
    clear hb5 lb lx
    go_wp2
    refine bodyPost_ret (v := .tuple #[.agg #[.int .i64 (p), .int .i64 (q)], .int .i64 (z)]) (by simp only [results, Try.results17]; go_simp) rfl ⟨?_, ?_⟩
    · rfl
    · exact (mb.out.setCell (by simp) _).setCell (by simp) _
  · have hm2 := HM.out
    unfold shE at hm2
    rw [if_pos (by rw [← HE.out]; exact hz), ← HE.out] at hm2
    have HM2 := Lib.hid hm2
    obtain ⟨x0, x1, x2, x3, x4⟩ := ix
    have d1 : (E == 0) = false := by rw [beq_eq_false_iff_ne]; exact hz
    have d2 : (E != 0) = true := by rw [bne_iff_ne]; exact hz
    clear hm2 hz
    go_wp2
    refine bodyPost_ret (v := .tuple #[.agg #[.int .i64 (0), .int .i64 (0)], .int .i64 (E)]) (by simp only [results, Try.results17]; go_simp) rfl ⟨?_, ?_⟩
    · exact ret_rat HM2.out
    · exact (ib.out.setCell (by simp) _).setCell (by simp) _
end Go.Proofs.Ytdgmpaijpjkeoaa
