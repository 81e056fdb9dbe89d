/-
  against: a share and a fraction.
-/
import Derived.Test.YtdgmpaijpjkeoaaLotJ
import Derived.Test.YtdgmpaijpjkeoaaMixB
import Derived.Test.YtdgmpaijpjkeoaaRegC
import Derived.Test.YtdgmpaijpjkeoaaLotP
import Derived.Test.YtdgmpaijpjkeoaaNumG
namespace Go.Proofs.Ytdgmpaijpjkeoaa
open Go.RowKit
attribute [local go_sem] grow_cell grow_frozen
theorem and_low {r : Nat} (h : r < 4611686018427387904) : bits BinOp.and .i64 (r : Int) 1048575 = ((r % 1048576 : Nat) : Int) := by
  have h1 : (BitVec.ofInt 64 (r : Int)).toNat = r := by
    rw [BitVec.ofInt_natCast, BitVec.toNat_ofNat]; exact Nat.mod_eq_of_lt (by omega)
  have h2 : (BitVec.ofInt 64 (1048575 : Int)).toNat = 1048575 := by decide
  have h3 : r &&& 1048575 = r % 1048576 := Nat.and_two_pow_sub_one_eq_mod r 20
  show IntKind.i64.wrap ((BitVec.ofInt 64 (r : Int) &&& BitVec.ofInt 64 (1048575 : Int)).toNat : Int) = _
  rw [BitVec.toNat_and, h1, h2, h3]
  exact IntWalk.i64_in _ ⟨by omega, by omega⟩
theorem cmp_bd {a b : Nat} (ha : a ≤ 600000 ^ 24) (hb : b ≤ 1099511627776) : a * b < 4294967296 ^ 20 :=
  Nat.lt_of_le_of_lt (Nat.mul_le_mul ha hb) (by decide +kernel)
/-- How the share of the lot of in the lot i compares with a valid fraction. -/
def agE (l : List LotD) (of i : Nat) (rn rd : Int) : Int := if rn < 0 then 1 else cmpN (fN l of i * rd.toNat) (Pr (tN l) 0 (i + 1) * rn.toNat)
set_option maxRecDepth 100000 in
set_option maxHeartbeats 1000000 in
theorem against_any (l : List LotD) (hl : l.length ≤ 24) (hg : GoodAll l) (A : Option Addr) (c sb mb of : Nat) (w0 : World) (i : Nat) (hi : i < l.length) (rn rd : Int) (hv : vld rn rd = true) (w : World) (K : Nat → Bool) (hS : ShIn w0 w sb mb l A c of) (hM : MapOK w mb l.length (fN l of) K) :
    Calls Try.prog 79 #[.pointer (some ⟨sb, 0, none⟩), .int .i64 i, .agg #[.int .i64 rn, .int .i64 rd]] w fun e w' => e = .returned (.int .i64 (agE l of i rn rd)) ∧ w.grownBy w' (some mb) ∧ ∃ K', MapOK w' mb l.length (fN l of) K' ∧ ∀ j, i < j → K' j = K j := by
  obtain ⟨v1, v2, v3, v4, -⟩ := vld_iff.1 hv
  have HG := Lib.hid hg
  have HS := Lib.hid hS
  have HM := Lib.hid hM
  have hmw := hM.lt
  have hsbw := hS.s1
  clear hg hS hM hv
  go_enter Try.func79, Try.ntmps79
  go_upto_region 1 with fail
  obtain ⟨W, hW⟩ : ∃ W, W = w.alloc (.cells #[.int .i64 rn, .int .i64 rd] 28) := ⟨_, rfl⟩
  rw [← hW]
  have hb := Lib.hid (show Below w.heap.size w W by rw [hW]; exact (by repeat' (first | (with_reducible exact Below.refl _ _) | (with_reducible assumption) | (with_reducible refine below_drewN ?_ _) | (with_reducible refine below_step (by assumption) ?_ ?_) | (with_reducible refine Below.alloc ?_ ?_ _) | (with_reducible refine Below.setCell ?_ ?_ _) | (with_reducible refine Below.drew ?_) | go_size | (exact Below.size (by assumption)) | (refine Nat.le_trans (Below.size (by assumption)) ?_))))
  have hx : Box2 W w.heap.size (.int .i64 rn) (.int .i64 rd) := by rw [hW]; exact Box2.new _ _ _ _
  clear hW
  by_cases hneg : rn < 0
  · have HE := Lib.hid (show agE l of i rn rd = 1 from if_pos hneg)
    obtain ⟨x0, x1, x2, x3, x4⟩ := id hx
    go_wp2
    go_ret
    exact ⟨by rw [HE.out]; rfl, grown_below hb.out _, K, HM.out.keep hb.out, fun _ _ => rfl⟩
  · have HE := Lib.hid (show agE l of i rn rd = cmpN (fN l of i * rd.toNat) (Pr (tN l) 0 (i + 1) * rn.toNat) from if_neg hneg)
    obtain ⟨r, rfl⟩ : ∃ n : Nat, rn = n := ⟨rn.toNat, by omega⟩
    obtain ⟨d, rfl⟩ : ∃ n : Nat, rd = n := ⟨rd.toNat, by omega⟩
    rw [Int.toNat_natCast, Int.toNat_natCast] at HE
    obtain ⟨x0, x1, x2, x3, x4⟩ := id hx
    go_upto_region 3 with fail
    refine region_grow (by kernel_rfl) (by kernel_rfl) ?_
    repeat (go_big_quiet_step (fail))
    refine wpQuiet_nil ?_
    rintro w1 ⟨xg, hxg⟩
    have hb1 := below_grow W xg
    rw [← hxg] at hb1
    clear hxg xg
    rw [and_low (r := r) (by omega), show (r : Int) / 1048576 = ((r / 1048576 : Nat) : Int) by omega]
    have hsplit : r / 1048576 * 1048576 + r % 1048576 = r := by omega
    obtain ⟨hh, hhd⟩ : ∃ hh, hh = r / 1048576 := ⟨_, rfl⟩
    obtain ⟨lo, hlo⟩ : ∃ lo, lo = r % 1048576 := ⟨_, rfl⟩
    rw [← hhd, ← hlo] at hsplit ⊢
    have bh : hh ≤ 1048576 := by omega
    have bl : lo < 1048576 := by omega
    have ib := Lib.hid (hb.out.trans (hb1.mono hb.out.size))
    have ix := hx.keep hb1
    clear hhd hlo hb1 hb hx x0 x1 x2 x3 x4
    go_wp2_with fail
    refine (whole_any l hl HG.out A c sb mb of i hi w0 w1 (HS.out.keep ib.out)).mono ?_
    rintro e w2 ⟨rfl, hb2⟩
    have jb := Lib.hid (ib.out.trans (hb2.mono ib.out.size))
    have jx := ix.keep hb2
    obtain ⟨D, hD⟩ : ∃ D, D = Pr (tN l) 0 (i + 1) := ⟨_, rfl⟩
    obtain ⟨N, hN⟩ : ∃ N, N = fN l of i := ⟨_, rfl⟩
    rw [← hD, ← hN] at HE
    rw [← hD]
    have HDD := Lib.hid hD
    have HNN := Lib.hid hN
    clear hb2 ib ix hD hN
    go_upto_region 5 with (refine st_nat rfl _ _ rfl rfl _ _ _ rfl rfl (show NatB _ w2.heap.size 0 by rw [natZ]; exact NB.new _ _) ?_; intro w3 hn3 hg3)
    have hb3 : Below w2.heap.size w2 w3 := below_grown ((Below.refl _ _).alloc (Nat.le_refl _) _) hg3 (Nat.le_refl _) (by simp)
    have kb := Lib.hid (jb.out.trans (hb3.mono jb.out.size))
    have kx := jx.keep hb3
    have S3 := Lib.hid (HS.out.keep kb.out)
    have M3 := Lib.hid (HM.out.keep kb.out)
    have hz2 := jb.out.size
    have hN3 := Lib.hid hn3
    clear hg3 hb3 jx hn3
    obtain ⟨k0, k1, k2, k3, k4⟩ := kx
    have c1 : ∀ x : CW w3 mb l.length (fN l of) K (i + 1), x.w.cell? ⟨w.heap.size, 1, none⟩ = some (.int .i64 d) := cw_cell k1 (by show mb ≠ w.heap.size; omega)
    have cn : Hid (∀ w', (∃ x : CW w3 mb l.length (fN l of) K (i + 1), w' = x.w) → NatB w' w2.heap.size D) := Lib.hid (cw_nat hN3.out (by omega))
    have hC : CIn w3 mb l.length (fN l of) K (i + 1) { w3 with drawn := w3.drawn + 1 } := ⟨⟨rfl, rfl, rfl, Nat.le_refl _, fun _ _ _ => rfl⟩, K, M3.out, fun _ _ => rfl⟩
    haveI : Nonempty (CW w3 mb l.length (fN l of) K (i + 1)) := ⟨⟨_, hC⟩⟩
    have hin := fun x : CW w3 mb l.length (fN l of) K (i + 1) => cw_in (in_any l hl HG.out A c sb mb of w0 i hi) (Nat.lt_succ_self i) S3.out x
    rw [← HNN.out] at hin
    have HIN := Lib.hid hin
    have T1 := Lib.hid (fun w => nat_times N d (by omega) w)
    have T2 := Lib.hid (fun w => nat_times D hh (by omega) w)
    have T3 := Lib.hid (fun w => (show Calls Try.prog 89 #[natV (D * hh), .int .i64 1048576] w fun e w' => e = .returned (natV (D * hh * 1048576)) ∧ Below w.heap.size w w' from nat_times (D * hh) 1048576 (by decide) w))
    have T4 := Lib.hid (fun w => nat_times D lo (by omega) w)
    have T5 := Lib.hid (fun w => nat_plus (D * hh * 1048576) (D * lo) w)
    have hD1 : D ≤ 600000 ^ 24 := by rw [HDD.out]; exact pr_big HG.out hl (show i + 1 ≤ l.length by omega)
    have hN1 : N ≤ D := by rw [HDD.out, HNN.out]; exact fN_le HG.out of i
    have e5 : D * hh * 1048576 + D * lo = D * r := by rw [Nat.mul_assoc, ← Nat.mul_add, hsplit]
    have hT6 := fun w => nat_compare (N * d) (D * hh * 1048576 + D * lo) (cmp_bd (Nat.le_trans hN1 hD1) (by omega)) (by rw [e5]; exact cmp_bd hD1 (by omega)) w
    rw [e5, ← HE.out] at hT6
    rw [← e5] at hT6
    have T6 := Lib.hid hT6
    clear hin hT6 e5 hD1 hN1 k0 k1 k2 k3 k4
    refine wp_region_quiet (C := fun w' => ∃ x : CW w3 mb l.length (fN l of) K (i + 1), w' = x.w) (by kernel_rfl) (by kernel_rfl) ⟨⟨_, hC⟩, rfl⟩ ?_
    dsimp only
    repeat (first | (go_big_quiet_want; refine quiet_ld_nat _ rfl _ _ rfl cn.out ?_; go_simp; go_big_quiet_on) | go_big_quiet_step ((first | (go_at_call 59; exact HIN.out _) | (go_at_call 89; (first | (with_reducible exact cw_below (T1.out _)) | (with_reducible exact cw_below (T2.out _)) | (with_reducible exact cw_below (T3.out _)) | (with_reducible exact cw_below (T4.out _)))) | (go_at_call 77; exact cw_below (T5.out _)) | (go_at_call 103; exact cw_below (T6.out _)))))
    refine wpQuiet_nil ?_
    rintro w4 ⟨y, rfl⟩
    have hy := Lib.hid y.2
    obtain ⟨w4, hw4⟩ : ∃ w4, w4 = y.w := ⟨_, rfl⟩
    have hy2 := Lib.hid (show CIn w3 mb l.length (fN l of) K (i + 1) w4 by rw [hw4]; exact y.2)
    rw [← hw4]
    clear hw4 hy c1 cn hC y
    go_wp2
    go_ret
    obtain ⟨g1, K', m1, m2⟩ := hy2.out
    exact ⟨rfl, grown_trans (grown_below kb.out _) g1, K', m1, fun j hj => m2 j (by omega)⟩
/-- The answer of CompareShare. -/
def csE (l : List LotD) (of i rn rd : Int) : Int × Int := if chkE l [of, i] ≠ 0 then (0, chkE l [of, i]) else if vld rn rd = true then (agE l of.toNat i.toNat rn rd, 0) else (0, 1)
set_option maxRecDepth 100000 in
set_option maxHeartbeats 1000000 in
theorem compareShare_any (l : List LotD) (hl : l.length ≤ 1000) (hps : ∀ x ∈ l, x.parts.length ≤ 1000) (of i rn rd v z : Int) (hm : csE l of i rn rd = (v, z)) (hof : -9223372036854775808 ≤ of) (kof : of ≤ 9223372036854775807) (hi : -9223372036854775808 ≤ i) (ki : i ≤ 9223372036854775807) (hrn : -9223372036854775808 ≤ rn) (krn : rn ≤ 9223372036854775807) (hrd : -9223372036854775808 ≤ rd) (krd : rd ≤ 9223372036854775807) (A : Option Addr) (c : Nat) (w : World) (hL : LotsIn w A l) :
    Calls Try.prog 47 #[.slice A l.length c, .int .i64 of, .int .i64 i, .agg #[.int .i64 rn, .int .i64 rd]] w fun e w' => e = .returned (.tuple #[.int .i64 v, .int .i64 z]) ∧ Below w.heap.size w w' := by
  have HM := Lib.hid hm
  have HL := Lib.hid hL
  have HPS := Lib.hid hps
  clear hm hL hps
  go_enter Try.func47, Try.ntmps47
  go_wp2_with fail
  obtain ⟨W, hW⟩ : ∃ W, W = (w.alloc (.cells #[.int .i64 rn, .int .i64 rd] 28)).alloc (.cells #[.int .i64 of, .int .i64 i] 3) := ⟨_, rfl⟩
  rw [← hW]
  have hb := Lib.hid (show Below w.heap.size w W by rw [hW]; exact (by repeat' (first | (with_reducible exact Below.refl _ _) | (with_reducible assumption) | (with_reducible refine below_drewN ?_ _) | (with_reducible refine below_step (by assumption) ?_ ?_) | (with_reducible refine Below.alloc ?_ ?_ _) | (with_reducible refine Below.setCell ?_ ?_ _) | (with_reducible refine Below.drew ?_) | go_size | (exact Below.size (by assumption)) | (refine Nat.le_trans (Below.size (by assumption)) ?_))))
  have hx : Box2 W w.heap.size (.int .i64 rn) (.int .i64 rd) := by rw [hW]; exact (Box2.new _ _ _ _).alloc _
  have hI := Lib.hid (show IsL W (some ⟨w.heap.size + 1, 0, none⟩) 2 [of, i] by
    rw [hW]
    have := isL_two (w.alloc (.cells #[.int .i64 rn, .int .i64 rd] 28)) of i 3
    rwa [World.size_alloc] at this)
  clear hW
  obtain ⟨E, hE⟩ : ∃ E, E = chkE l [of, i] := ⟨_, rfl⟩
  have HE := Lib.hid hE
  clear hE
  refine (check_any l hl HPS.out A c _ 2 2 [of, i] W (HL.out.below hb.out) hI.out (by omega) (fun x hx => by simp at hx; rcases hx with rfl | rfl <;> exact ⟨by omega, by omega⟩)).mono ?_
  rw [← HE.out]
  rintro e w1 ⟨rfl, hb1⟩
  have ib := Lib.hid (hb.out.trans (hb1.mono hb.out.size))
  have ix := hx.keep hb1
  clear hb1 hx hI hb
  by_cases hz : E = 0
  · subst hz
    have hm2 := HM.out
    unfold csE at hm2
    rw [if_neg (by rw [← HE.out]; decide)] at hm2
    obtain ⟨hgl, hin⟩ := chk_zero HE.out.symm
    have h1 := hin of (by simp)
    have h2 := hin i (by simp)
    obtain ⟨of, rfl⟩ : ∃ n : Nat, of = n := ⟨of.toNat, by omega⟩
    obtain ⟨i, rfl⟩ : ∃ n : Nat, i = n := ⟨i.toNat, by omega⟩
    rw [Int.toNat_natCast, Int.toNat_natCast] at hm2
    have HM1 := Lib.hid hm2
    have HG := Lib.hid hgl.lot
    have hl24 := hgl.len
    have hi : i < l.length := by omega
    obtain ⟨V, hV⟩ : ∃ V, V = vld rn rd := ⟨_, rfl⟩
    have HV := Lib.hid hV
    clear hm2 hgl hin h1 h2 hV
    obtain ⟨x0, x1, x2, x3, x4⟩ := id ix
    go_wp2_with fail
    refine (valid_any rn rd (by omega) (by omega) (by omega) (by omega) w1).mono ?_
    rw [← HV.out]
    rintro e w2 ⟨rfl, hb2⟩
    have jb := Lib.hid (ib.out.trans (hb2.mono ib.out.size))
    have jx := ix.keep hb2
    clear hb2 ix ib x0 x1 x2 x3 x4
    cases V with
    | false =>
      have HM2 := Lib.hid (show ((0 : Int), (1 : Int)) = (v, z) by have := HM1.out; rwa [if_neg (by rw [← HV.out]; decide)] at this)
      go_wp2
      refine bodyPost_ret (v := .tuple #[.int .i64 (v), .int .i64 (z)]) (by simp only [results, Try.results47]; go_simp; exact Prod.mk.inj HM2.out) rfl ⟨rfl, ?_⟩
      exact jb.out
    | true =>
      have HM2 := Lib.hid (show (agE l of i rn rd, (0 : Int)) = (v, z) by have := HM1.out; rwa [if_pos HV.out.symm] at this)
      obtain ⟨G, hG⟩ : ∃ G, G = agE l of i rn rd := ⟨_, rfl⟩
      rw [← hG] at HM2
      have HGG := Lib.hid hG
      clear hG
      obtain ⟨x0, x1, x2, x3, x4⟩ := id jx
      go_upto_region 6 with fail
      refine region_pick (C := fun w' => ∃ x, w' = grow w2 x) [0, 1, 3, 4] [2, 5, 6, 7] (by kernel_rfl) (by kernel_rfl) (grow_start w2) ?_
      simp only [pickL, List.getElem?_cons_zero, List.getElem?_cons_succ]
      repeat (go_big_quiet_step (fail))
      refine wpQuiet_nil ?_
      rintro w3 ⟨xg, hxg⟩
      have hb3 := below_grow w2 xg
      rw [← hxg] at hb3
      refine plain_call 57 #[.slice A l.length c, .int .i64 of] rfl (by go_simp) ⟨xg, hxg⟩ ?_
      refine (sharesOf_any l A c of w3 ((HL.out.below jb.out).below hb3)).mono ?_
      rintro e w4 ⟨sb, mb, rfl, hS, hM⟩
      refine ⟨_, rfl, ?_⟩
      have hb4 := hb3.trans (hS.b.mono hb3.size)
      refine plain_call 79 #[.pointer (some ⟨sb, 0, none⟩), .int .i64 i, .agg #[.int .i64 rn, .int .i64 rd]] rfl (by go_simp) (grow_of_below hb4) ?_
      refine (against_any l hl24 HG.out A c sb mb of w3 i hi rn rd HV.out.symm w4 _ hS hM).mono ?_
      rintro e w5 ⟨rfl, hg5, -⟩
      rw [← HGG.out]
      refine ⟨_, rfl, ?_⟩
      have hb5 : Below w2.heap.size w2 w5 := below_grown hb4 hg5 (Nat.le_trans hb3.size hS.s3) hb4.size
      refine plain_assign _ rfl rfl (grow_of_below hb5) ?_
      refine plain_assign _ rfl rfl (grow_of_below hb5) ?_
      refine ⟨grow_of_below hb5, ?_⟩
      have lb := Lib.hid (jb.out.trans (hb5.mono jb.out.size))
      clear hxg hb3 hS hM hb4 hg5 hb5 x0 x1 x2 x3 x4 jx jb
      go_simp
      go_wp2
      refine bodyPost_ret (v := .tuple #[.int .i64 (v), .int .i64 (z)]) (by simp only [results, Try.results47]; go_simp; exact Prod.mk.inj HM2.out) rfl ⟨rfl, ?_⟩
      exact lb.out
  · have hm2 := HM.out
    unfold csE at hm2
    rw [if_pos (by rw [← HE.out]; exact hz), ← HE.out] at hm2
    have HM2 := Lib.hid hm2
    have d1 : (E == 0) = false := by rw [beq_eq_false_iff_ne]; exact hz
    have d2 : (E != 0) = true := by rw [bne_iff_ne]; exact hz
    clear hm2 hz
    go_wp2
    refine bodyPost_ret (v := .tuple #[.int .i64 (v), .int .i64 (z)]) (by simp only [results, Try.results47]; go_simp; exact Prod.mk.inj HM2.out) rfl ⟨rfl, ?_⟩
    exact ib.out
end Go.Proofs.Ytdgmpaijpjkeoaa
