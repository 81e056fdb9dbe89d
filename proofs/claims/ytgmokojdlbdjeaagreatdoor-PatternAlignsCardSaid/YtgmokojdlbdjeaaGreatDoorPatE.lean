/-
  THE PROGRAM: the least pattern of a plane.
-/
import Derived.Test.YtgmokojdlbdjeaaGreatDoorPatD
namespace Go.Proofs.YtgmokojdlbdjeaaGreatDoor
open Go.RowKit
def leastP (F : Int → Int → Int) (a1 b1 c1 : Int) : PatD := ⟨a1, b1, c1, tabN F a1.toNat (a1.toNat * c1.toNat)⟩
def zeroP : PatD := ⟨0, 0, 0, []⟩
/-- A pattern in new memory, and a code or a truth. -/
def OutP (w : World) (p : PatD) (z : Value) (e : Ending) (w' : World) : Prop := ∃ v, e = .returned (.tuple #[.agg #[.int .i64 p.a, .int .i64 p.b, .int .i64 p.c, v], z]) ∧ OwnI w' w.heap.size v p.xs ∧ Below w.heap.size w w'
/-- The world in the loops of least. -/
structure LW (w wr : World) (pb rb : Nat) (a b c : Int) (fv : Value) : Prop where
  p : PlBox wr pb a b c fv
  r : PBox wr rb 0 0 0 (.slice none 0 0)
  below : Below w.heap.size w wr
  wp : w.heap.size ≤ pb
  wr' : w.heap.size ≤ rb
theorem LW.keep {w wr w' : World} {pb rb : Nat} {a b c : Int} {fv : Value} (h : LW w wr pb rb a b c fv) (hb : Below wr.heap.size wr w') : LW w w' pb rb a b c fv := ⟨h.p.keep hb, h.r.keep hb, h.below.trans (hb.mono h.below.size), h.wp, h.wr'⟩
theorem LW.start (w : World) (a b c : Int) (fv : Value) : LW w ((w.alloc (.cells #[.int .i64 a, .int .i64 b, .int .i64 c, fv] 61)).alloc (.cells #[.int .i64 0, .int .i64 0, .int .i64 0, .slice none 0 0] 24)) w.heap.size (w.heap.size + 1) a b c fv := by
  refine ⟨(heap_alloc_old _ _ (by simp)).trans (heap_alloc_new w _), ?_, (by repeat' (first | (with_reducible exact Below.refl _ _) | (with_reducible assumption) | (with_reducible refine below_drewN ?_ _) | (with_reducible refine below_step (by assumption) ?_ ?_) | (with_reducible refine Below.alloc ?_ ?_ _) | (with_reducible refine Below.setCell ?_ ?_ _) | (with_reducible refine Below.drew ?_) | go_size | (exact Below.size (by assumption)) | (refine Nat.le_trans (Below.size (by assumption)) ?_))), by omega, by omega⟩
  have := heap_alloc_new (w.alloc (.cells #[.int .i64 a, .int .i64 b, .int .i64 c, fv] 61)) (.cells #[.int .i64 0, .int .i64 0, .int .i64 0, .slice none 0 0] 24)
  unfold PBox
  simpa using this
theorem LW.frozen {w wr : World} {pb rb : Nat} {a b c : Int} {fv : Value} (h : LW w wr pb rb a b c fv) (i : Nat) : wr.frozen? ⟨rb, i, none⟩ = false := frozen_of_row wr rb i _ _ h.r
theorem sameOn_per {F : Int → Int → Int} {a b c dx dy : Int} (h : Base F a b c) : SameOn F a dx dy c ↔ Per F dx dy := by
  constructor
  · intro hs
    exact h.per fun x y h0 h1 h2 h3 => (hs x y h0 h1 h2 h3).symm
  · intro hp x y _ _ _ _
    exact (hp x y).symm
theorem tmod_pos {n d : Int} (hn : 0 ≤ n) : n.tmod d = n % d := Int.tmod_eq_emod_of_nonneg hn
theorem Least.b_uniq {F : Int → Int → Int} {a b c b' : Int} (h : Least F a b c) (h0 : 0 ≤ b') (h1 : b' < a) (hp : Per F b' c) : b' = b := by
  have h2 := hp.sub h.pb
  rw [Int.sub_self] at h2
  have h3 := h.row h2
  have := h.b0; have := h.b1; have := h.a0
  rcases Int.lt_trichotomy b' b with h4 | h4 | h4
  · have e : (b' - b) % a = b' - b + a := by
      rw [← Int.add_emod_right]; exact Int.emod_eq_of_lt (by omega) (by omega)
    omega
  · exact h4
  · have e : (b' - b) % a = b' - b := Int.emod_eq_of_lt (by omega) (by omega)
    omega
set_option maxRecDepth 100000 in
set_option maxHeartbeats 2000000 in
theorem pleast_any (F : Int → Int → Int) (a b c a1 b1 c1 : Int) (hB : Base F a b c) (hL : Least F a1 b1 c1) (ha2 : a ≤ 10000000) (hc2 : c ≤ 10000000) (fv : Value) (w : World) (hF : FunV w fv F 50000000) :
    Calls Tryz.prog 85 #[.agg #[.int .i64 a, .int .i64 b, .int .i64 c, fv]] w (OutP w (if a1 * c1 ≤ 144 then leastP F a1 b1 c1 else zeroP) (.bool (decide (a1 * c1 ≤ 144)))) := by
  have HF := Lib.hid hF
  have HB := Lib.hid hB
  have HL := Lib.hid hL
  obtain ⟨l1, l2, l3, l4⟩ := hL.le hB
  have HD := Lib.hid (And.intro l3 l4)
  have a0 := hB.a0
  have c0 := hB.c0
  have a10 := hL.a0
  have c10 := hL.c0
  have b10 := hL.b0
  have b11 := hL.b1
  obtain ⟨r, hr⟩ : ∃ r, r = OutP w (if a1 * c1 ≤ 144 then leastP F a1 b1 c1 else zeroP) (.bool (decide (a1 * c1 ≤ 144))) := ⟨_, rfl⟩
  rw [← hr]
  have HRR := Lib.hid hr
  clear hr hF hB hL l3 l4
  go_enter Tryz.func85, Tryz.ntmps85
  go_upto_region 2 with fail
  have T0 := Lib.hid (LW.start w a b c fv)
  obtain ⟨W, hW⟩ : ∃ W, W = (w.alloc (.cells #[.int .i64 a, .int .i64 b, .int .i64 c, fv] 61)).alloc (.cells #[.int .i64 0, .int .i64 0, .int .i64 0, .slice none 0 0] 24) := ⟨_, rfl⟩
  rw [← hW] at T0 ⊢
  obtain ⟨rb, hrb⟩ : ∃ rb, rb = w.heap.size + 1 := ⟨_, rfl⟩
  rw [← hrb] at T0 ⊢
  clear hW hrb
  go_loopw [4] (fun t wr => ∃ k : Int, t = .int .i64 k ∧ 1 ≤ k ∧ k ≤ 144 ∧ k ≤ a1 ∧ Hid (LW w wr w.heap.size rb a b c fv)) (fun t _ => (145 - intOf t).toNat)
  case atStart => exact ⟨1, rfl, by omega, by omega, by omega, T0⟩
  case round =>
    clear T0
    obtain ⟨k, rfl, hk1, hk2, hk3, hr⟩ := hrel
    obtain ⟨p0, p1, p2, p3, p4⟩ := hr.out.p.cells
    obtain ⟨r0, r1, r2, r3, r4⟩ := hr.out.r.cells
    have f0 := hr.out.frozen 0
    have f1 := hr.out.frozen 1
    have f2 := hr.out.frozen 2
    have f3 := hr.out.frozen 3
    have hne : (k == 0) = false := by rw [beq_eq_false_iff_ne]; omega
    have htm := tmod_pos (n := a) (d := k) (by omega)
    have hmb0 := Int.emod_nonneg a (show k ≠ 0 by omega)
    have hmb1 := Int.emod_lt_of_pos a (show 0 < k by omega)
    obtain ⟨q, hq⟩ : ∃ q, q = a % k := ⟨_, rfl⟩
    rw [← hq] at htm hmb0 hmb1
    have HQ := Lib.hid hq
    have HTM := Lib.hid htm
    clear hq htm
    by_cases hq0 : q = 0
    · have d1 : ((a.tmod k) != 0) = false := by rw [HTM.out, hq0]; rfl
      have d1' : ((a % k) != 0) = false := by rw [← HQ.out, hq0]; rfl
      clear hq0
      go_wp2_with fail
      by_cases hp : Per F k 0
      · refine (repeats_any F a b c fv k 0 true ⟨fun _ => (sameOn_per HB.out).2 hp, fun _ => rfl⟩ (by omega) (by omega) (by omega) (by omega) (by omega) (by omega) wr (HF.out.below hr.out.below)).mono ?_
        rintro e w2 ⟨rfl, hb2⟩
        obtain rfl : a1 = k := by have := HL.out.la k (by omega) hp; omega
        have R2 := Lib.hid (hr.out.keep hb2)
        clear hr hp hb2 p0 p1 p2 p3 p4 r0 r1 r2 r3 r4 f0 f1 f2 f3 HQ HTM hmb0 hmb1 d1 d1'
        go_upto_region 7 with fail
        go_loopw [5] (fun t wr => ∃ k : Int, t = .int .i64 k ∧ 1 ≤ k ∧ k ≤ c1 ∧ Hid (LW w wr w.heap.size rb a b c fv)) (fun t _ => (c1 + 1 - intOf t).toNat)
        case atStart => exact ⟨1, rfl, by omega, by omega, R2⟩
        case round =>
          clear R2
          obtain ⟨k, rfl, hk1', hk2', hr⟩ := hrel
          obtain ⟨m, hm⟩ : ∃ m, m = a1 * k := ⟨_, rfl⟩
          have hmm : a1 * k ≤ a1 * c1 := Int.mul_le_mul_of_nonneg_left (by omega) (by omega)
          have hm1 : 1 * k ≤ a1 * k := Int.mul_le_mul_of_nonneg_right (by omega) (by omega)
          have hm2 : a1 * k ≤ 144 * k := Int.mul_le_mul_of_nonneg_right (by omega) (by omega)
          by_cases h144 : m ≤ 144
          · have hk144 : k ≤ 144 := by omega
            have d1 : decide (a1 * k ≤ 144) = true := decide_eq_true (by omega)
            have hmb : -1000000 ≤ a1 * k ∧ a1 * k ≤ 1000000 := by omega
            have hak : a1 * k ≤ 144 := by omega
            have R3 := hr
            clear hr hm hmm hm1 hm2
            go_upto_region 10 with fail
            go_loopw [6] (fun t wq => ∃ j : Int, t = .int .i64 j ∧ 0 ≤ j ∧ j ≤ a1 ∧ (k = c1 → j ≤ b1) ∧ Hid (LW w wq w.heap.size rb a b c fv)) (fun t _ => (a1 - intOf t).toNat)
            case atStart => exact ⟨0, rfl, by omega, by omega, fun _ => by omega, R3⟩
            case round =>
              clear R3
              obtain ⟨j, rfl, hj0, hj1, hj2, hq⟩ := hrel
              obtain ⟨p0, p1, p2, p3, p4⟩ := hq.out.p.cells
              have hne : (k == 0) = false := by rw [beq_eq_false_iff_ne]; omega
              have hmb0 := Int.emod_nonneg c (show k ≠ 0 by omega)
              have hmb1 := Int.emod_lt_of_pos c (show 0 < k by omega)
              by_cases hja : j < a1
              · have d2 : decide (j < a1) = true := decide_eq_true hja
                obtain ⟨q, hq0⟩ : ∃ q, q = c % k := ⟨_, rfl⟩
                have HQ := Lib.hid hq0
                by_cases hz : q = 0
                · have d3 : ((c % k) == 0) = true := by rw [← hq0, hz]; rfl
                  clear hq0 hz
                  go_wp2_with fail
                  by_cases hp : Per F j k
                  · refine (repeats_any F a b c fv j k true ⟨fun _ => (sameOn_per HB.out).2 hp, fun _ => rfl⟩ (by omega) (by omega) (by omega) (by omega) (by omega) (by omega) wr (HF.out.below hq.out.below)).mono ?_
                    rintro e w2 ⟨rfl, hb2⟩
                    obtain rfl : c1 = k := by have := HL.out.lc j k (by omega) hp; omega
                    obtain rfl : b1 = j := (HL.out.b_uniq hj0 hja hp).symm
                    have H2 := Lib.hid (hq.out.keep hb2)
                    clear hq hb2 hp p0 p1 p2 p3 p4 d3 HQ hmb0 hmb1 d2
                    obtain ⟨p0, p1, p2, p3, p4⟩ := H2.out.p.cells
                    have htb := table_any F a b c fv a1.toNat c1.toNat b1 (by omega) (by omega) (by
                      have : a1.toNat * c1.toNat = (a1 * c1).toNat := by
                        obtain ⟨u, hu⟩ : ∃ u : Nat, a1 = u := ⟨a1.toNat, by omega⟩
                        obtain ⟨v, hv⟩ : ∃ v : Nat, c1 = v := ⟨c1.toNat, by omega⟩
                        rw [hu, hv, ← Int.natCast_mul, Int.toNat_natCast, Int.toNat_natCast, Int.toNat_natCast]
                      omega) w2 (HF.out.below H2.out.below)
                    rw [Int.toNat_of_nonneg (by omega), Int.toNat_of_nonneg (by omega)] at htb
                    have HTB := Lib.hid htb
                    clear htb
                    go_wp2_with fail
                    refine HTB.out.mono ?_
                    rintro e w3 ⟨v, rfl, hown, hb3⟩
                    have h3 := H2.out.keep hb3
                    obtain ⟨Av, nv, hv, -⟩ := hown.isL
                    obtain ⟨nn, hnn⟩ : ∃ nn, nn = (tabN F a1.toNat (a1.toNat * c1.toNat)).length := ⟨_, rfl⟩
                    rw [← hnn] at hv
                    clear hnn
                    subst hv
                    have hsm : a1 * c1 ≤ 144 := hak
                    have HRF := Lib.hid (show r = OutP w (leastP F a1 b1 c1) (.bool true) by rw [HRR.out, if_pos hsm, decide_eq_true hsm])
                    have hgr := set4_grown w3 rb a1 b1 c1 (.slice Av nn nv)
                    have HP4 := Lib.hid (h3.r.put a1 b1 c1 (.slice Av nn nv))
                    have HB4 := Lib.hid (And.intro (OwnI.down (OwnI.grown hown hgr (by
                      rcases hv : (Value.slice Av nn nv).ownBlock with _ | g
                      · exact .inl rfl
                      · exact .inr (fun e => by have h1 := hown.lt' g hv; have h2 := (Array.getElem?_eq_some_iff.1 H2.out.r).1; cases e; omega))) H2.out.below.size) (Below.grown h3.below hgr h3.below.size (fun g e => by cases e; exact h3.wr')))
                    obtain ⟨r0, r1, r2, r3, r4⟩ := h3.r.cells
                    have f0 := h3.frozen 0
                    have f1 := h3.frozen 1
                    have f2 := h3.frozen 2
                    have f3 := h3.frozen 3
                    clear h3 hgr hown hb3 HTB H2 HRR hsm hak p0 p1 p2 p3 p4 hj2 h144 hmb
                    go_wp2
                    refine bodyPost_ret (v := .tuple #[.agg #[.int .i64 a1, .int .i64 b1, .int .i64 c1, .slice Av nn nv], .bool true]) (ret_pat2 rfl rfl rfl HP4.out) rfl ?_
                    rw [HRF.out]
                    exact ⟨_, rfl, HB4.out⟩
                  · refine (repeats_any F a b c fv j k false ⟨fun h => (by cases h), fun h => absurd ((sameOn_per HB.out).1 h) hp⟩ (by omega) (by omega) (by omega) (by omega) (by omega) (by omega) wr (HF.out.below hq.out.below)).mono ?_
                    rintro e w2 ⟨rfl, hb2⟩
                    have hst : k = c1 → j + 1 ≤ b1 := fun e => by
                      have h1 := hj2 e
                      by_cases h2 : j = b1
                      · exact absurd (by rw [h2, e]; exact HL.out.pb) hp
                      · omega
                    have R2 := Lib.hid (hq.out.keep hb2)
                    clear hq hb2 hp p0 p1 p2 p3 p4 hj2
                    go_wp2
                    go_roundw
                    case rel => exact ⟨j + 1, rfl, by omega, by omega, hst, R2⟩
                    case measure => simp [intOf]; omega
                · have d3 : ((c % k) == 0) = false := by rw [← hq0, beq_eq_false_iff_ne]; exact hz
                  have hkc : k ≠ c1 := fun e => hz (by rw [hq0, e]; exact HD.out.2)
                  clear hq0 hz hj2
                  go_wp2
                  go_roundw
                  case rel => exact ⟨k + 1, rfl, by omega, by omega, hq⟩
                  case measure => simp [intOf]; omega
              · have d2 : decide (j < a1) = false := decide_eq_false hja
                have hkc : k ≠ c1 := fun e => by have := hj2 e; omega
                clear hj2
                go_wp2
                go_roundw
                case rel => exact ⟨k + 1, rfl, by omega, by omega, hq⟩
                case measure => simp [intOf]; omega
          · have d1 : decide (a1 * k ≤ 144) = false := decide_eq_false (by omega)
            have hbig : ¬ (a1 * c1 ≤ 144) := by omega
            have hmb : -1000000000000 ≤ a1 * k ∧ a1 * k ≤ 1000000000000 := by omega
            obtain ⟨r0, r1, r2, r3, r4⟩ := hr.out.r.cells
            have f0 := hr.out.frozen 0
            have f1 := hr.out.frozen 1
            have f2 := hr.out.frozen 2
            have f3 := hr.out.frozen 3
            have HRF := Lib.hid (show r = OutP w zeroP (.bool false) by rw [HRR.out, if_neg hbig, decide_eq_false hbig])
            have HP4 := Lib.hid (hr.out.r.put 0 0 0 (.slice none 0 0))
            have HB4 := Lib.hid (Below.grown hr.out.below (set4_grown wr rb 0 0 0 (.slice none 0 0)) hr.out.below.size (fun g e => by cases e; exact hr.out.wr'))
            clear hr HRR hbig hm hmm hm1 hm2
            go_wp2
            refine bodyPost_ret (v := .tuple #[.agg #[.int .i64 0, .int .i64 0, .int .i64 0, .slice none 0 0], .bool false]) (ret_pat2 rfl rfl rfl HP4.out) rfl ?_
            rw [HRF.out]
            exact ⟨_, rfl, OwnI.nil _ _, HB4.out⟩
      · refine (repeats_any F a b c fv k 0 false ⟨fun h => (by cases h), fun h => absurd ((sameOn_per HB.out).1 h) hp⟩ (by omega) (by omega) (by omega) (by omega) (by omega) (by omega) wr (HF.out.below hr.out.below)).mono ?_
        rintro e w2 ⟨rfl, hb2⟩
        have hka : k ≠ a1 := fun e => hp (by rw [e]; exact HL.out.pa)
        have R2 := Lib.hid (hr.out.keep hb2)
        clear hr hp hb2 p0 p1 p2 p3 p4 r0 r1 r2 r3 r4 f0 f1 f2 f3
        obtain ⟨r0, r1, r2, r3, r4⟩ := R2.out.r.cells
        have f0 := R2.out.frozen 0
        have f1 := R2.out.frozen 1
        have f2 := R2.out.frozen 2
        have f3 := R2.out.frozen 3
        by_cases h144 : 144 < k + 1
        · have d2 : decide (144 < k + 1) = true := decide_eq_true h144
          have hbig : ¬ (a1 * c1 ≤ 144) := fun hh => by
            have : a1 * 1 ≤ a1 * c1 := Int.mul_le_mul_of_nonneg_left (by omega) (by omega)
            omega
          have HRF := Lib.hid (show r = OutP w zeroP (.bool false) by rw [HRR.out, if_neg hbig, decide_eq_false hbig])
          have HP4 := Lib.hid (R2.out.r.put 0 0 0 (.slice none 0 0))
          have HB4 := Lib.hid (Below.grown R2.out.below (set4_grown w2 rb 0 0 0 (.slice none 0 0)) R2.out.below.size (fun g e => by cases e; exact R2.out.wr'))
          clear R2 HRR hbig
          go_wp2
          refine bodyPost_ret (v := .tuple #[.agg #[.int .i64 0, .int .i64 0, .int .i64 0, .slice none 0 0], .bool false]) (ret_pat2 rfl rfl rfl HP4.out) rfl ?_
          rw [HRF.out]
          exact ⟨_, rfl, OwnI.nil _ _, HB4.out⟩
        · have d2 : decide (144 < k + 1) = false := decide_eq_false h144
          go_wp2
          go_roundw
          case rel => exact ⟨k + 1, rfl, by omega, by omega, by omega, R2⟩
          case measure => simp [intOf]; omega
    · have hka : k ≠ a1 := fun e => hq0 (by rw [HQ.out, e]; exact HD.out.1)
      have d1 : ((a.tmod k) != 0) = true := by rw [bne_iff_ne, HTM.out]; exact hq0
      have d1' : ((a % k) != 0) = true := by rw [bne_iff_ne, ← HQ.out]; exact hq0
      clear hq0
      by_cases h144 : 144 < k + 1
      · have d2 : decide (144 < k + 1) = true := decide_eq_true h144
        have hbig : ¬ (a1 * c1 ≤ 144) := fun hh => by
          have : a1 * 1 ≤ a1 * c1 := Int.mul_le_mul_of_nonneg_left (by omega) (by omega)
          omega
        have HRF := Lib.hid (show r = OutP w zeroP (.bool false) by rw [HRR.out, if_neg hbig, decide_eq_false hbig])
        have HP4 := Lib.hid (hr.out.r.put 0 0 0 (.slice none 0 0))
        have HB4 := Lib.hid (Below.grown hr.out.below (set4_grown wr rb 0 0 0 (.slice none 0 0)) hr.out.below.size (fun g e => by cases e; exact hr.out.wr'))
        clear hr HRR hbig
        go_wp2
        refine bodyPost_ret (v := .tuple #[.agg #[.int .i64 0, .int .i64 0, .int .i64 0, .slice none 0 0], .bool false]) (ret_pat2 rfl rfl rfl HP4.out) rfl ?_
        rw [HRF.out]
        exact ⟨_, rfl, OwnI.nil _ _, HB4.out⟩
      · have d2 : decide (144 < k + 1) = false := decide_eq_false h144
        go_wp2
        go_roundw
        case rel => exact ⟨k + 1, rfl, by omega, by omega, by omega, hr⟩
        case measure => simp [intOf]; omega
end Go.Proofs.YtgmokojdlbdjeaaGreatDoor
