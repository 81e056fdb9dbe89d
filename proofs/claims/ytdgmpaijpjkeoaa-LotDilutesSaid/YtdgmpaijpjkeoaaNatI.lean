/-
  NATURALS OF TWENTY WORDS: the greatest common divisor.
-/
import Derived.Test.YtdgmpaijpjkeoaaNatH
import Derived.Test.YtdgmpaijpjkeoaaNatE
namespace Go.Proofs.Ytdgmpaijpjkeoaa
open Go.RowKit
attribute [local go_sem] grow_cell grow_frozen
section
variable {C : World → Prop} {K : Act → Prop} {a : Act} {o : Oper}
theorem quiet_ld_nat (x : Operand) (ho : o.op = .load 77 x) (b n : Nat) (hx : a.eval x = .pointer (some ⟨b, 0, none⟩)) (h : ∀ w, C w → NatB w b n) (hk : K (a.put o.dst (natV n))) : o.quiet Try.prog a C K :=
  ⟨natV n, fun w hw => by
    unfold Oper.quietAt execOp
    simp only [ho, hx, Instr.loadAt, Instr.sureAddr, Sem.run_bind, Sem.run_pure, Result.andThen_ok, (h w hw).load]
    exact ⟨rfl, rfl⟩, hk⟩
end
theorem NatB.inGrow {w : World} {b n : Nat} (h : NatB w b n) : ∀ w', (∃ x, w' = grow w x) → NatB w' b n := by
  rintro w' ⟨x, rfl⟩
  exact h.keep (below_grow w x)
/-- The number in a block, read off its words. -/
def wordAt (w : World) (b k : Nat) : Nat := match w.cell? ⟨b, k, none⟩ with | some (.int _ z) => z.toNat | _ => 0
def valK (w : World) (b : Nat) : Nat → Nat
  | 0 => 0
  | k + 1 => valK w b k + 4294967296 ^ k * wordAt w b k
def valB (w : World) (b : Nat) : Nat := valK w b 20
theorem NatB.valK {w : World} {b a : Nat} (h : NatB w b a) : ∀ k, k ≤ 20 → Go.Proofs.Ytdgmpaijpjkeoaa.valK w b k = lw a k
  | 0, _ => (lw_zero a).symm
  | k + 1, hk => by
    rw [Go.Proofs.Ytdgmpaijpjkeoaa.valK, NatB.valK h k (by omega), lw_succ, wordAt, h.cell (show k < 20 by omega)]
    simp
theorem NatB.val {w : World} {b a : Nat} (h : NatB w b a) (ha : a < 4294967296 ^ 20) : valB w b = a := (h.valK 20 (Nat.le_refl _)).trans (lw_all ha)
theorem and_one {d : Nat} (h : d < 4294967296) : bits BinOp.and .u32 (d : Int) 1 = ((d % 2 : Nat) : Int) := by
  have := u32_and_nat d 1 h (by decide)
  rw [Nat.and_one_is_mod] at this
  exact this
/-- The first word of a block, and its last bit. -/
theorem NatB.even {w : World} {b a : Nat} (h : NatB w b a) (he : a % 2 = 0) : ∃ d : Nat, d < 4294967296 ∧ w.cell? ⟨b, 0, none⟩ = some (.int .u32 d) ∧ bits BinOp.and .u32 (d : Int) 1 = 0 :=
  ⟨dg a 0, dg_lt _ _, h.cell (by decide), by rw [and_one (dg_lt _ _), even_iff, he]; rfl⟩
theorem NatB.odd {w : World} {b a : Nat} (h : NatB w b a) (he : a % 2 = 1) : ∃ d : Nat, d < 4294967296 ∧ w.cell? ⟨b, 0, none⟩ = some (.int .u32 d) ∧ bits BinOp.and .u32 (d : Int) 1 = 1 :=
  ⟨dg a 0, dg_lt _ _, h.cell (by decide), by rw [and_one (dg_lt _ _), even_iff, he]; rfl⟩
/-- The blocks of gcd. -/
structure G3 (w W : World) (x y : Nat) : Prop where
  a : NatB W w.heap.size x
  b : NatB W (w.heap.size + 1) y
  c : NatB W (w.heap.size + 1 + 1) 0
  h : Below w.heap.size w W
theorem G3.keep {w W W' : World} {x y : Nat} (h : G3 w W x y) (hb : Below W.heap.size W W') : G3 w W' x y := ⟨h.a.keep hb, h.b.keep hb, h.c.keep hb, h.h.trans (hb.mono h.h.size)⟩
theorem G3.setA {w W W' : World} {x y x' : Nat} (h : G3 w W x y) (hn : NatB W' w.heap.size x') (hg : W.grownBy W' (some w.heap.size)) : G3 w W' x' y := ⟨hn, h.b.grown hg (by simp), h.c.grown hg (by simp; omega), below_grown h.h hg (by omega) h.h.size⟩
theorem G3.setB {w W W' : World} {x y y' : Nat} (h : G3 w W x y) (hn : NatB W' (w.heap.size + 1) y') (hg : W.grownBy W' (some (w.heap.size + 1))) : G3 w W' x y' := ⟨h.a.grown hg (by simp), hn, h.c.grown hg (by simp), below_grown h.h hg (by omega) h.h.size⟩
theorem natZV : Value.agg #[Value.int IntKind.u32 0, Value.int IntKind.u32 0, Value.int IntKind.u32 0, Value.int IntKind.u32 0, Value.int IntKind.u32 0, Value.int IntKind.u32 0, Value.int IntKind.u32 0, Value.int IntKind.u32 0, Value.int IntKind.u32 0, Value.int IntKind.u32 0, Value.int IntKind.u32 0, Value.int IntKind.u32 0, Value.int IntKind.u32 0, Value.int IntKind.u32 0, Value.int IntKind.u32 0, Value.int IntKind.u32 0, Value.int IntKind.u32 0, Value.int IntKind.u32 0, Value.int IntKind.u32 0, Value.int IntKind.u32 0] = natV 0 := by rw [natZ]; rfl
theorem pow_small {k a : Nat} (h : 2 ^ k ≤ a) (ha : a < 4294967296 ^ 20) : k ≤ 640 := by
  rw [pow32] at ha
  have : 2 ^ k < 2 ^ (32 * 20) := Nat.lt_of_le_of_lt h ha
  have := (Nat.pow_lt_pow_iff_right (show 1 < 2 by decide)).1 this
  omega
set_option maxRecDepth 100000 in
set_option maxHeartbeats 1000000 in
theorem nat_gcd (a b : Nat) (ha : a < 4294967296 ^ 20) (hb : b < 4294967296 ^ 20) (ha0 : 0 < a) (hb0 : 0 < b) (w : World) :
    Calls Try.prog 85 #[natV a, natV b] w fun e w' => e = .returned (natV (Nat.gcd a b)) ∧ Below w.heap.size w w' := by
  have HA := Lib.hid ha
  have HB := Lib.hid hb
  have HA0 := Lib.hid ha0
  have HB0 := Lib.hid hb0
  clear ha hb ha0 hb0
  unfold natV
  obtain ⟨c, hc⟩ : ∃ c, c = natC a := ⟨_, rfl⟩
  obtain ⟨f, hf⟩ : ∃ f, f = natC b := ⟨_, rfl⟩
  rw [← hc, ← hf]
  have HC := Lib.hid hc
  have HF := Lib.hid hf
  clear hc hf
  go_enter Try.func85, Try.ntmps85
  go_wp2
  rw [natZ, HC.out, HF.out]
  obtain ⟨W, hW⟩ : ∃ W, W = ((w.alloc (.cells (natC a) 77)).alloc (.cells (natC b) 77)).alloc (.cells (natC 0) 77) := ⟨_, rfl⟩
  rw [← hW]
  have h0 : Hid (G3 w W a b) := by rw [hW]; exact ⟨hp2 _ _ _ _, hp21 _ _ _ _, hp22 _ _ _ _, (by repeat' (first | (with_reducible exact Below.refl _ _) | (with_reducible assumption) | (with_reducible refine below_drewN ?_ _) | (with_reducible refine below_step (by assumption) ?_ ?_) | (with_reducible refine Below.alloc ?_ ?_ _) | (with_reducible refine Below.setCell ?_ ?_ _) | (with_reducible refine Below.drew ?_) | go_size | (exact Below.size (by assumption)) | (refine Nat.le_trans (Below.size (by assumption)) ?_)))⟩
  clear hW
  go_loopw [5] (fun t wr => ∃ k x y : Nat, t = .int .i64 k ∧ k ≤ 640 ∧ Hid (2 ^ k * x = a ∧ 2 ^ k * y = b ∧ G3 w wr x y)) (fun _ wr => valB wr w.heap.size)
  case atStart => exact ⟨0, a, b, rfl, by omega, by rw [Nat.pow_zero, Nat.one_mul, Nat.one_mul]; exact ⟨rfl, rfl, h0.out⟩⟩
  case round =>
    obtain ⟨k, x, y, rfl, hk, hr⟩ := hrel
    go_upto_region 2 with fail
    go_cut [15] (fun s wx => ∃ c : Bool, s = .bool c ∧ Hid (c = true ↔ x % 2 = 0 ∧ y % 2 = 0) ∧ wr = wx)
    case first =>
      have hf1 := hr.out.2.2.a.free 0
      have hf2 := hr.out.2.2.b.free 0
      by_cases hx : x % 2 = 0
      · obtain ⟨d, hd1, hd2, hd3⟩ := hr.out.2.2.a.even hx
        have HX := Lib.hid hx
        clear hx
        by_cases hy : y % 2 = 0
        · obtain ⟨e, he1, he2, he3⟩ := hr.out.2.2.b.even hy
          have HY := Lib.hid hy
          clear hy
          go_wp2_with fail
          go_meet
          exact ⟨true, rfl, Lib.hid ⟨fun _ => ⟨HX.out, HY.out⟩, fun _ => rfl⟩, rfl⟩
        · obtain ⟨e, he1, he2, he3⟩ := hr.out.2.2.b.odd (by omega)
          have HY := Lib.hid hy
          clear hy
          go_wp2_with fail
          go_meet
          exact ⟨false, rfl, Lib.hid ⟨(fun h => by cases h), fun h => absurd h.2 HY.out⟩, rfl⟩
      · obtain ⟨d, hd1, hd2, hd3⟩ := hr.out.2.2.a.odd (by omega)
        have HX := Lib.hid hx
        clear hx
        go_wp2_with fail
        go_meet
        exact ⟨false, rfl, Lib.hid ⟨(fun h => by cases h), fun h => absurd h.1 HX.out⟩, rfl⟩
    case rest =>
    obtain ⟨c, rfl, hc, rfl⟩ := hcut
    cases c with
    | true =>
      have hx2 : x / 2 * 2 = x := by have := hc.out.1 rfl; omega
      have hy2 : y / 2 * 2 = y := by have := hc.out.1 rfl; omega
      have hxa : x ≤ a := by have h1 := hr.out.1; have : 1 * x ≤ 2 ^ k * x := Nat.mul_le_mul_right _ (Nat.pow_pos (by decide)); omega
      have hya : y ≤ b := by have h1 := hr.out.2.1; have : 1 * y ≤ 2 ^ k * y := Nat.mul_le_mul_right _ (Nat.pow_pos (by decide)); omega
      have hx0 : 0 < x := by have h1 := hr.out.1; have h2 := HA0.out; rcases Nat.eq_zero_or_pos x with h | h; (rw [h] at h1; simp at h1; omega); exact h
      have XA := Lib.hid (Nat.lt_of_le_of_lt hxa HA.out)
      have YB := Lib.hid (Nat.lt_of_le_of_lt hya HB.out)
      have e1 : 2 ^ (k + 1) * (x / 2) = a := by rw [Nat.pow_succ, Nat.mul_assoc, Nat.mul_comm 2, hx2]; exact hr.out.1
      have e2 : 2 ^ (k + 1) * (y / 2) = b := by rw [Nat.pow_succ, Nat.mul_assoc, Nat.mul_comm 2, hy2]; exact hr.out.2.1
      have hk2 : k + 1 ≤ 640 := pow_small (a := a) (by have : 2 ^ (k + 1) * 1 ≤ 2 ^ (k + 1) * (x / 2) := Nat.mul_le_mul_left _ (by omega); omega) HA.out
      have E1 := Lib.hid e1
      have E2 := Lib.hid e2
      have X0 := Lib.hid hx0
      clear e1 e2 hx2 hy2 hxa hya hx0
      go_wp2
      refine region_grow_tail 4 (by kernel_rfl) (by kernel_rfl) ?_
      simp only [List.take_succ_cons, List.take_zero, List.drop_succ_cons, List.drop_zero]
      repeat (first | (go_big_quiet_want; (first | refine quiet_ld_nat _ rfl _ _ rfl hr.out.2.2.a.inGrow ?_ | refine quiet_ld_nat _ rfl _ _ rfl hr.out.2.2.b.inGrow ?_); go_simp; go_big_quiet_on) | go_big_quiet_step ((go_at_call 110; first | (with_reducible exact grow_call (nat_half x XA.out _)) | (with_reducible exact grow_call (nat_half y YB.out _)))))
      refine wpQuiet_nil ?_
      rintro w1 ⟨xg, hxg⟩
      have hb1 := below_grow wr xg
      rw [← hxg] at hb1
      clear hxg xg
      have g1 := Lib.hid (hr.out.2.2.keep hb1)
      clear hb1
      go_wp2_with (first | (refine st_nat rfl _ _ rfl rfl _ _ _ rfl rfl g1.out.a ?_; intro w2 hnw2 hgw2; have g2 := Lib.hid (g1.out.setA hnw2 hgw2)) | (refine st_nat rfl _ _ rfl rfl _ _ _ rfl rfl g2.out.b ?_; intro w3 hnw3 hgw3; have g3 := Lib.hid (g2.out.setB hnw3 hgw3)))
      go_roundw
      case rel => exact ⟨k + 1, x / 2, y / 2, by go_num, hk2, E1.out, E2.out, g3.out⟩
      case measure =>
        rw [g3.out.a.val (by have := XA.out; omega), hr.out.2.2.a.val XA.out]
        have := X0.out
        omega
    | false =>
      have HO := Lib.hid (gcd_odd (a := x) (b := y) (fun h => by have := hc.out.2 h; cases this))
      have hxa : x ≤ a := by have h1 := hr.out.1; have : 1 * x ≤ 2 ^ k * x := Nat.mul_le_mul_right _ (Nat.pow_pos (by decide)); omega
      have hya : y ≤ b := by have h1 := hr.out.2.1; have : 1 * y ≤ 2 ^ k * y := Nat.mul_le_mul_right _ (Nat.pow_pos (by decide)); omega
      have hy0 : 0 < y := by have h1 := hr.out.2.1; have h2 := HB0.out; rcases Nat.eq_zero_or_pos y with h | h; (rw [h] at h1; simp at h1; omega); exact h
      have XA := Lib.hid (Nat.lt_of_le_of_lt hxa HA.out)
      have YB := Lib.hid (Nat.lt_of_le_of_lt hya HB.out)
      have Y0 := Lib.hid hy0
      have HG := Lib.hid (show 2 ^ k * Nat.gcd x y = Nat.gcd a b by rw [← Nat.gcd_mul_left, hr.out.1, hr.out.2.1])
      obtain ⟨g, hg⟩ : ∃ g, g = Nat.gcd x y := ⟨_, rfl⟩
      rw [← hg] at HG HO
      have h0' := Lib.hid (show Nat.gcd x y = g ∧ 0 < y ∧ x < 4294967296 ^ 20 ∧ y < 4294967296 ^ 20 ∧ G3 w wr x y from ⟨hg.symm, hy0, XA.out, YB.out, hr.out.2.2⟩)
      clear hxa hya hy0 hg hc hr XA YB Y0
      go_wp2
      go_loopw [] (fun wr => ∃ x y : Nat, Hid (Nat.gcd x y = g ∧ 0 < y ∧ x < 4294967296 ^ 20 ∧ y < 4294967296 ^ 20 ∧ G3 w wr x y)) (fun wr => valB wr w.heap.size + valB wr (w.heap.size + 1))
      case atStart => exact ⟨x, y, h0'⟩
      case round =>
        clear h0'
        obtain ⟨x, y, hq⟩ := hrel
        by_cases hx0 : x = 0
        · subst hx0
          have hyg : y = g := by rw [← hq.out.1, Nat.gcd_zero_left]
          subst hyg
          go_wp2_with (first | (refine ld_nat rfl _ rfl _ _ rfl hq.out.2.2.2.2.a ?_) | (refine ld_nat rfl _ rfl _ _ rfl hq.out.2.2.2.2.b ?_) | refine ne_nat rfl _ _ _ rfl _ _ false rfl natZV (by decide) (by decide) rfl ?_)
          refine (nat_double y k (by omega) _).mono ?_
          rintro e w1 ⟨rfl, hb1⟩
          have g1 := Lib.hid (hq.out.2.2.2.2.keep hb1)
          clear hb1
          go_wp2_with (refine st_nat rfl _ _ rfl rfl _ _ _ rfl rfl g1.out.c ?_; intro w2 hn2 hg2)
          refine bodyPost_ret (v := natV (2 ^ k * y)) (ret_nat rfl rfl hn2) rfl ⟨by rw [HG.out]; rfl, below_grown g1.out.h hg2 (by omega) g1.out.h.size⟩
        · have hd : (!decide (x = 0)) = true := by simp [hx0]
          have HD := Lib.hid hd
          have HX0 := Lib.hid (Nat.pos_of_ne_zero hx0)
          clear hx0 hd
          go_wp2_with (first | (refine ld_nat rfl _ rfl _ _ rfl hq.out.2.2.2.2.a ?_) | refine ne_nat rfl _ _ _ rfl _ _ true rfl natZV hq.out.2.2.1 (by decide) HD.out ?_)
          go_simp
          go_loopw [] (fun wq => ∃ x' : Nat, Hid (Nat.gcd x' y = g ∧ 0 < x' ∧ x' ≤ x ∧ G3 w wq x' y)) (fun wq => valB wq w.heap.size)
          case atStart => exact ⟨x, Lib.hid ⟨hq.out.1, HX0.out, Nat.le_refl _, hq.out.2.2.2.2⟩⟩
          case round =>
            obtain ⟨x1, h1⟩ := hrel
            have hf1 := h1.out.2.2.2.a.free 0
            by_cases hx : x1 % 2 = 0
            · obtain ⟨d, hd1, hd2, hd3⟩ := h1.out.2.2.2.a.even hx
              have HX := Lib.hid hx
              clear hx
              go_wp2_with (first | (refine ld_nat rfl _ rfl _ _ rfl h1.out.2.2.2.a ?_))
              refine (nat_half x1 (Nat.lt_of_le_of_lt h1.out.2.2.1 hq.out.2.2.1) _).mono ?_
              rintro e w1 ⟨rfl, hb1⟩
              have g1 := Lib.hid (h1.out.2.2.2.keep hb1)
              clear hb1
              go_wp2_with (first | (refine st_nat rfl _ _ rfl rfl _ _ _ rfl rfl g1.out.a ?_; intro w2 hnw2 hgw2; have g2 := Lib.hid (g1.out.setA hnw2 hgw2)))
              go_roundw
              case rel => exact ⟨x1 / 2, Lib.hid ⟨by rw [gcd_half_left HX.out (by rw [h1.out.1]; exact HO.out)]; exact h1.out.1, by have := h1.out.2.1; have := HX.out; omega, by have := h1.out.2.2.1; omega, g2.out⟩⟩
              case measure =>
                have h2 := h1.out.2.1
                have h3 := h1.out.2.2.1
                have h4 := hq.out.2.2.1
                rw [g2.out.a.val (by omega), h1.out.2.2.2.a.val (by omega)]
                omega
            · obtain ⟨d, hd1, hd2, hd3⟩ := h1.out.2.2.2.a.odd (by omega)
              clear hx
              go_wp2
              go_loopw [] (fun wq => ∃ y' : Nat, Hid (Nat.gcd x1 y' = g ∧ 0 < y' ∧ y' ≤ y ∧ G3 w wq x1 y')) (fun wq => valB wq (w.heap.size + 1))
              case atStart => exact ⟨y, Lib.hid ⟨h1.out.1, hq.out.2.1, Nat.le_refl _, h1.out.2.2.2⟩⟩
              case round =>
                clear hf1 hd1 hd2 hd3
                obtain ⟨y1, h2⟩ := hrel
                have hf2 := h2.out.2.2.2.b.free 0
                by_cases hy : y1 % 2 = 0
                · obtain ⟨d, hd1, hd2, hd3⟩ := h2.out.2.2.2.b.even hy
                  have HY := Lib.hid hy
                  clear hy
                  go_wp2_with (first | (refine ld_nat rfl _ rfl _ _ rfl h2.out.2.2.2.b ?_))
                  refine (nat_half y1 (Nat.lt_of_le_of_lt h2.out.2.2.1 hq.out.2.2.2.1) _).mono ?_
                  rintro e w1 ⟨rfl, hb1⟩
                  have g1 := Lib.hid (h2.out.2.2.2.keep hb1)
                  clear hb1
                  go_wp2_with (first | (refine st_nat rfl _ _ rfl rfl _ _ _ rfl rfl g1.out.b ?_; intro w2 hnw2 hgw2; have g2 := Lib.hid (g1.out.setB hnw2 hgw2)))
                  go_roundw
                  case rel => exact ⟨y1 / 2, Lib.hid ⟨by rw [gcd_half_right HY.out (by rw [h2.out.1]; exact HO.out)]; exact h2.out.1, by have := h2.out.2.1; have := HY.out; omega, by have := h2.out.2.2.1; omega, g2.out⟩⟩
                  case measure =>
                    have i2 := h2.out.2.1
                    have h3 := h2.out.2.2.1
                    have h4 := hq.out.2.2.2.1
                    rw [g2.out.b.val (by omega), h2.out.2.2.2.b.val (by omega)]
                    omega
                · obtain ⟨d, hd1, hd2, hd3⟩ := h2.out.2.2.2.b.odd (by omega)
                  clear hy
                  have XL := Lib.hid (Nat.lt_of_le_of_lt h1.out.2.2.1 hq.out.2.2.1)
                  have YL := Lib.hid (Nat.lt_of_le_of_lt h2.out.2.2.1 hq.out.2.2.2.1)
                  by_cases hlt : x1 < y1
                  · have HL := Lib.hid hlt
                    have hc1 : cmpN x1 y1 = -1 := by rw [cmpN, if_pos hlt]
                    have HC1 := Lib.hid hc1
                    clear hlt hc1
                    go_wp2_with (first | (refine ld_nat rfl _ rfl _ _ rfl h2.out.2.2.2.a ?_) | (refine ld_nat rfl _ rfl _ _ rfl h2.out.2.2.2.b ?_))
                    refine (nat_compare x1 y1 XL.out YL.out _).mono ?_
                    rw [HC1.out]
                    rintro e w1 ⟨rfl, hb1⟩
                    have g1 := Lib.hid (h2.out.2.2.2.keep hb1)
                    clear hb1 hd1 hd2 hd3 hf2
                    go_wp2_with (first | (refine ld_nat rfl _ rfl _ _ rfl g1.out.a ?_) | (refine ld_nat rfl _ rfl _ _ rfl g1.out.b ?_) | (refine st_nat rfl _ _ rfl rfl _ _ _ rfl rfl g1.out.a ?_; intro w2 hnw2 hgw2; have g2 := Lib.hid (g1.out.setA hnw2 hgw2)) | (refine st_nat rfl _ _ rfl rfl _ _ _ rfl rfl g2.out.b ?_; intro w3 hnw3 hgw3; have g3 := Lib.hid (g2.out.setB hnw3 hgw3)) | (refine ld_nat rfl _ rfl _ _ rfl g3.out.a ?_) | (refine ld_nat rfl _ rfl _ _ rfl g3.out.b ?_))
                    refine (nat_minus y1 x1 (Nat.le_of_lt HL.out) _).mono ?_
                    rintro e w4 ⟨rfl, hb4⟩
                    have g4 := Lib.hid (g3.out.keep hb4)
                    clear hb4
                    go_wp2_with (first | (refine st_nat rfl _ _ rfl rfl _ _ _ rfl rfl g4.out.a ?_; intro w5 hnw5 hgw5; have g5 := Lib.hid (g4.out.setA hnw5 hgw5)))
                    go_roundw
                    case rel => exact ⟨y1 - x1, x1, Lib.hid ⟨by rw [gcd_minus (Nat.le_of_lt HL.out), Nat.gcd_comm]; exact h2.out.1, h1.out.2.1, by have := YL.out; omega, XL.out, g5.out⟩⟩
                    case measure =>
                      have i1 := h1.out.2.1
                      have i2 := h2.out.2.2.1
                      have i3 := HL.out
                      have i4 := YL.out
                      rw [g5.out.a.val (by omega), g5.out.b.val XL.out, hq.out.2.2.2.2.a.val hq.out.2.2.1, hq.out.2.2.2.2.b.val hq.out.2.2.2.1]
                      have := HX0.out
                      omega
                  · have HL := Lib.hid (Nat.le_of_not_lt hlt)
                    have hc1 : (cmpN x1 y1 < 0) = False := by rw [cmpN, if_neg hlt]; split <;> simp
                    have hc2 : 0 ≤ cmpN x1 y1 := by rw [cmpN, if_neg hlt]; split <;> simp
                    obtain ⟨cc, hcc⟩ : ∃ cc, cc = cmpN x1 y1 := ⟨_, rfl⟩
                    rw [← hcc] at hc2
                    have HC1 := Lib.hid hcc
                    clear hlt hc1 hcc
                    go_wp2_with (first | (refine ld_nat rfl _ rfl _ _ rfl h2.out.2.2.2.a ?_) | (refine ld_nat rfl _ rfl _ _ rfl h2.out.2.2.2.b ?_))
                    refine (nat_compare x1 y1 XL.out YL.out _).mono ?_
                    rw [← HC1.out]
                    rintro e w1 ⟨rfl, hb1⟩
                    have g1 := Lib.hid (h2.out.2.2.2.keep hb1)
                    clear hb1 hd1 hd2 hd3 hf2
                    go_wp2_with (first | (refine ld_nat rfl _ rfl _ _ rfl g1.out.a ?_) | (refine ld_nat rfl _ rfl _ _ rfl g1.out.b ?_))
                    refine (nat_minus x1 y1 HL.out _).mono ?_
                    rintro e w4 ⟨rfl, hb4⟩
                    have g4 := Lib.hid (g1.out.keep hb4)
                    clear hb4
                    go_wp2_with (first | (refine st_nat rfl _ _ rfl rfl _ _ _ rfl rfl g4.out.a ?_; intro w5 hnw5 hgw5; have g5 := Lib.hid (g4.out.setA hnw5 hgw5)))
                    go_roundw
                    case rel => exact ⟨x1 - y1, y1, Lib.hid ⟨by rw [gcd_minus HL.out]; exact h2.out.1, h2.out.2.1, by have := XL.out; omega, YL.out, g5.out⟩⟩
                    case measure =>
                      have i1 := h1.out.2.2.1
                      have i2 := h2.out.2.1
                      have i3 := HL.out
                      have i4 := XL.out
                      have i5 := h2.out.2.2.1
                      rw [g5.out.a.val (by omega), g5.out.b.val YL.out, hq.out.2.2.2.2.a.val hq.out.2.2.1, hq.out.2.2.2.2.b.val hq.out.2.2.2.1]
                      omega
end Go.Proofs.Ytdgmpaijpjkeoaa
