/-
  THE PROGRAM: Align.
-/
import Derived.Test.YtlinldbbhdpgcaaGreatDoorPatW
namespace Go.Proofs.YtlinldbbhdpgcaaGreatDoor
open Go.RowKit
/-- By which shift the least pattern of p becomes that of q: the first one, by rows. -/
def AlY (p q : PatD) (i k : Nat) : Prop := (i : Int) < (lst (colF p)).a ∧ (k : Int) < (lst (colF p)).c ∧ shiftF (colF p) i k = colF q
def AlE (p q : PatD) : Prop := twoZ p q = 0 ∧ (lst (colF p)).a = (lst (colF q)).a ∧ (lst (colF p)).b = (lst (colF q)).b ∧ (lst (colF p)).c = (lst (colF q)).c
def AlS (p q : PatD) (x y : Int) (f : Bool) : Prop :=
  (x = 0 ∧ y = 0 ∧ f = false ∧ (AlE p q → ∀ i k, ¬ AlY p q i k)) ∨
  (f = true ∧ AlE p q ∧ ∃ i k : Nat, x = i ∧ y = k ∧ AlY p q i k ∧ (∀ k' i', k' < k → ¬ AlY p q i' k') ∧ ∀ i', i' < i → ¬ AlY p q i' k)
theorem AlS.some (p q : PatD) : ∃ x y f, AlS p q x y f := by
  by_cases h : AlE p q ∧ ∃ k i, AlY p q i k
  · obtain ⟨he, k0, hk0⟩ := h
    obtain ⟨k, ⟨i0, hi0⟩, hk⟩ := exists_min (fun k => ∃ i, AlY p q i k) hk0
    obtain ⟨i, hi, hm⟩ := exists_min (fun i => AlY p q i k) hi0
    refine ⟨i, k, true, .inr ⟨rfl, he, i, k, rfl, rfl, hi, fun k' i' hlt h => ?_, fun i' hlt h => ?_⟩⟩
    · have := hk k' ⟨i', h⟩; omega
    · have := hm i' h; omega
  · exact ⟨0, 0, false, .inl ⟨rfl, rfl, rfl, fun he i k hy => h ⟨he, k, i, hy⟩⟩⟩
/-- What is known of the first shift while one looks for it. -/
theorem AlS.more {p q : PatD} {x y : Int} {f : Bool} (h : AlS p q x y f) (he : AlE p q) {i k : Nat} (hi : (i : Int) < (lst (colF p)).a) (hk : (k : Int) < (lst (colF p)).c) (hpast : f = true → (k : Int) < y ∨ ((k : Int) = y ∧ (i : Int) ≤ x)) :
    (shiftF (colF p) i k = colF q ↔ f = true ∧ x = i ∧ y = k) := by
  rcases h with ⟨h1, h2, h3, h4⟩ | ⟨h1, h2, i', k', h3, h4, h5, h6, h7⟩
  · constructor
    · intro e; exact absurd ⟨hi, hk, e⟩ (h4 he i k)
    · rintro ⟨e, -⟩; rw [h3] at e; cases e
  · constructor
    · intro e
      have hy : AlY p q i k := ⟨hi, hk, e⟩
      rcases hpast h1 with h8 | ⟨h8, h9⟩
      · exact absurd hy (h6 k i (by omega))
      · have hkk : k = k' := by omega
        subst hkk
        rcases Nat.lt_or_ge i i' with h10 | h10
        · exact absurd hy (h7 i h10)
        · exact ⟨h1, by omega, h4⟩
    · rintro ⟨-, e1, e2⟩
      have e3 : i = i' := by omega
      have e4 : k = k' := by omega
      rw [e3, e4]; exact h5.2.2
theorem AlS.in {p q : PatD} {x y : Int} (h : AlS p q x y true) : AlE p q ∧ 0 ≤ x ∧ x < (lst (colF p)).a ∧ 0 ≤ y ∧ y < (lst (colF p)).c ∧ shiftF (colF p) x y = colF q := by
  rcases h with ⟨h1, h2, h3, h4⟩ | ⟨h1, h2, i', k', h3, h4, h5, h6, h7⟩
  · cases h3
  · subst h3; subst h4
    exact ⟨h2, by omega, h5.1, by omega, h5.2.1, h5.2.2⟩
theorem AlS.no {p q : PatD} {x y : Int} {f : Bool} (h : AlS p q x y f) (he : ¬ AlE p q) : x = 0 ∧ y = 0 ∧ f = false := by
  rcases h with ⟨h1, h2, h3, -⟩ | ⟨-, h2, -⟩
  · exact ⟨h1, h2, h3⟩
  · exact absurd h2 he
theorem AlS.non {p q : PatD} {x y : Int} (h : AlS p q x y false) : x = 0 ∧ y = 0 := by
  rcases h with ⟨h1, h2, -⟩ | ⟨h1, -⟩
  · exact ⟨h1, h2⟩
  · cases h1
/-- Worlds in which two boxes of integers hold what they hold. -/
structure IW (b4 b5 : Nat) (x y : Int) where
  val : World
  h4 : IBox val b4 x
  h5 : IBox val b5 y
theorem iw4 {b4 b5 : Nat} {x y : Int} (v : IW b4 b5 x y) : v.val.cell? ⟨b4, 0, none⟩ = some (.int .i64 x) := v.h4.cell
theorem iw5 {b4 b5 : Nat} {x y : Int} (v : IW b4 b5 x y) : v.val.cell? ⟨b5, 0, none⟩ = some (.int .i64 y) := v.h5.cell
theorem IBox.set {w : World} {b : Nat} {x : Int} (h : IBox w b x) (y : Int) : IBox (w.setCell ⟨b, 0, none⟩ (.int .i64 y)) b y := by
  obtain ⟨hg, he⟩ := Array.getElem?_eq_some_iff.1 h
  unfold IBox
  simp [World.setCell, hg, Array.getElem_modify, he]
theorem IBox.other {w : World} {b : Nat} {x : Int} (h : IBox w b x) {p : Addr} (hp : b ≠ p.block) (u : Value) : IBox (w.setCell p u) b x := (Below.heap_setCell w p u b hp).trans h
theorem IBox.frozen {w : World} {b : Nat} {x : Int} (h : IBox w b x) : w.frozen? ⟨b, 0, none⟩ = false := frozen_of_row w b 0 _ _ h
set_option maxRecDepth 100000 in
theorem align_fun (w : World) (bx xb yb : Nat) (p : PatD) (A : Option Addr) (cap : Nat) (dx dy : Int) (h : PBox w bx p.a p.b p.c (.slice A p.xs.length cap)) (hx : IBox w xb dx) (hy : IBox w yb dy) (hp : PatOK p) (hi : PatIn w p A) (h1 : -100000 ≤ dx ∧ dx ≤ 100000) (h2 : -100000 ≤ dy ∧ dy ≤ 100000) :
    FunV w (.func (.func 45) #[] #[.pointer (some ⟨bx, 0, none⟩), .pointer (some ⟨xb, 0, none⟩), .pointer (some ⟨yb, 0, none⟩)]) (shiftF (colF p) dx dy) 50000000 := by
  refine ⟨_, _, rfl, fun args w' => ?_, fun w' hb x y h0 h3 h4 h5 => ?_⟩
  · go_simp
  · obtain ⟨q0, q1, q2, q3, q4⟩ := (h.keep hb).cells
    have q5 := (hx.keep hb).cell
    have q6 := (hy.keep hb).cell
    have k1 : IntKind.i64.wrap (x - dx) = x - dx := IntWalk.i64_in _ (by omega)
    have k2 : IntKind.i64.wrap (y - dy) = y - dy := IntWalk.i64_in _ (by omega)
    have HC := Lib.hid (pcolor_any p hp A p.xs.length cap (x - dx) (y - dy) (by omega) (by omega) (by omega) (by omega) w' (hi.below hb))
    obtain ⟨z, hz⟩ : ∃ z, z = colF p (x - dx) (y - dy) := ⟨_, rfl⟩
    have HZ := Lib.hid (show z = shiftF (colF p) dx dy x y from hz)
    rw [← hz] at HC
    clear h hi hb hp hx hy hz
    show Calls Tryz.prog 45 #[.int .i64 x, .int .i64 y, .pointer (some ⟨bx, 0, none⟩), .pointer (some ⟨xb, 0, none⟩), .pointer (some ⟨yb, 0, none⟩)] w' _
    go_enter Tryz.func45, Tryz.ntmps45
    go_wp2_with fail
    refine HC.out.mono ?_
    rintro e w2 ⟨rfl, hb2⟩
    go_wp2
    go_ret
    exact ⟨by rw [← HZ.out]; rfl, hb2⟩
/-- Four new boxes hold. -/
structure AW (w wr : World) (t1 t2 : PatD) (A1 : Option Addr) (k1 : Nat) (A2 : Option Addr) (k2 : Nat) (b4 b5 b8 b9 : Nat) (dx dy : Int) : Prop where
  i4 : IBox wr b4 dx
  i5 : IBox wr b5 dy
  p8 : PBox wr b8 t1.a t1.b t1.c (.slice A1 t1.xs.length k1)
  p9 : PBox wr b9 t2.a t2.b t2.c (.slice A2 t2.xs.length k2)
  o1 : OwnI wr (b5 + 1) (.slice A1 t1.xs.length k1) t1.xs
  o2 : OwnI wr (b5 + 1) (.slice A2 t2.xs.length k2) t2.xs
  b : Below w.heap.size w wr
  l4 : w.heap.size ≤ b4
  l45 : b4 < b5
  l8 : b5 < b8
  l9 : b5 < b9
section
variable {w wr w' : World} {t1 t2 : PatD} {A1 A2 : Option Addr} {k1 k2 b4 b5 b8 b9 : Nat} {dx dy : Int}
theorem AW.keep (h : AW w wr t1 t2 A1 k1 A2 k2 b4 b5 b8 b9 dx dy) (hb : Below wr.heap.size wr w') : AW w w' t1 t2 A1 k1 A2 k2 b4 b5 b8 b9 dx dy :=
  ⟨h.i4.keep hb, h.i5.keep hb, h.p8.keep hb, h.p9.keep hb, OwnI.keep hb h.o1, OwnI.keep hb h.o2, h.b.trans (hb.mono h.b.size), h.l4, h.l45, h.l8, h.l9⟩
theorem AW.pin1 (h : AW w wr t1 t2 A1 k1 A2 k2 b4 b5 b8 b9 dx dy) : PatIn wr t1 A1 := by
  obtain ⟨A', c', e, hh⟩ := h.o1.isL
  cases e
  exact hh
theorem AW.pin2 (h : AW w wr t1 t2 A1 k1 A2 k2 b4 b5 b8 b9 dx dy) : PatIn wr t2 A2 := by
  obtain ⟨A', c', e, hh⟩ := h.o2.isL
  cases e
  exact hh
theorem own_cell {u : World} {v : Value} {xs : List Int} {B b : Nat} (h : OwnI u B v xs) (hb : b < B) (z : Value) : OwnI (u.setCell ⟨b, 0, none⟩ z) B v xs := by
  have hgr : u.grownBy (u.setCell ⟨b, 0, none⟩ z) (some b) := ⟨rfl, rfl, rfl, by simp [World.setCell], fun q _ hne => Below.heap_setCell u ⟨b, 0, none⟩ _ q (fun e => hne (by rw [e]))⟩
  refine OwnI.grown h hgr ?_
  rcases hv : v.ownBlock with _ | g
  · exact .inl rfl
  · exact .inr (fun e => by have := h.lt' g hv; cases e; omega)
theorem AW.set4 (h : AW w wr t1 t2 A1 k1 A2 k2 b4 b5 b8 b9 dx dy) (u : Int) : AW w (wr.setCell ⟨b4, 0, none⟩ (.int .i64 u)) t1 t2 A1 k1 A2 k2 b4 b5 b8 b9 u dy := by
  have := h.l45
  have := h.l8
  have := h.l9
  exact ⟨h.i4.set u, h.i5.other (by simp; omega) _, h.p8.other (by simp; omega) _, h.p9.other (by simp; omega) _, own_cell h.o1 (by omega) _, own_cell h.o2 (by omega) _, Below.setCell h.b (show w.heap.size ≤ b4 from h.l4) _, h.l4, h.l45, h.l8, h.l9⟩
theorem AW.set5 (h : AW w wr t1 t2 A1 k1 A2 k2 b4 b5 b8 b9 dx dy) (u : Int) : AW w (wr.setCell ⟨b5, 0, none⟩ (.int .i64 u)) t1 t2 A1 k1 A2 k2 b4 b5 b8 b9 dx u := by
  have := h.l45
  have := h.l8
  have := h.l9
  have := h.l4
  exact ⟨h.i4.other (by simp; omega) _, h.i5.set u, h.p8.other (by simp; omega) _, h.p9.other (by simp; omega) _, own_cell h.o1 (by omega) _, own_cell h.o2 (by omega) _, Below.setCell h.b (show w.heap.size ≤ b5 by omega) _, h.l4, h.l45, h.l8, h.l9⟩
end
/-- The tables of two functions are the same exactly if the functions are. -/
theorem tab_same {F G : Int → Int → Int} {n m : Nat} {b : Int} (hF : Base F n b m) (hG : Base G n b m) : tabN F n (n * m) = tabN G n (n * m) ↔ F = G := by
  constructor
  · intro h
    refine hF.ext hG fun x y x0 x1 y0 y1 => ?_
    obtain ⟨i, rfl⟩ := Int.eq_ofNat_of_zero_le x0
    obtain ⟨j, rfl⟩ := Int.eq_ofNat_of_zero_le y0
    have hi : i < n := by omega
    have hlt : j * n + i < n * m := by
      have h1 : (j + 1) * n ≤ m * n := Nat.mul_le_mul_right n (by omega)
      rw [Nat.add_mul, Nat.one_mul, Nat.mul_comm m n] at h1
      omega
    have e1 := tabN_get (F := F) (a := n) hlt
    have e2 := tabN_get (F := G) (a := n) hlt
    have k1 : (j * n + i) % n = i := by rw [Nat.mul_comm, Nat.mul_add_mod]; exact Nat.mod_eq_of_lt hi
    have k2 : (j * n + i) / n = j := by rw [Nat.mul_comm, Nat.mul_add_div (by omega), Nat.div_eq_of_lt hi]; rfl
    rw [k1, k2] at e1 e2
    rw [← e1, ← e2, h]
  · intro h; rw [h]
end Go.Proofs.YtlinldbbhdpgcaaGreatDoor
