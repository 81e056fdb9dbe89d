/-
  WHOLE NUMBERS IN DIGITS TO THE BASE 2^24: how they lie in memory; Small, Times.
-/
import Derived.Test.YtdgmpaijpjkeoaaWhoM
import Derived.Test.YtdgmpaijpjkeoaaOwn
namespace Go.Proofs.Ytdgmpaijpjkeoaa
open Go.RowKit
def casts (zs : List Nat) : List Int := zs.map (fun z : Nat => (z : Int))
theorem casts_length (zs : List Nat) : (casts zs).length = zs.length := by simp [casts]
theorem casts_getD {zs : List Nat} {k : Nat} (h : k < zs.length) : (casts zs).getD k 0 = (zs[k] : Int) := by
  rw [List.getD_eq_getElem?_getD]; simp [casts, h]
theorem casts_snoc (zs : List Nat) (z : Nat) : casts (zs ++ [z]) = casts zs ++ [(z : Int)] := by simp [casts]
/-- The slice with address A and length n reads as the digits of a. -/
def IsW (w : World) (A : Option Addr) (n a : Nat) : Prop := ∃ zs : List Nat, WN zs a ∧ zs.length = n ∧ IsL w A n (casts zs)
theorem IsW.below {w w' : World} {A : Option Addr} {n a : Nat} (hb : Below w.heap.size w w') (h : IsW w A n a) : IsW w' A n a := by
  obtain ⟨zs, h1, h2, h3⟩ := h
  exact ⟨zs, h1, h2, h3.below hb⟩
theorem IsL.digit {w : World} {A : Option Addr} {n : Nat} {zs : List Nat} (h : IsL w A n (casts zs)) {k : Nat} (hk : k < zs.length) (hn : zs.length = n) : ∃ b o, A = some ⟨b, o, none⟩ ∧ b < w.heap.size ∧ w.cell? ⟨b, o + k, none⟩ = some (.int .i64 (zs[k] : Int)) := by
  obtain ⟨b, o, hA, hb, hc⟩ := h.2 (by omega)
  exact ⟨b, o, hA, hb, by rw [hc k (by omega), casts_getD hk]⟩
theorem IsW.zero {w : World} : IsW w none 0 0 := ⟨[], WN.nil, rfl, rfl, fun h => absurd h (by omega)⟩
/-- What a function that makes the whole number a returns. -/
def RetW (w : World) (a : Nat) (e : Ending) (w' : World) : Prop := ∃ A n c, e = .returned (.slice A n c) ∧ IsW w' A n a ∧ Below w.heap.size w w' ∧ ∀ x : Addr, A = some x → w.heap.size ≤ x.block
/-- .. or hands on. -/
def RetC (w : World) (a : Nat) (e : Ending) (w' : World) : Prop := ∃ A n c, e = .returned (.slice A n c) ∧ IsW w' A n a ∧ Below w.heap.size w w'
/-- The bound that all keep. -/
def topW : Nat := 16777216 ^ 100
theorem WN.len100 {zs : List Nat} {a : Nat} (h : WN zs a) (ha : a < topW) : zs.length ≤ 100 := h.len_le ha
theorem MkW.len {xs : List Nat} {c T : Nat} (h : MkW xs c T) (hT : T < 16777216 ^ 200) : xs.length ≤ 200 := by
  rcases Nat.lt_or_ge 200 xs.length with g | g
  · have h1 := h.top (by omega)
    have h2 := pwW_le (show 200 ≤ xs.length - 1 by omega)
    omega
  · exact g
theorem topW_mul {a k : Nat} (ha : a < topW) (hk : k ≤ 274877906944) : a * k < 16777216 ^ 200 := by
  have h1 : a * k ≤ topW * 274877906944 := Nat.mul_le_mul (Nat.le_of_lt ha) hk
  have h2 : topW * 274877906944 < 16777216 ^ 200 := by unfold topW; decide +kernel
  omega
/-- append(s, x) of one digit. -/
theorem append_w {w : World} {ops : Array Oper} {rest : List Oper} {o : Oper} {a : Act} {Q : Exit → Act → World → Prop} (s x : Operand)
    (ho : o.op = .call { callee := .builtin .append, args := #[s, x], argTypes := #[80, 80] }) (hgd : o.guard = none)
    (B : Nat) (v : Value) (zs : List Int) (k : Int) (W : World) (hW : w = W.alloc (.cells #[.int .i64 k] 3)) (hs : a.eval s = v) (hown : OwnI W B v zs) (hx : a.eval x = .slice (some ⟨W.heap.size, 0, none⟩) 1 1)
    (hn : zs.length ≤ 1000000) (hB : B ≤ W.heap.size)
    (h : ∀ v' w', OwnI w' B v' (zs ++ [k]) → W.grownBy w' v.ownBlock → (v'.ownBlock = v.ownBlock ∨ v'.ownBlock = some (W.heap.size + 1)) → wpList Try.prog ops Q rest (a.put o.dst v') w') : wpList Try.prog ops Q (o :: rest) a w := by
  subst hW
  obtain ⟨i0, hi, hz0, hz1, hz2⟩ := info_parts intInfo
  refine wpList_append_lies (P := Try.prog) (w := W.alloc (.cells #[.int .i64 k] 3)) hgd s x 80 ho B 3 i0 (.int .i64 0) 1 8 Try.underlying80 hi hz0 hz1 hz2 rfl (by decide) v zs.length _ hs (hown.alloc _) ⟨W.heap.size, 0, none⟩ 1 1 [.int .i64 k] hx rfl
    (by intro j u hu; match j, hu with | 0, hu => simp at hu; subst hu; simp [Addr.add]) (by intro u hu; simp at hu; subst hu; rfl) (by omega) (by unfold maxLen; omega) (by omega) (by simp; omega) (W.heap.size + 1) (by simp) ?_
  intro g cap w' h1 h2 h3 h4
  refine h _ w' ?_ ?_ ?_
  · unfold OwnI
    rw [List.length_append, List.map_append]
    exact h1
  · exact ⟨h2.os, h2.tape, h2.output, by have := h2.size; simp at this; omega, fun k hk hne => (h2.block k (by simp; omega) hne).trans (heap_alloc_old W _ hk)⟩
  · rcases h3 with h3 | h3
    · exact .inl h3.symm
    · subst h3; exact .inr rfl
/-- The digits xs in a row of one's own. -/
def OwnW (w0 w : World) (v : Value) (xs : List Nat) : Prop := OwnI w w0.heap.size v (casts xs) ∧ Below w0.heap.size w0 w
theorem OwnW.nil (w : World) : OwnW w w (.slice none 0 0) [] := ⟨OwnI.nil _ _, Below.refl _ _⟩
theorem OwnW.keep {w0 w w' : World} {v : Value} {xs : List Nat} (h : OwnW w0 w v xs) (hb : Below w.heap.size w w') : OwnW w0 w' v xs := ⟨h.1.keep hb, h.2.trans (hb.mono h.2.size)⟩
theorem OwnW.app {w0 w w' : World} {v v' : Value} {xs : List Nat} {z : Nat} (h : OwnW w0 w v xs) (h1 : OwnI w' w0.heap.size v' (casts xs ++ [(z : Int)])) (h2 : w.grownBy w' v.ownBlock) : OwnW w0 w' v' (xs ++ [z]) := by
  refine ⟨by rw [casts_snoc]; exact h1, h.2.grown h2 h.2.size (fun k hk => ?_)⟩
  exact (World.ownsRow.lt h.1 k hk).1
theorem OwnW.ret {w0 w : World} {v : Value} {xs : List Nat} {a : Nat} (h : OwnW w0 w v xs) (hw : WN xs a) : RetW w0 a (.returned v) w := by
  have hlt := World.ownsRow.lt h.1
  obtain ⟨A, c, rfl, hL⟩ := h.1.isL
  rw [casts_length] at hL
  refine ⟨A, xs.length, c, by rw [casts_length], ⟨xs, hw, rfl, hL⟩, h.2, fun x hx => ?_⟩
  subst hx
  exact (hlt x.block rfl).1
theorem OwnW.slice {w0 w : World} {v : Value} {xs : List Nat} (h : OwnW w0 w v xs) : ∃ A c, v = .slice A xs.length c ∧ IsL w A xs.length (casts xs) := by
  obtain ⟨A, c, rfl, hL⟩ := h.1.isL
  rw [casts_length] at hL
  exact ⟨A, c, by rw [casts_length], hL⟩
set_option maxRecDepth 100000 in
set_option maxHeartbeats 1000000 in
theorem wsmall_any (n : Nat) (hn : n ≤ 1000000000000000000) (w : World) :
    Calls Try.prog 90 #[.int .i64 n] w (RetW w n) := by
  have HT := Lib.hid (show n < 16777216 ^ 200 from Nat.lt_of_le_of_lt hn (by decide +kernel))
  go_enter Try.func90, Try.ntmps90
  go_wp2
  go_loopw [0, 3] (fun t v wr => ∃ (xs : List Nat) (c : Nat), t = .int .i64 c ∧ c ≤ n ∧ Hid (MkW xs c n ∧ OwnW w wr v xs)) (fun t _ _ => (intOf t).toNat)
  case atStart => exact ⟨[], n, rfl, Nat.le_refl _, MkW.start n, OwnW.nil w⟩
  case round =>
    obtain ⟨xs, c, rfl, hc, hr⟩ := hrel
    by_cases h0 : 0 < c
    · have hlen := hr.out.1.len HT.out
      have hst := hr.out.1.step h0
      have HST := Lib.hid hst
      have hsz := hr.out.2.2.size
      clear hst
      go_wp2_with (at_builtin; refine append_w (.tmp 6) (.tmp 9) rfl rfl w.heap.size _ _ _ wr rfl rfl hr.out.2.1 rfl (by rw [casts_length]; omega) hsz ?_; intro v' w1 ho hg _)
      have h1 := Lib.hid (hr.out.2.app (z := c % 16777216) ho hg)
      clear ho hg
      go_wp2
      go_roundw
      case rel => exact ⟨xs ++ [c % 16777216], c / 16777216, by go_num, by omega, HST.out, h1.out⟩
      case measure => simp [intOf]; omega
    · obtain rfl : c = 0 := by omega
      go_wp2
      go_ret
      exact hr.out.2.ret hr.out.1.done
end Go.Proofs.Ytdgmpaijpjkeoaa
