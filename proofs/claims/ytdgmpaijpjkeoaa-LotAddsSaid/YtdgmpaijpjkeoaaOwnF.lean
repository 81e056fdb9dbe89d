/-
  THE REFERENCE: Copy, Same.
-/
import Derived.Test.YtdgmpaijpjkeoaaOwnE
import Derived.Test.YtdgmpaijpjkeoaaLotB
namespace Go.Proofs.Ytdgmpaijpjkeoaa
open Go.RowKit
theorem PartO.rebase {w : World} {B B' : Nat} {hb : Option Nat} {ps : List (Int × Int)} {s : Value} (h : PartO w B none ps s) (hB : B' ≤ B) (hv : ∀ g, hb = some g → g < B) : PartO w B' hb ps s := by
  obtain ⟨A, c, rfl, q1, q2, q3⟩ := h
  exact ⟨A, c, rfl, q1, q2, fun hp => by
    obtain ⟨g, e, r1, -, r3⟩ := q3 hp
    exact ⟨g, e, Nat.le_trans hB r1, fun e => by have := hv g e; omega, r3⟩⟩
/-- append(list, lot) of a lot that lies in the block that was made last. -/
theorem OwnL.push {w : World} {B : Nat} {v : Value} {ls : List LotD} (h : OwnL w B v ls) (x : LotD) (hx : I64 x.kind ∧ I64 x.mass) (s : Value) (hs : PartO w B v.ownBlock x.parts s) (hn : ls.length ≤ 1000) (hB : B ≤ w.heap.size) (ty : TypeId) :
    ∃ v' w', (Builtin.append_ #[22, 22] ty #[v, .slice (some ⟨w.heap.size, 0, none⟩) 1 1]).run Try.prog (w.alloc (.cells (lotC x.kind x.mass s) 37)) = .ok v' w' ∧ OwnL w' B v' (ls ++ [x]) ∧ w.grownBy w' v.ownBlock := by
  have hal := (Below.refl w.heap.size w).alloc (Nat.le_refl _) (.cells (lotC x.kind x.mass s) 37)
  have h1 := h.below hal
  have hs1 := hs.below hal
  obtain ⟨ts, t1, t2, t3⟩ := h1
  have hcells : CellsAt (w.alloc (.cells (lotC x.kind x.mass s) 37)) (some ⟨w.heap.size, 0, none⟩) (flat3 [(x.kind, x.mass, s)]) := fun _ => ⟨w.heap.size, 0, rfl, by simp, fun j u hu => by
    have hb := cell_of_row (w.alloc (.cells (lotC x.kind x.mass s) 37)) w.heap.size (0 + j) (lotC x.kind x.mass s) _ (0, 0) (heap_alloc_new w _)
    rw [hb, Nat.zero_add]
    simp only [flat3, List.flatMap_cons, List.flatMap_nil, List.append_nil] at hu
    simp only [lotC, List.getElem?_toArray]
    exact hu⟩
  obtain ⟨v', w', r1, r2, r3, r4⟩ := lots_run (w.alloc (.cells (lotC x.kind x.mass s) 37)) ty (some ⟨w.heap.size, 0, none⟩) 1 1 [(x.kind, x.mass, s)] rfl (fun t ht => by simp at ht; subst ht; exact hs.one) hcells B v ls.length (flat3 ts) (by omega) t1 (by simp; omega)
  refine ⟨v', w', r1, ?_, ⟨r3.os, r3.tape, r3.output, by have := r3.size; simp at this; omega, fun k hk hne => (r3.block k (by simp; omega) hne).trans (heap_alloc_old w _ hk)⟩⟩
  refine ⟨ts ++ [(x.kind, x.mass, s)], ?_, by simp [t2], fun i hi hi' => ?_⟩
  · rw [flat3_append, List.length_append]
    exact r2
  · have hd : v'.ownBlock = v.ownBlock ∨ v'.ownBlock = some (w.alloc (.cells (lotC x.kind x.mass s) 37)).heap.size ∨ v'.ownBlock = some ((w.alloc (.cells (lotC x.kind x.mass s) 37)).heap.size + 1) := by
      rcases r4 with h | h
      · exact .inl h
      · exact .inr (.inl h)
    by_cases hil : i < ls.length
    · rw [List.getElem_append_left hil, List.getElem_append_left (by omega)]
      obtain ⟨e1, e2, e3, e4, e5⟩ := t3 i hil (by omega)
      exact ⟨e1, e2, e3, e4, e5.grown r3 (.inl rfl) hd⟩
    · have : i = ls.length := by simp at hi; omega
      subst this
      rw [List.getElem_append_right (Nat.le_refl _), List.getElem_append_right (by omega)]
      simp only [Nat.sub_self, t2, List.getElem_cons_zero]
      exact ⟨by first | trivial | rfl, by first | trivial | rfl, hx.1, hx.2, hs1.grown r3 (.inl rfl) hd⟩
theorem OwnL.below_push {w w0 w' : World} {B : Nat} {v : Value} {ls : List LotD} (h : OwnL w B v ls) (hb : Below B w0 w) (hg : w.grownBy w' v.ownBlock) (hB : B ≤ w.heap.size) : Below B w0 w' := hb.grown hg hB (fun g hg => (h.lt g hg).1)
set_option maxRecDepth 100000 in
set_option maxHeartbeats 1000000 in
theorem rcopy_any (l : List LotD) (hl : l.length ≤ 1000) (hps : ∀ x ∈ l, x.parts.length ≤ 1000) (A : Option Addr) (c : Nat) (w : World) (hL : LotsIn w A l) :
    Calls Try.prog 29 #[.slice A l.length c] w fun e w' => ∃ v, e = .returned v ∧ OwnL w' w.heap.size v l ∧ Below w.heap.size w w' := by
  have HL := Lib.hid hL
  have HPS := Lib.hid hps
  clear hL hps
  go_enter Try.func29, Try.ntmps29
  go_wp2
  go_loopw [3, 4] (fun v t wr => ∃ k : Nat, t = .int .i64 k ∧ k ≤ l.length ∧ Hid (OwnL wr w.heap.size v (l.take k) ∧ Below w.heap.size w wr)) (fun _ t _ => l.length - (intOf t).toNat)
  case atStart => exact ⟨0, rfl, by omega, Lib.hid ⟨OwnL.nil _ _, Below.refl _ _⟩⟩
  case round =>
    obtain ⟨k, rfl, hk, hr⟩ := hrel
    by_cases hlt : k < l.length
    · obtain ⟨b, o, rfl, hc⟩ := (HL.out.below hr.out.2) (by omega)
      obtain ⟨e1, e2, e3, e4, e5, A', c', e6, e8, e7⟩ := hc k hlt
      have hpl := HPS.out _ (List.getElem_mem hlt)
      have htk : l.take (k + 1) = l.take k ++ [l[k]] := List.take_succ_eq_append_getElem hlt
      obtain ⟨x, hx⟩ : ∃ x, x = l[k] := ⟨_, rfl⟩
      rw [← hx] at e1 e2 e4 e5 e6 e7 hpl htk
      obtain ⟨kd, ms, ps⟩ := x
      simp only at e1 e2 e4 e5 e6 e7 hpl
      have HP := Lib.hid e7
      have HI := Lib.hid (And.intro e1 e2)
      have HT := Lib.hid htk
      clear hc e1 e2 e7 e8 hx htk
      go_wp2_with fail
      refine (copyLot_any kd ms ps A' c' wr HP.out hpl).mono ?_
      rintro e w2 ⟨s, rfl, hs, hb2⟩
      have hsz := hr.out.2.size
      have H2 := Lib.hid (And.intro (hr.out.1.below hb2) (hr.out.2.trans (hb2.mono hsz)))
      have hs2 := hs.rebase (hb := _) hsz (fun g hg => (hr.out.1.lt g hg).2)
      have hsz2 := H2.out.2.size
      obtain ⟨v', w3, r1, r2, r3⟩ := H2.out.1.push ⟨kd, ms, ps⟩ HI.out s hs2 (by rw [List.length_take]; omega) hsz2 22
      have r4 := H2.out.1.below_push H2.out.2 r3 hsz2
      rw [← HT.out] at r2
      have H3 := Lib.hid (And.intro r2 r4)
      have HR := Lib.hid r1
      clear r1 r2 r3 r4 hs2 hs hb2 e3 e4 e5 e6 hr
      go_wp2_with (at_builtin; refine wpList_app rfl (.tmp 11) (.tmp 17) 22 rfl _ _ v' w3 rfl rfl HR.out ?_)
      go_roundw
      case rel => exact ⟨k + 1, by go_num, by omega, H3⟩
      case measure => simp [intOf]; omega
    · obtain rfl : k = l.length := by omega
      have h1 := hr.out.1
      rw [List.take_length] at h1
      have HO := Lib.hid (And.intro h1 hr.out.2)
      clear hr h1
      go_wp2
      go_ret
      exact ⟨_, rfl, HO.out⟩
end Go.Proofs.Ytdgmpaijpjkeoaa
