/-
  THE REFERENCE: CopyLot, Copy.
-/
import Derived.Test.YtdgmpaijpjkeoaaOwnD
import Derived.Test.YtdgmpaijpjkeoaaRegL
import Derived.Test.YtdgmpaijpjkeoaaRegK
import Derived.Test.YtdgmpaijpjkeoaaLotD
namespace Go.Proofs.Ytdgmpaijpjkeoaa
open Go.RowKit
attribute [local go_sem] grow_cell grow_frozen
def lotC (kd ms : Int) (s : Value) : Array Value := #[.int .i64 kd, .int .i64 ms, s]
theorem lotSz (kd ms : Int) (s : Value) : (Try.prog.info? 37).map (·.size) = some (lotC kd ms s).size := by
  have h : (Try.prog.info? 37).map (·.size) = some 3 := by kernel_rfl
  exact h
theorem lot_one {kd ms : Int} {s : Value} (h1 : s.oneCell' = true) : (lotC kd ms s).all (·.oneCell') = true := by
  rw [Array.all_eq_true_iff_forall_mem]
  intro v hv
  simp only [lotC, List.mem_toArray, List.mem_cons, List.not_mem_nil, or_false] at hv
  rcases hv with rfl | rfl | rfl
  · rfl
  · rfl
  · exact h1
theorem st_lot_run {o : Oper} {a : Act} {w : World} (x y : Operand) (ho : o.op = .store 37 x y) (b : Nat) (old : Array Value) (kd ms : Int) (s : Value) (hx : a.eval x = .pointer (some ⟨b, 0, none⟩)) (hy : a.eval y = .agg (lotC kd ms s)) (hb : w.heap[b]? = some (.cells old 37 (0, 0))) (hold : old.size = 3) (h1 : s.oneCell' = true) :
    (execOp a.eval o).run Try.prog w = .ok .skip (w.setRow b (lotC kd ms s)) := by
  unfold execOp
  simp only [ho, hx, hy, Instr.storeAt, Instr.sureAddr, Sem.run_bind, Sem.run_pure, Result.andThen_ok, run_storeVar_row w b 37 37 old (lotC kd ms s) hb (lotSz kd ms s) (by rw [hold]; rfl) (lot_one h1)]
theorem PartO.one {w : World} {B : Nat} {hb : Option Nat} {ps : List (Int × Int)} {s : Value} (h : PartO w B hb ps s) : s.oneCell' = true := by
  obtain ⟨A, c, rfl, -⟩ := h
  rfl
theorem ret_lot {w : World} {b : Nat} {kd ms : Int} {s : Value} {tmps : Array Value} {fn : Func} {p : Tmp} (h : fn.results = #[.cell p 37]) (hp : tmps.getD p undef = .pointer (some ⟨b, 0, none⟩)) (hg : w.heap[b]? = some (.cells (lotC kd ms s) 37 (0, 0))) : (results fn tmps).run Try.prog w = .ok (.agg (lotC kd ms s)) w :=
  results_cell_row h _ _ b 37 (lotC kd ms s) (0, 0) _ hp hg Try.underlying37 rfl (lotSz kd ms s)
set_option maxRecDepth 100000 in
set_option maxHeartbeats 1000000 in
theorem copyLot_any (kd ms : Int) (ps : List (Int × Int)) (A : Option Addr) (c : Nat) (w : World) (hP : PartsIn w A ps) (hn : ps.length ≤ 1000) :
    Calls Try.prog 71 #[.agg #[.int .i64 kd, .int .i64 ms, .slice A ps.length c]] w fun e w' => ∃ s, e = .returned (.agg #[.int .i64 kd, .int .i64 ms, s]) ∧ PartO w' w.heap.size none ps s ∧ Below w.heap.size w w' := by
  have HP := Lib.hid hP
  clear hP
  go_enter Try.func71, Try.ntmps71
  go_upto_region 1 with fail
  obtain ⟨W, hW⟩ : ∃ W, W = (w.alloc (.cells #[.int .i64 kd, .int .i64 ms, .slice A ps.length c] 37)).alloc (.cells #[.int .i64 0, .int .i64 0, .slice none 0 0] 37) := ⟨_, rfl⟩
  rw [← hW]
  have hb := Lib.hid (show Below w.heap.size w W by rw [hW]; exact (by repeat' (first | (with_reducible exact Below.refl _ _) | (with_reducible assumption) | (with_reducible refine below_drewN ?_ _) | (with_reducible refine below_step (by assumption) ?_ ?_) | (with_reducible refine Below.alloc ?_ ?_ _) | (with_reducible refine Below.setCell ?_ ?_ _) | (with_reducible refine Below.drew ?_) | go_size | (exact Below.size (by assumption)) | (refine Nat.le_trans (Below.size (by assumption)) ?_))))
  have b0 : W.heap[w.heap.size]? = some (.cells #[.int .i64 kd, .int .i64 ms, .slice A ps.length c] 37 (0, 0)) := by rw [hW]; exact hp1 _ _ _
  have b1 : W.heap[w.heap.size + 1]? = some (.cells #[.int .i64 0, .int .i64 0, .slice none 0 0] 37 (0, 0)) := by rw [hW]; exact hp11 _ _ _
  have hz : w.heap.size + 1 < W.heap.size := by rw [hW]; simp
  have c0 : W.cell? ⟨w.heap.size, 0, none⟩ = some (.int .i64 kd) := (cell_of_row W _ 0 _ _ (0, 0) b0).trans rfl
  have c1 : W.cell? ⟨w.heap.size, 1, none⟩ = some (.int .i64 ms) := (cell_of_row W _ 1 _ _ (0, 0) b0).trans rfl
  have c2 : W.cell? ⟨w.heap.size, 2, none⟩ = some (.slice A ps.length c) := (cell_of_row W _ 2 _ _ (0, 0) b0).trans rfl
  have B1 := Lib.hid b1
  have hz0 : w.heap.size < W.heap.size := by omega
  clear hW b0 b1
  refine region_last (C := fun w' => ∃ x, w' = grow W x) [0, 1, 2, 3, 5, 6] [4, 7, 8, 9] 9 (by kernel_rfl) (by kernel_rfl) (grow_start W) ?_
  simp only [pickL, List.getElem?_cons_zero, List.getElem?_cons_succ]
  repeat (go_big_quiet_step (fail))
  refine wpQuiet_nil ?_
  rintro w3 ⟨xg, hxg⟩
  have hb3 := below_grow W xg
  rw [← hxg] at hb3
  refine d_val (.slice (some ⟨w3.heap.size, 0, none⟩) 0 0) (w3.alloc (.cells #[] 39)) rfl (by go_simp) ⟨xg, hxg⟩ ?_
  have hal := (Below.refl w3.heap.size w3).alloc (Nat.le_refl _) (.cells #[] 39)
  have hb4 := hb3.trans (hal.mono hb3.size)
  obtain ⟨s, w5, h1, h2, h3⟩ := parts_run (w3.alloc (.cells #[] 39)) 35 ps A c ((HP.out.below hb.out).below hb4) hn w3.heap.size _ (empty_own w3 _ _) (by simp)
  obtain ⟨A2, n2, hs2, -⟩ := id h2
  subst hs2
  obtain ⟨s, hs⟩ : ∃ s, s = Value.slice A2 ps.length n2 := ⟨_, rfl⟩
  have hb5 : Below W.heap.size W w5 := below_grown hb4 h3 hb3.size hb4.size
  refine d_val (.slice A2 ps.length n2) w5 rfl (exec_append (.tmp 7) (.tmp 9) 35 rfl (.slice (some ⟨w3.heap.size, 0, none⟩) 0 0) (.slice A ps.length c) _ w5 rfl rfl h1) (grow_of_below hb4) ?_
  refine d_val (.agg (lotC kd ms (.slice A2 ps.length n2))) w5 rfl (by go_simp; rfl) (grow_of_below hb5) ?_
  rw [← hs] at h1 h2 ⊢
  clear hs
  have hb1 := (hb5.block _ hz).trans B1.out
  refine d_skip (w5.setRow (w.heap.size + 1) (lotC kd ms s)) rfl (st_lot_run _ _ rfl _ _ kd ms s rfl rfl hb1 rfl h2.one) (grow_of_below hb5) ?_
  have hgr := grown_setRow w5 (w.heap.size + 1) (lotC kd ms s)
  have hP2 : PartO w5 W.heap.size (some (w.heap.size + 1)) ps s := by
    obtain ⟨A2, c2, rfl, q1, q2, q3⟩ := h2
    exact ⟨A2, c2, rfl, q1, q2, fun hp => by
      obtain ⟨g, e, r1, -, r3⟩ := q3 hp
      exact ⟨g, e, Nat.le_trans hb3.size r1, fun e => by cases e; have := hb3.size; omega, r3⟩⟩
  have hrow : (w5.setRow (w.heap.size + 1) (lotC kd ms s)).heap[w.heap.size + 1]? = some (.cells (lotC kd ms s) 37 (0, 0)) := by
    obtain ⟨hg, he⟩ := Array.getElem?_eq_some_iff.1 hb1
    simp [World.setRow, hg, Array.getElem_modify, he]
  have H7 := Lib.hid (And.intro hrow (And.intro (hP2.grown hgr (.inl rfl) (.inl rfl)) (below_grown (hb.out.trans (hb5.mono hb.out.size)) hgr (by omega) (Nat.le_trans hb.out.size hb5.size))))
  obtain ⟨w7, hw7⟩ : ∃ w7, w7 = w5.setRow (w.heap.size + 1) (lotC kd ms s) := ⟨_, rfl⟩
  rw [← hw7] at H7
  show plainD _ _ _ _ _ _ _
  rw [← hw7]
  have hWz : w.heap.size ≤ W.heap.size := hb.out.size
  clear hw7 hrow hP2 hgr hb1 h1 h2 h3 hb5 hb4 hal hb3 hxg c0 c1 c2 B1 hb
  simp only [plainD]
  go_simp
  go_wp2
  refine bodyPost_ret (v := .agg (lotC kd ms s)) (ret_lot rfl rfl H7.out.1) rfl ⟨s, rfl, ?_, H7.out.2.2⟩
  obtain ⟨A2, c2, rfl, q1, q2, q3⟩ := H7.out.2.1
  exact ⟨A2, c2, rfl, q1, q2, fun hp => by
    obtain ⟨g, e, r1, -, r3⟩ := q3 hp
    exact ⟨g, e, Nat.le_trans hWz r1, by simp, r3⟩⟩
end Go.Proofs.Ytdgmpaijpjkeoaa
/-
  THE REFERENCE: Copy, Same.
-/
namespace Go.Proofs.Ytdgmpaijpjkeoaa
open Go.RowKit
theorem PartO.rebase {w : World} {B B' : Nat} {hb : Option Nat} {ps : List (Int × Int)} {s : Value} (h : PartO w B none ps s) (hB : B' ≤ B) (hv : ∀ g, hb = some g → g < B) : PartO w B' hb ps s := by
  obtain ⟨A, c, rfl, q1, q2, q3⟩ := h
  exact ⟨A, c, rfl, q1, q2, fun hp => by
    obtain ⟨g, e, r1, -, r3⟩ := q3 hp
    exact ⟨g, e, Nat.le_trans hB r1, fun e => by have := hv g e; omega, r3⟩⟩
/-- append(list, lot) of a lot that lies in the block that was made last. -/
theorem OwnL.push {w : World} {B : Nat} {v : Value} {ls : List LotD} (h : OwnL w B v ls) (x : LotD) (hx : I64 x.kind ∧ I64 x.mass) (s : Value) (hs : PartO w B v.ownBlock x.parts s) (hn : ls.length ≤ 1000) (hB : B ≤ w.heap.size) (ty : TypeId) :
    ∃ v' w', (Builtin.append_ #[22, 22] ty #[v, .slice (some ⟨w.heap.size, 0, none⟩) 1 1]).run Try.prog (w.alloc (.cells (lotC x.kind x.mass s) 37)) = .ok v' w' ∧ OwnL w' B v' (ls ++ [x]) ∧ w.grownBy w' v.ownBlock := by
  have hal := (Below.refl w.heap.size w).alloc (Nat.le_refl _) (.cells (lotC x.kind x.mass s) 37)
  have h1 := h.below hal
  have hs1 := hs.below hal
  obtain ⟨ts, t1, t2, t3⟩ := h1
  have hcells : CellsAt (w.alloc (.cells (lotC x.kind x.mass s) 37)) (some ⟨w.heap.size, 0, none⟩) (flat3 [(x.kind, x.mass, s)]) := fun _ => ⟨w.heap.size, 0, rfl, by simp, fun j u hu => by
    have hb := cell_of_row (w.alloc (.cells (lotC x.kind x.mass s) 37)) w.heap.size (0 + j) (lotC x.kind x.mass s) _ (0, 0) (heap_alloc_new w _)
    rw [hb, Nat.zero_add]
    simp only [flat3, List.flatMap_cons, List.flatMap_nil, List.append_nil] at hu
    simp only [lotC, List.getElem?_toArray]
    exact hu⟩
  obtain ⟨v', w', r1, r2, r3, r4⟩ := lots_run (w.alloc (.cells (lotC x.kind x.mass s) 37)) ty (some ⟨w.heap.size, 0, none⟩) 1 1 [(x.kind, x.mass, s)] rfl (fun t ht => by simp at ht; subst ht; exact hs.one) hcells B v ls.length (flat3 ts) (by omega) t1 (by simp; omega)
  refine ⟨v', w', r1, ?_, ⟨r3.os, r3.tape, r3.output, by have := r3.size; simp at this; omega, fun k hk hne => (r3.block k (by simp; omega) hne).trans (heap_alloc_old w _ hk)⟩⟩
  refine ⟨ts ++ [(x.kind, x.mass, s)], ?_, by simp [t2], fun i hi hi' => ?_⟩
  · rw [flat3_append, List.length_append]
    exact r2
  · have hd : v'.ownBlock = v.ownBlock ∨ v'.ownBlock = some (w.alloc (.cells (lotC x.kind x.mass s) 37)).heap.size ∨ v'.ownBlock = some ((w.alloc (.cells (lotC x.kind x.mass s) 37)).heap.size + 1) := by
      rcases r4 with h | h
      · exact .inl h
      · exact .inr (.inl h)
    by_cases hil : i < ls.length
    · rw [List.getElem_append_left hil, List.getElem_append_left (by omega)]
      obtain ⟨e1, e2, e3, e4, e5⟩ := t3 i hil (by omega)
      exact ⟨e1, e2, e3, e4, e5.grown r3 (.inl rfl) hd⟩
    · have : i = ls.length := by simp at hi; omega
      subst this
      rw [List.getElem_append_right (Nat.le_refl _), List.getElem_append_right (by omega)]
      simp only [Nat.sub_self, t2, List.getElem_cons_zero]
      exact ⟨by first | trivial | rfl, by first | trivial | rfl, hx.1, hx.2, hs1.grown r3 (.inl rfl) hd⟩
theorem OwnL.below_push {w w0 w' : World} {B : Nat} {v : Value} {ls : List LotD} (h : OwnL w B v ls) (hb : Below B w0 w) (hg : w.grownBy w' v.ownBlock) (hB : B ≤ w.heap.size) : Below B w0 w' := hb.grown hg hB (fun g hg => (h.lt g hg).1)
set_option maxRecDepth 100000 in
set_option maxHeartbeats 1000000 in
theorem rcopy_any (l : List LotD) (hl : l.length ≤ 1000) (hps : ∀ x ∈ l, x.parts.length ≤ 1000) (A : Option Addr) (c : Nat) (w : World) (hL : LotsIn w A l) :
    Calls Try.prog 29 #[.slice A l.length c] w fun e w' => ∃ v, e = .returned v ∧ OwnL w' w.heap.size v l ∧ Below w.heap.size w w' := by
  have HL := Lib.hid hL
  have HPS := Lib.hid hps
  clear hL hps
  go_enter Try.func29, Try.ntmps29
  go_wp2
  go_loopw [3, 4] (fun v t wr => ∃ k : Nat, t = .int .i64 k ∧ k ≤ l.length ∧ Hid (OwnL wr w.heap.size v (l.take k) ∧ Below w.heap.size w wr)) (fun _ t _ => l.length - (intOf t).toNat)
  case atStart => exact ⟨0, rfl, by omega, Lib.hid ⟨OwnL.nil _ _, Below.refl _ _⟩⟩
  case round =>
    obtain ⟨k, rfl, hk, hr⟩ := hrel
    by_cases hlt : k < l.length
    · obtain ⟨b, o, rfl, hc⟩ := (HL.out.below hr.out.2) (by omega)
      obtain ⟨e1, e2, e3, e4, e5, A', c', e6, e8, e7⟩ := hc k hlt
      have hpl := HPS.out _ (List.getElem_mem hlt)
      have htk : l.take (k + 1) = l.take k ++ [l[k]] := List.take_succ_eq_append_getElem hlt
      obtain ⟨x, hx⟩ : ∃ x, x = l[k] := ⟨_, rfl⟩
      rw [← hx] at e1 e2 e4 e5 e6 e7 hpl htk
      obtain ⟨kd, ms, ps⟩ := x
      simp only at e1 e2 e4 e5 e6 e7 hpl
      have HP := Lib.hid e7
      have HI := Lib.hid (And.intro e1 e2)
      have HT := Lib.hid htk
      clear hc e1 e2 e7 e8 hx htk
      go_wp2_with fail
      refine (copyLot_any kd ms ps A' c' wr HP.out hpl).mono ?_
      rintro e w2 ⟨s, rfl, hs, hb2⟩
      have hsz := hr.out.2.size
      have H2 := Lib.hid (And.intro (hr.out.1.below hb2) (hr.out.2.trans (hb2.mono hsz)))
      have hs2 := hs.rebase (hb := _) hsz (fun g hg => (hr.out.1.lt g hg).2)
      have hsz2 := H2.out.2.size
      obtain ⟨v', w3, r1, r2, r3⟩ := H2.out.1.push ⟨kd, ms, ps⟩ HI.out s hs2 (by rw [List.length_take]; omega) hsz2 22
      have r4 := H2.out.1.below_push H2.out.2 r3 hsz2
      rw [← HT.out] at r2
      have H3 := Lib.hid (And.intro r2 r4)
      have HR := Lib.hid r1
      clear r1 r2 r3 r4 hs2 hs hb2 e3 e4 e5 e6 hr
      go_wp2_with (at_builtin; refine wpList_app rfl (.tmp 11) (.tmp 17) 22 rfl _ _ v' w3 rfl rfl HR.out ?_)
      go_roundw
      case rel => exact ⟨k + 1, by go_num, by omega, H3⟩
      case measure => simp [intOf]; omega
    · obtain rfl : k = l.length := by omega
      have h1 := hr.out.1
      rw [List.take_length] at h1
      have HO := Lib.hid (And.intro h1 hr.out.2)
      clear hr h1
      go_wp2
      go_ret
      exact ⟨_, rfl, HO.out⟩
end Go.Proofs.Ytdgmpaijpjkeoaa
/-
  LISTS OF LOTS JOINED; PARTS THAT ARE WRITTEN.
-/
namespace Go.Proofs.Ytdgmpaijpjkeoaa
open Go.RowKit
theorem PartO.move {w : World} {B B' : Nat} {hb hb' : Option Nat} {ps : List (Int × Int)} {s : Value} (h : PartO w B hb ps s) (hB : B' ≤ B) (hv : ∀ g, hb' = some g → g < B) : PartO w B' hb' ps s := by
  obtain ⟨A, c, rfl, q1, q2, q3⟩ := h
  exact ⟨A, c, rfl, q1, q2, fun hp => by
    obtain ⟨g, e, r1, -, r3⟩ := q3 hp
    exact ⟨g, e, Nat.le_trans hB r1, fun e => by have := hv g e; omega, r3⟩⟩
theorem OwnL.join {w : World} {B B2 : Nat} {v1 v2 : Value} {l1 l2 : List LotD} (h1 : OwnL w B v1 l1) (h2 : OwnL w B2 v2 l2) (hB : B ≤ B2) (hv : ∀ g, v1.ownBlock = some g → g < B2) (hn : l1.length + l2.length ≤ 1000) (hb : B ≤ w.heap.size) (ty : TypeId) :
    ∃ v' w', (Builtin.append_ #[22, 22] ty #[v1, v2]).run Try.prog w = .ok v' w' ∧ OwnL w' B v' (l1 ++ l2) ∧ w.grownBy w' v1.ownBlock := by
  obtain ⟨ts1, t1, t2, t3⟩ := h1
  obtain ⟨ts2, u1, u2, u3⟩ := h2
  obtain ⟨A, c, rfl, hle, hc⟩ := own_slice u1
  obtain ⟨v', w', r1, r2, r3, r4⟩ := lots_run w ty A l2.length c ts2 u2 (fun t ht => by
    obtain ⟨i, hi, rfl⟩ := List.getElem_of_mem ht
    obtain ⟨-, -, -, -, e5⟩ := u3 i (by omega) hi
    exact e5.one) (hc (by decide)) B v1 l1.length (flat3 ts1) (by omega) t1 hb
  refine ⟨v', w', r1, ⟨ts1 ++ ts2, ?_, by simp [t2, u2], fun i hi hi' => ?_⟩, r3⟩
  · rw [flat3_append, List.length_append]
    exact r2
  · have hd : v'.ownBlock = v1.ownBlock ∨ v'.ownBlock = some w.heap.size ∨ v'.ownBlock = some (w.heap.size + 1) := by
      rcases r4 with h | h
      · exact .inl h
      · exact .inr (.inl h)
    by_cases hil : i < l1.length
    · rw [List.getElem_append_left hil, List.getElem_append_left (by omega)]
      obtain ⟨e1, e2, e3, e4, e5⟩ := t3 i hil (by omega)
      exact ⟨e1, e2, e3, e4, e5.grown r3 (.inl rfl) hd⟩
    · have hi2 : i - l1.length < l2.length := by simp at hi; omega
      rw [List.getElem_append_right (by omega), List.getElem_append_right (by omega)]
      obtain ⟨e1, e2, e3, e4, e5⟩ := u3 (i - l1.length) hi2 (by omega)
      simp only [t2]
      exact ⟨e1, e2, e3, e4, (e5.move (hb' := v1.ownBlock) hB hv).grown r3 (.inl rfl) hd⟩
theorem PartO.down {w : World} {B B' : Nat} {hb : Option Nat} {ps : List (Int × Int)} {s : Value} (h : PartO w B hb ps s) (hB : B' ≤ B) : PartO w B' hb ps s := by
  obtain ⟨A, c, rfl, q1, q2, q3⟩ := h
  exact ⟨A, c, rfl, q1, q2, fun hp => by
    obtain ⟨g, e, r1, r2, r3⟩ := q3 hp
    exact ⟨g, e, Nat.le_trans hB r1, r2, r3⟩⟩
theorem ownsRow_down {w : World} {B B' : Nat} {e : TypeId} {size : Nat} {v : Value} {n : Nat} {xs : List Value} (h : w.ownsRow B e size v n xs) (hB : B' ≤ B) : w.ownsRow B' e size v n xs := by
  refine ⟨h.1, ?_⟩
  rcases h.2 with h | ⟨g, cap, cur, e, h1, h2⟩
  · exact .inl h
  · exact .inr ⟨g, cap, cur, e, Nat.le_trans hB h1, h2⟩
theorem OwnL.down {w : World} {B B' : Nat} {v : Value} {ls : List LotD} (h : OwnL w B v ls) (hB : B' ≤ B) : OwnL w B' v ls := by
  obtain ⟨ts, t1, t2, t3⟩ := h
  refine ⟨ts, ownsRow_down t1 hB, t2, fun i hi hi' => ?_⟩
  obtain ⟨e1, e2, e3, e4, e5⟩ := t3 i hi hi'
  exact ⟨e1, e2, e3, e4, e5.down hB⟩
/-- The parts of n lots at o in block b may be written; they lie in memory from block B on, outside of b. -/
def MutL (w : World) (B b : Nat) (ms : List Nat) : Prop :=
  B ≤ b ∧ b < w.heap.size ∧ ∀ i (h : i < ms.length), ∃ A c, w.cell? ⟨b, i * 3 + 2, none⟩ = some (.slice A ms[i] c) ∧ ms[i] ≤ c ∧ (0 < ms[i] → ∃ g xs, A = some ⟨g, 0, none⟩ ∧ B ≤ g ∧ b ≠ g ∧ Row w g xs ∧ xs.length = ms[i] * 2)
theorem MutL.drewN {w : World} {B b : Nat} {ms : List Nat} (h : MutL w B b ms) (m : Nat) : MutL (w.drewN m) B b ms := h
theorem OwnL.mut {w : World} {B g n c : Nat} {ls : List LotD} (h : OwnL w B (.slice (some ⟨g, 0, none⟩) n c) ls) : n = ls.length ∧ MutL w B g (ls.map (·.parts.length)) := by
  obtain ⟨A, c', e, hle, hL⟩ := h.lots
  cases e
  refine ⟨rfl, ?_⟩
  have hlt := h.lt g rfl
  obtain ⟨ts, t1, t2, t3⟩ := h
  refine ⟨hlt.1, hlt.2, fun i hi => ?_⟩
  simp only [List.length_map] at hi
  obtain ⟨e1, e2, e3, e4, e5⟩ := t3 i hi (by omega)
  obtain ⟨q1, q2, q3⟩ := flat3_at ts i (by omega)
  obtain ⟨A', c2, e6, e7, e8, e9⟩ := e5
  have := World.ownsRow.cells t1 (g := g) rfl _ _ q3
  rw [Addr.add_mid, Nat.zero_add, e6] at this
  simp only [List.getElem_map]
  refine ⟨A', c2, this, e7, fun hp => ?_⟩
  obtain ⟨g', f1, f2, f3, f4⟩ := e9 hp
  exact ⟨g', _, f1, f2, fun e => f3 (by rw [e]; rfl), f4, flatP_length _⟩
theorem MutL.set {w : World} {B b g : Nat} {ms : List Nat} (h : MutL w B b ms) (hne : b ≠ g) (j : Nat) (u : Value) : MutL (w.setCell ⟨g, j, none⟩ u) B b ms := by
  refine ⟨h.1, by simpa using h.2.1, fun i hi => ?_⟩
  obtain ⟨A, c, e1, e2, e3⟩ := h.2.2 i hi
  refine ⟨A, c, ?_, e2, fun hp => ?_⟩
  · exact (World.cell?_of_block (a := ⟨b, _, none⟩) (Below.heap_setCell w ⟨g, j, none⟩ u b hne)).trans e1
  · obtain ⟨g', xs, f1, f2, f3, f4, f5⟩ := e3 hp
    by_cases hg : g' = g
    · subst hg
      exact ⟨g', xs.set j u, f1, f2, f3, f4.set j u, by rw [List.length_set]; exact f5⟩
    · exact ⟨g', xs, f1, f2, f3, f4.other hg u, f5⟩
theorem MutL.at {w : World} {B b : Nat} {ms : List Nat} (h : MutL w B b ms) (i : Nat) (hi : i < ms.length) : ∃ A c, w.cell? ⟨b, i * 3 + 2, none⟩ = some (.slice A ms[i] c) ∧ ms[i] ≤ c ∧ (∀ k, k < ms[i] → ∃ g u, A = some ⟨g, 0, none⟩ ∧ B ≤ g ∧ g < w.heap.size ∧ b ≠ g ∧ w.cell? ⟨g, k * 2 + 1, none⟩ = some u ∧ w.frozen? ⟨g, k * 2 + 1, none⟩ = false) := by
  obtain ⟨A, c, e1, e2, e3⟩ := h.2.2 i hi
  refine ⟨A, c, e1, e2, fun k hk => ?_⟩
  obtain ⟨g, xs, f1, f2, f3, f4, f5⟩ := e3 (by omega)
  exact ⟨g, _, f1, f2, f4.lt, f3, f4.get (k * 2 + 1) (by omega), f4.free _⟩
end Go.Proofs.Ytdgmpaijpjkeoaa
