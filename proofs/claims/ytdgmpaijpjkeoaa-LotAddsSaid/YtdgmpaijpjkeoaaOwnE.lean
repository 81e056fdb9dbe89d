/-
  THE REFERENCE: CopyLot, Copy.
-/
import Derived.Test.YtdgmpaijpjkeoaaOwnD
import Derived.Test.YtdgmpaijpjkeoaaRegL
import Derived.Test.YtdgmpaijpjkeoaaRegK
namespace Go.Proofs.Ytdgmpaijpjkeoaa
open Go.RowKit
attribute [local go_sem] grow_cell grow_frozen
def lotC (kd ms : Int) (s : Value) : Array Value := #[.int .i64 kd, .int .i64 ms, s]
theorem lotSz (kd ms : Int) (s : Value) : (Try.prog.info? 37).map (·.size) = some (lotC kd ms s).size := by
  have h : (Try.prog.info? 37).map (·.size) = some 3 := by kernel_rfl
  exact h
theorem lot_one {kd ms : Int} {s : Value} (h1 : s.oneCell' = true) : (lotC kd ms s).all (·.oneCell') = true := by
  rw [Array.all_eq_true_iff_forall_mem]
  intro v hv
  simp only [lotC, List.mem_toArray, List.mem_cons, List.not_mem_nil, or_false] at hv
  rcases hv with rfl | rfl | rfl
  · rfl
  · rfl
  · exact h1
theorem st_lot_run {o : Oper} {a : Act} {w : World} (x y : Operand) (ho : o.op = .store 37 x y) (b : Nat) (old : Array Value) (kd ms : Int) (s : Value) (hx : a.eval x = .pointer (some ⟨b, 0, none⟩)) (hy : a.eval y = .agg (lotC kd ms s)) (hb : w.heap[b]? = some (.cells old 37 (0, 0))) (hold : old.size = 3) (h1 : s.oneCell' = true) :
    (execOp a.eval o).run Try.prog w = .ok .skip (w.setRow b (lotC kd ms s)) := by
  unfold execOp
  simp only [ho, hx, hy, Instr.storeAt, Instr.sureAddr, Sem.run_bind, Sem.run_pure, Result.andThen_ok, run_storeVar_row w b 37 37 old (lotC kd ms s) hb (lotSz kd ms s) (by rw [hold]; rfl) (lot_one h1)]
theorem PartO.one {w : World} {B : Nat} {hb : Option Nat} {ps : List (Int × Int)} {s : Value} (h : PartO w B hb ps s) : s.oneCell' = true := by
  obtain ⟨A, c, rfl, -⟩ := h
  rfl
theorem ret_lot {w : World} {b : Nat} {kd ms : Int} {s : Value} {tmps : Array Value} {fn : Func} {p : Tmp} (h : fn.results = #[.cell p 37]) (hp : tmps.getD p undef = .pointer (some ⟨b, 0, none⟩)) (hg : w.heap[b]? = some (.cells (lotC kd ms s) 37 (0, 0))) : (results fn tmps).run Try.prog w = .ok (.agg (lotC kd ms s)) w :=
  results_cell_row h _ _ b 37 (lotC kd ms s) (0, 0) _ hp hg Try.underlying37 rfl (lotSz kd ms s)
set_option maxRecDepth 100000 in
set_option maxHeartbeats 1000000 in
theorem copyLot_any (kd ms : Int) (ps : List (Int × Int)) (A : Option Addr) (c : Nat) (w : World) (hP : PartsIn w A ps) (hn : ps.length ≤ 1000) :
    Calls Try.prog 71 #[.agg #[.int .i64 kd, .int .i64 ms, .slice A ps.length c]] w fun e w' => ∃ s, e = .returned (.agg #[.int .i64 kd, .int .i64 ms, s]) ∧ PartO w' w.heap.size none ps s ∧ Below w.heap.size w w' := by
  have HP := Lib.hid hP
  clear hP
  go_enter Try.func71, Try.ntmps71
  go_upto_region 1 with fail
  obtain ⟨W, hW⟩ : ∃ W, W = (w.alloc (.cells #[.int .i64 kd, .int .i64 ms, .slice A ps.length c] 37)).alloc (.cells #[.int .i64 0, .int .i64 0, .slice none 0 0] 37) := ⟨_, rfl⟩
  rw [← hW]
  have hb := Lib.hid (show Below w.heap.size w W by rw [hW]; exact (by repeat' (first | (with_reducible exact Below.refl _ _) | (with_reducible assumption) | (with_reducible refine below_drewN ?_ _) | (with_reducible refine below_step (by assumption) ?_ ?_) | (with_reducible refine Below.alloc ?_ ?_ _) | (with_reducible refine Below.setCell ?_ ?_ _) | (with_reducible refine Below.drew ?_) | go_size | (exact Below.size (by assumption)) | (refine Nat.le_trans (Below.size (by assumption)) ?_))))
  have b0 : W.heap[w.heap.size]? = some (.cells #[.int .i64 kd, .int .i64 ms, .slice A ps.length c] 37 (0, 0)) := by rw [hW]; exact hp1 _ _ _
  have b1 : W.heap[w.heap.size + 1]? = some (.cells #[.int .i64 0, .int .i64 0, .slice none 0 0] 37 (0, 0)) := by rw [hW]; exact hp11 _ _ _
  have hz : w.heap.size + 1 < W.heap.size := by rw [hW]; simp
  have c0 : W.cell? ⟨w.heap.size, 0, none⟩ = some (.int .i64 kd) := (cell_of_row W _ 0 _ _ (0, 0) b0).trans rfl
  have c1 : W.cell? ⟨w.heap.size, 1, none⟩ = some (.int .i64 ms) := (cell_of_row W _ 1 _ _ (0, 0) b0).trans rfl
  have c2 : W.cell? ⟨w.heap.size, 2, none⟩ = some (.slice A ps.length c) := (cell_of_row W _ 2 _ _ (0, 0) b0).trans rfl
  have B1 := Lib.hid b1
  have hz0 : w.heap.size < W.heap.size := by omega
  clear hW b0 b1
  refine region_last (C := fun w' => ∃ x, w' = grow W x) [0, 1, 2, 3, 5, 6] [4, 7, 8, 9] 9 (by kernel_rfl) (by kernel_rfl) (grow_start W) ?_
  simp only [pickL, List.getElem?_cons_zero, List.getElem?_cons_succ]
  repeat (go_big_quiet_step (fail))
  refine wpQuiet_nil ?_
  rintro w3 ⟨xg, hxg⟩
  have hb3 := below_grow W xg
  rw [← hxg] at hb3
  refine d_val (.slice (some ⟨w3.heap.size, 0, none⟩) 0 0) (w3.alloc (.cells #[] 39)) rfl (by go_simp) ⟨xg, hxg⟩ ?_
  have hal := (Below.refl w3.heap.size w3).alloc (Nat.le_refl _) (.cells #[] 39)
  have hb4 := hb3.trans (hal.mono hb3.size)
  obtain ⟨s, w5, h1, h2, h3⟩ := parts_run (w3.alloc (.cells #[] 39)) 35 ps A c ((HP.out.below hb.out).below hb4) hn w3.heap.size _ (empty_own w3 _ _) (by simp)
  obtain ⟨A2, n2, hs2, -⟩ := id h2
  subst hs2
  obtain ⟨s, hs⟩ : ∃ s, s = Value.slice A2 ps.length n2 := ⟨_, rfl⟩
  have hb5 : Below W.heap.size W w5 := below_grown hb4 h3 hb3.size hb4.size
  refine d_val (.slice A2 ps.length n2) w5 rfl (exec_append (.tmp 7) (.tmp 9) 35 rfl (.slice (some ⟨w3.heap.size, 0, none⟩) 0 0) (.slice A ps.length c) _ w5 rfl rfl h1) (grow_of_below hb4) ?_
  refine d_val (.agg (lotC kd ms (.slice A2 ps.length n2))) w5 rfl (by go_simp; rfl) (grow_of_below hb5) ?_
  rw [← hs] at h1 h2 ⊢
  clear hs
  have hb1 := (hb5.block _ hz).trans B1.out
  refine d_skip (w5.setRow (w.heap.size + 1) (lotC kd ms s)) rfl (st_lot_run _ _ rfl _ _ kd ms s rfl rfl hb1 rfl h2.one) (grow_of_below hb5) ?_
  have hgr := grown_setRow w5 (w.heap.size + 1) (lotC kd ms s)
  have hP2 : PartO w5 W.heap.size (some (w.heap.size + 1)) ps s := by
    obtain ⟨A2, c2, rfl, q1, q2, q3⟩ := h2
    exact ⟨A2, c2, rfl, q1, q2, fun hp => by
      obtain ⟨g, e, r1, -, r3⟩ := q3 hp
      exact ⟨g, e, Nat.le_trans hb3.size r1, fun e => by cases e; have := hb3.size; omega, r3⟩⟩
  have hrow : (w5.setRow (w.heap.size + 1) (lotC kd ms s)).heap[w.heap.size + 1]? = some (.cells (lotC kd ms s) 37 (0, 0)) := by
    obtain ⟨hg, he⟩ := Array.getElem?_eq_some_iff.1 hb1
    simp [World.setRow, hg, Array.getElem_modify, he]
  have H7 := Lib.hid (And.intro hrow (And.intro (hP2.grown hgr (.inl rfl) (.inl rfl)) (below_grown (hb.out.trans (hb5.mono hb.out.size)) hgr (by omega) (Nat.le_trans hb.out.size hb5.size))))
  obtain ⟨w7, hw7⟩ : ∃ w7, w7 = w5.setRow (w.heap.size + 1) (lotC kd ms s) := ⟨_, rfl⟩
  rw [← hw7] at H7
  show plainD _ _ _ _ _ _ _
  rw [← hw7]
  have hWz : w.heap.size ≤ W.heap.size := hb.out.size
  clear hw7 hrow hP2 hgr hb1 h1 h2 h3 hb5 hb4 hal hb3 hxg c0 c1 c2 B1 hb
  simp only [plainD]
  go_simp
  go_wp2
  refine bodyPost_ret (v := .agg (lotC kd ms s)) (ret_lot rfl rfl H7.out.1) rfl ⟨s, rfl, ?_, H7.out.2.2⟩
  obtain ⟨A2, c2, rfl, q1, q2, q3⟩ := H7.out.2.1
  exact ⟨A2, c2, rfl, q1, q2, fun hp => by
    obtain ⟨g, e, r1, -, r3⟩ := q3 hp
    exact ⟨g, e, Nat.le_trans hWz r1, by simp, r3⟩⟩
end Go.Proofs.Ytdgmpaijpjkeoaa
