/-
  THE LEAST PATTERN OF A PERIODIC FUNCTION, AND WHAT TABLES ARE: PLAIN.
-/
import Derived.Test.YtlinldbbhdpgcaaGreatDoorPatG
namespace Go.Proofs.YtlinldbbhdpgcaaGreatDoor
open Go.RowKit
theorem tabN_get {F : Int → Int → Int} {a t k : Nat} (hk : k < t) : (tabN F a t).getD k 0 = F ((k % a : Nat) : Int) ((k / a : Nat) : Int) := by
  unfold tabN
  simp [List.getD, hk]
/-- A table of a function with these periods has its colors. -/
theorem Base.col {F : Int → Int → Int} {a b c : Int} (h : Base F a b c) : colF ⟨a, b, c, tabN F a.toNat (a.toNat * c.toNat)⟩ = F := by
  funext x y
  have a0 := h.a0
  have c0 := h.c0
  rw [h.home x y]
  obtain ⟨g1, g2, g3, g4⟩ := home_bd (b := b) (x := x) (y := y) a0 c0
  unfold colF
  simp only
  show (tabN F a.toNat (a.toNat * c.toNat)).getD (y % c * a + homeX a b c x y).toNat 0 = F (homeX a b c x y) (y % c)
  obtain ⟨i, hi⟩ : ∃ i : Nat, homeX a b c x y = i := ⟨(homeX a b c x y).toNat, by omega⟩
  obtain ⟨j, hj⟩ : ∃ j : Nat, y % c = j := ⟨(y % c).toNat, by omega⟩
  obtain ⟨n, hn⟩ : ∃ n : Nat, a = n := ⟨a.toNat, by omega⟩
  obtain ⟨m, hm⟩ : ∃ m : Nat, c = m := ⟨c.toNat, by omega⟩
  rw [hi] at g1 g2 ⊢
  rw [hj] at g3 g4 ⊢
  subst hn
  subst hm
  have e : ((j : Int) * n + i).toNat = j * n + i := by
    rw [← Int.natCast_mul, ← Int.natCast_add, Int.toNat_natCast]
  rw [e, Int.toNat_natCast, Int.toNat_natCast]
  have hin : i < n := by omega
  have hlt : j * n + i < n * m := by
    have h1 : (j + 1) * n ≤ m * n := Nat.mul_le_mul_right n (by omega)
    rw [Nat.add_mul, Nat.one_mul, Nat.mul_comm m n] at h1
    omega
  rw [tabN_get hlt]
  have e1 : (j * n + i) % n = i := by rw [Nat.mul_comm, Nat.mul_add_mod]; exact Nat.mod_eq_of_lt hin
  have e2 : (j * n + i) / n = j := by rw [Nat.mul_comm, Nat.mul_add_div (by omega)]; rw [Nat.div_eq_of_lt hin]; rfl
  rw [e1, e2]
/-- The least pattern of a periodic function. -/
noncomputable def lst (F : Int → Int → Int) : PatD := by
  classical
  exact if h : ∃ q : Int × Int × Int, Least F q.1 q.2.1 q.2.2 then leastP F (Classical.choose h).1 (Classical.choose h).2.1 (Classical.choose h).2.2 else zeroP
theorem lst_of {F : Int → Int → Int} {a b c : Int} (h : Least F a b c) : lst F = leastP F a b c := by
  have hx : ∃ q : Int × Int × Int, Least F q.1 q.2.1 q.2.2 := ⟨(a, b, c), h⟩
  unfold lst
  rw [dif_pos hx]
  obtain ⟨h1, h2, h3⟩ := (Classical.choose_spec hx).uniq h
  rw [h1, h2, h3]
/-- The least pattern: its fields are the least basis, its colors the function's. -/
theorem Base.lst {F : Int → Int → Int} {a b c : Int} (h : Base F a b c) : Least F (lst F).a (lst F).b (lst F).c ∧ lst F = leastP F (lst F).a (lst F).b (lst F).c := by
  obtain ⟨a1, b1, c1, hl⟩ := h.least
  have e := lst_of hl
  rw [e]
  exact ⟨hl, rfl⟩
theorem Base.lst_col {F : Int → Int → Int} {a b c : Int} (h : Base F a b c) : colF (Go.Proofs.YtlinldbbhdpgcaaGreatDoor.lst F) = F := by
  obtain ⟨h1, h2⟩ := h.lst
  rw [h2]
  exact h1.toBase.col
theorem Base.lst_cells {F : Int → Int → Int} {a b c : Int} (h : Base F a b c) : (Go.Proofs.YtlinldbbhdpgcaaGreatDoor.lst F).a * (Go.Proofs.YtlinldbbhdpgcaaGreatDoor.lst F).c ≤ a * c := h.lst.1.cells h
theorem leastP_len {F : Int → Int → Int} {a b c : Int} (ha : 0 < a) (hc : 0 < c) : a * c = ((leastP F a b c).xs.length : Int) := by
  show a * c = ((tabN F a.toNat (a.toNat * c.toNat)).length : Int)
  rw [tabN_length, Int.natCast_mul]
  rw [show ((a.toNat : Nat) : Int) = a by omega, show ((c.toNat : Nat) : Int) = c by omega]
theorem tabN_mem {F : Int → Int → Int} {a t : Nat} {x : Int} (h : x ∈ tabN F a t) : ∃ u v, x = F u v := by
  unfold tabN at h
  obtain ⟨k, -, rfl⟩ := List.mem_map.1 h
  exact ⟨_, _, rfl⟩
/-- The colors of a function. -/
def Cols (F : Int → Int → Int) : Prop := ∀ x y, 0 ≤ F x y ∧ F x y < 8
theorem GoodP.cols {p : PatD} (h : GoodP p) : Cols (colF p) := fun x y => by
  unfold colF
  have h8 : ∀ i, 0 ≤ p.xs.getD i 0 ∧ p.xs.getD i 0 < 8 := fun i => by
    rw [List.getD]
    cases e : p.xs[i]? with
    | none => exact ⟨Int.le_refl 0, by simp⟩
    | some z => exact h.col z (List.mem_of_getElem? e)
  exact h8 _
/-- A least pattern that is small enough is valid. -/
theorem Base.good {F : Int → Int → Int} {a b c : Int} (h : Base F a b c) (hs : (Go.Proofs.YtlinldbbhdpgcaaGreatDoor.lst F).a * (Go.Proofs.YtlinldbbhdpgcaaGreatDoor.lst F).c ≤ 144) (hc : Cols F) : GoodP (Go.Proofs.YtlinldbbhdpgcaaGreatDoor.lst F) := by
  obtain ⟨h1, h2⟩ := h.lst
  have a0 := h1.a0
  have c0 := h1.c0
  have l1 : (Go.Proofs.YtlinldbbhdpgcaaGreatDoor.lst F).a * 1 ≤ (Go.Proofs.YtlinldbbhdpgcaaGreatDoor.lst F).a * (Go.Proofs.YtlinldbbhdpgcaaGreatDoor.lst F).c := Int.mul_le_mul_of_nonneg_left (by omega) (by omega)
  have l2 : 1 * (Go.Proofs.YtlinldbbhdpgcaaGreatDoor.lst F).c ≤ (Go.Proofs.YtlinldbbhdpgcaaGreatDoor.lst F).a * (Go.Proofs.YtlinldbbhdpgcaaGreatDoor.lst F).c := Int.mul_le_mul_of_nonneg_right (by omega) (by omega)
  refine ⟨a0, by omega, h1.b0, h1.b1, c0, by omega, hs, ?_, fun x hx => ?_⟩
  · rw [h2]; exact leastP_len a0 c0
  · rw [h2] at hx
    obtain ⟨u, v, rfl⟩ := tabN_mem hx
    exact hc u v
theorem GoodP.val {p : PatD} (h : GoodP p) : valP p = 0 := by
  obtain ⟨a0, a1, b0, b1, c0, c1, ac, len, col⟩ := h
  unfold valP
  rw [if_neg (by omega), if_neg (by omega), if_neg]
  rintro (h | h)
  · exact h len.symm
  · rw [List.any_eq_true] at h
    obtain ⟨x, hx, hb⟩ := h
    have := col x hx
    simp only [badC, Bool.or_eq_true, decide_eq_true_eq] at hb
    omega
/-- What is said of a pattern: nothing if it is not valid. -/
noncomputable def lstO (p : PatD) : PatD := if valP p ≠ 0 then zeroP else lst (colF p)
theorem leastO_lst {p : PatD} {a1 b1 c1 : Int} (h : LeastOf p a1 b1 c1) : leastO p a1 b1 c1 = lstO p := by
  unfold leastO lstO
  by_cases hv : valP p = 0
  · rw [if_neg (by simp [hv]), if_neg (by simp [hv]), lst_of (h hv)]
  · rw [if_pos hv, if_pos hv]
end Go.Proofs.YtlinldbbhdpgcaaGreatDoor
/-
  STORES OF WHOLE STRUCTS, RUN IN THE MIDST OF A REGION: patterns.
-/
namespace Go.Proofs.YtlinldbbhdpgcaaGreatDoor
open Go.RowKit
open Go
theorem st_row_run {P : Program} {o : Oper} {a : Act} {w : World} (ty : TypeId) (x y : Operand) (ho : o.op = .store ty x y) (g : Nat) (cells : Array Value) (hx : a.eval x = .pointer (some ⟨g, 0, none⟩)) (hy : a.eval y = .agg cells)
    (t : TypeId) (old : Array Value) (hg : w.heap[g]? = some (.cells old t (0, 0))) (hi : (P.info? ty).map (·.size) = some cells.size) (hold : old.size = cells.size) (h1 : cells.all (·.oneCell') = true) : (execOp a.eval o).run P w = .ok .skip (w.setRow g cells) := by
  unfold execOp
  simp only [ho, hx, hy, Instr.storeAt, Instr.sureAddr, Sem.run_bind, Sem.run_pure, Result.andThen_ok, run_storeVar_row w g t ty old cells hg hi hold h1]
theorem row_grown (w : World) (b : Nat) (c : Array Value) : w.grownBy (w.setRow b c) (some b) :=
  ⟨rfl, rfl, rfl, by simp [World.setRow], fun i _ hne => by
    have hib : b ≠ i := fun e => hne (by rw [e])
    simp [World.setRow, Array.getElem?_modify, hib]⟩
theorem PBox.row {w : World} {bx : Nat} {a b c : Int} {s : Value} (h : PBox w bx a b c s) (a' b' c' : Int) (s' : Value) : PBox (w.setRow bx #[.int .i64 a', .int .i64 b', .int .i64 c', s']) bx a' b' c' s' := by
  obtain ⟨hg, he⟩ := Array.getElem?_eq_some_iff.1 h
  unfold PBox
  simp [World.setRow, hg, Array.getElem_modify, he]
/-- A pattern's value is put into the box of the result. -/
theorem st_pat_run {o : Oper} {a : Act} {w : World} (x y : Operand) (ho : o.op = .store 24 x y) {bx : Nat} {a0 b0 c0 : Int} {s0 : Value} (hb : PBox w bx a0 b0 c0 s0) (a' b' c' : Int) (A : Option Addr) (l k : Nat) (hx : a.eval x = .pointer (some ⟨bx, 0, none⟩)) (hy : a.eval y = .agg #[.int .i64 a', .int .i64 b', .int .i64 c', .slice A l k]) :
    (execOp a.eval o).run Tryz.prog w = .ok .skip (w.setRow bx #[.int .i64 a', .int .i64 b', .int .i64 c', .slice A l k]) :=
  st_row_run 24 x y ho bx _ hx hy 24 _ hb (patSz a' b' c' _) rfl (by simp [Value.oneCell'])
/-- The result's box behind the store, and the answer. -/
theorem put_row {w wr : World} {rb B : Nat} {a b c : Int} {s : Value} (hr : PBox wr rb a b c s) (hb : Below w.heap.size w wr) (hw : w.heap.size ≤ rb) (p : PatD) (A : Option Addr) (k : Nat) (z : Value) (ho : OwnI wr B (.slice A p.xs.length k) p.xs) (hB : w.heap.size ≤ B) (hrB : rb < B) :
    PBox (wr.setRow rb #[.int .i64 p.a, .int .i64 p.b, .int .i64 p.c, .slice A p.xs.length k]) rb p.a p.b p.c (.slice A p.xs.length k) ∧ OutP w p z (.returned (.tuple #[.agg #[.int .i64 p.a, .int .i64 p.b, .int .i64 p.c, .slice A p.xs.length k], z])) (wr.setRow rb #[.int .i64 p.a, .int .i64 p.b, .int .i64 p.c, .slice A p.xs.length k]) := by
  have hgr := row_grown wr rb #[.int .i64 p.a, .int .i64 p.b, .int .i64 p.c, .slice A p.xs.length k]
  refine ⟨hr.row _ _ _ _, _, rfl, OwnI.down (OwnI.grown ho hgr ?_) hB, Below.grown hb hgr hb.size (fun g e => by cases e; exact hw)⟩
  rcases hv : (Value.slice A p.xs.length k).ownBlock with _ | g
  · exact .inl rfl
  · exact .inr (fun e => by have := ho.lt' g hv; cases e; omega)
end Go.Proofs.YtlinldbbhdpgcaaGreatDoor
