/-
  BOOKS: a line and its text: the program's line and format.
-/
import Derived.Test.YtaadelcmhbgpnaaGreatDoorBokE
namespace Go.Proofs.YtaadelcmhbgpnaaGreatDoor
open Go.RowKit
open Go.Lib
attribute [local go_sem] grow_cell grow_frozen
theorem itoa_str (n : Int) (h0 : -9223372036854775808 ≤ n) (h1 : n ≤ 9223372036854775807) (w : World) (h : LibOK w) :
    Calls Tryz.prog 71 #[.int .i64 n] w fun e w' => e = .returned (.string ⟨(itoa n).toArray⟩) ∧ Below w.heap.size w w' := itoa_any n h0 h1 w h
/-- A line's value. -/
def lnV (n : Nat) (z : Int) (s : ByteArray) : Value := .agg #[.int .i64 n, .string s, .int .i64 z]
set_option maxRecDepth 100000 in
theorem pline_any (n : Nat) (hn : n ≤ 1000000) (b : Int) (s : ByteArray) (hs : s.size ≤ 100000) (w : World) (hl : LibOK w) :
    Calls Tryz.prog 60 #[.int .i64 n, .int .i64 b, .string s] w fun e w' => e = .returned (lnV n (lineZ n b s.data.toList) s) ∧ Below w.heap.size w w' := by
  have HB := Lib.hid (lineS_bytes n s)
  have HL := Lib.hid hl
  have HSZ := Lib.hid (show (⟨(lineS n s.data.toList).toArray⟩ : ByteArray).size ≤ 1000000 by
    rw [str_size]; have := lineS_len hn s.data.toList; rw [lt_list] at this; omega)
  have l1 := itoa_small (z := (n : Int)) (k := 7) (by omega) (by omega) (by omega)
  have hS := fun w1 => psum_any b _ HSZ.out w1
  rw [lineS_toList] at hS
  obtain ⟨z, hz⟩ : ∃ z, z = sumT b (lineS n s.data.toList) := ⟨_, rfl⟩
  have hz2 : lineZ n b s.data.toList = z := hz.symm
  rw [← hz] at hS
  rw [hz2]
  have HS := Lib.hid hS
  clear hz hz2 hl hS
  go_enter Tryz.func60, Tryz.ntmps60
  go_wp2_with fail
  have hX0 := Box3.new w (.int .i64 0) (.string { data := #[] }) (.int .i64 0) 33
  have hB0 := below_new w (.cells #[.int .i64 0, .string { data := #[] }, .int .i64 0] 33)
  have hL0 := HL.out.below hB0
  obtain ⟨u, hu⟩ : ∃ u, u = w.alloc (.cells #[.int .i64 0, .string { data := #[] }, .int .i64 0] 33) := ⟨_, rfl⟩
  rw [← hu] at hX0 hB0 hL0 ⊢
  clear hu
  refine (itoa_any n (by omega) (by omega) _ hL0).mono ?_
  rintro e w1 ⟨rfl, hb1⟩
  simp only [str]
  have hX1 := hX0.keep hb1
  have hB1 : Below w.heap.size w w1 := hB0.trans (hb1.mono hB0.size)
  obtain ⟨x0, x1, x2, y0, y1, y2, y3⟩ := hX1
  clear hX0 hL0
  go_wp2_with fail
  rw [HB.out]
  refine (HS.out _).mono ?_
  rintro e w3 ⟨rfl, rfl⟩
  go_wp2
  refine bodyPost_ret (v := .agg #[.int .i64 n, .string s, .int .i64 z]) (by simp only [results, Tryz.results60]; go_simp) rfl ⟨rfl, (by repeat' (first | (with_reducible exact Below.refl _ _) | (with_reducible assumption) | (with_reducible refine below_drewN ?_ _) | (with_reducible refine below_step (by assumption) ?_ ?_) | (with_reducible refine Below.alloc ?_ ?_ _) | (with_reducible refine Below.setCell ?_ ?_ _) | (with_reducible refine Below.drew ?_) | go_size | (exact Below.size (by assumption)) | (refine Nat.le_trans (Below.size (by assumption)) ?_)))⟩
set_option maxRecDepth 100000 in
theorem pformat_any (n : Nat) (hn : n ≤ 1000000) (z : Int) (h0 : 0 ≤ z) (h1 : z < 10000000) (s : ByteArray) (hs : s.size ≤ 100000) (w : World) (hl : LibOK w) :
    Calls Tryz.prog 58 #[lnV n z s] w fun e w' => e = .returned (.string ⟨(itoa (n : Int) ++ 32 :: (itoa z ++ 32 :: (s.data.toList ++ [10]))).toArray⟩) ∧ Below w.heap.size w w' := by
  have HT := Lib.hid (line_bytes n z s)
  have HL := Lib.hid hl
  have l1 := itoa_small (z := (n : Int)) (k := 7) (by omega) (by omega) (by omega)
  have l2 := itoa_small (k := 7) h0 (by omega) (by omega)
  clear hl
  unfold lnV
  go_enter Tryz.func58, Tryz.ntmps58
  go_upto_region 1 with fail
  obtain ⟨x0, x1, x2, y0, y1, y2, y3⟩ := Box3.new w (.int .i64 n) (.string s) (.int .i64 z) 33
  have hB0 := below_new w (.cells #[.int .i64 n, .string s, .int .i64 z] 33)
  have hL0 := Lib.hid (HL.out.below hB0)
  obtain ⟨u, hu⟩ : ∃ u, u = w.alloc (.cells #[.int .i64 n, .string s, .int .i64 z] 33) := ⟨_, rfl⟩
  rw [← hu] at x0 x1 x2 y0 y1 y2 y3 hB0 hL0 ⊢
  clear hu
  refine region_grow (by kernel_rfl) (by kernel_rfl) ?_
  repeat (go_big_quiet_step ((go_at_call 71; first | exact grow_call (itoa_str n (by omega) (by omega) _ (hL0.out.below (below_grow _ _))) | exact grow_call (itoa_str z (by omega) (by omega) _ (hL0.out.below (below_grow _ _))))))
  refine wpQuiet_nil ?_
  rintro w5 ⟨xg, hxg⟩
  have hb5 := below_grow u xg
  rw [← hxg] at hb5
  clear hxg xg
  go_wp2
  go_ret
  exact ⟨by rw [← HT.out] <;> rfl, (by repeat' (first | (with_reducible exact Below.refl _ _) | (with_reducible assumption) | (with_reducible refine below_drewN ?_ _) | (with_reducible refine below_step (by assumption) ?_ ?_) | (with_reducible refine Below.alloc ?_ ?_ _) | (with_reducible refine Below.setCell ?_ ?_ _) | (with_reducible refine Below.drew ?_) | go_size | (exact Below.size (by assumption)) | (refine Nat.le_trans (Below.size (by assumption)) ?_)))⟩
end Go.Proofs.YtaadelcmhbgpnaaGreatDoor
/-
  BOOKS: lists of lines.
-/
namespace Go.Proofs.YtaadelcmhbgpnaaGreatDoor
open Go.RowKit
open Go.Lib
/-- A line: its number, text and sum. -/
structure Ln where
  n : Nat
  t : ByteArray
  z : Int
def Ln.cells (x : Ln) : List Value := [.int .i64 x.n, .string x.t, .int .i64 x.z]
def flatL (l : List Ln) : List Value := l.flatMap Ln.cells
theorem flatL_app (x y : List Ln) : flatL (x ++ y) = flatL x ++ flatL y := List.flatMap_append
theorem flatL_len : ∀ l : List Ln, (flatL l).length = l.length * 3
  | [] => rfl
  | x :: l => by
    have := flatL_len l
    simp only [flatL, List.flatMap_cons, List.length_append, List.length_cons] at this ⊢
    rw [this]; simp [Ln.cells]; omega
theorem flatL_at : ∀ (l : List Ln) (k : Nat) (h : k < l.length), (flatL l)[k * 3]? = some (.int .i64 l[k].n) ∧ (flatL l)[k * 3 + 1]? = some (.string l[k].t) ∧ (flatL l)[k * 3 + 2]? = some (.int .i64 l[k].z)
  | x :: l, 0, _ => by simp [flatL, Ln.cells]
  | x :: l, k + 1, h => by
    have hq := flatL_at l k (by simpa using h)
    have e : flatL (x :: l) = .int .i64 x.n :: .string x.t :: .int .i64 x.z :: flatL l := by simp [flatL, Ln.cells]
    rw [e, show (k + 1) * 3 = k * 3 + 1 + 1 + 1 by omega, List.getElem?_cons_succ, List.getElem?_cons_succ, List.getElem?_cons_succ, show k * 3 + 1 + 1 + 1 + 1 = k * 3 + 1 + 1 + 1 + 1 from rfl, List.getElem?_cons_succ, List.getElem?_cons_succ, List.getElem?_cons_succ, show k * 3 + 1 + 1 + 1 + 2 = k * 3 + 2 + 1 + 1 + 1 from rfl, List.getElem?_cons_succ, List.getElem?_cons_succ, List.getElem?_cons_succ, List.getElem_cons_succ]
    exact hq
/-- The slice value v holds lines in memory from block B on, and may be appended to. -/
def OwnLn (w : World) (B : Nat) (v : Value) (l : List Ln) : Prop := w.ownsRow B 33 3 v l.length (flatL l)
theorem OwnLn.nil (w : World) (B : Nat) : OwnLn w B (.slice none 0 0) [] := World.ownsRow_nil _ _ _ _
theorem OwnLn.keep {w w' : World} {B : Nat} {v : Value} {l : List Ln} (hb : Below w.heap.size w w') (h : OwnLn w B v l) : OwnLn w' B v l :=
  World.ownsRow.kept h (row := none) ⟨hb.os, hb.tape, hb.output, hb.size, fun k hk _ => hb.block k hk⟩ (by cases v.ownBlock <;> simp)
theorem OwnLn.lt {w : World} {B : Nat} {v : Value} {l : List Ln} (h : OwnLn w B v l) : ∀ g, v.ownBlock = some g → B ≤ g ∧ g < w.heap.size := World.ownsRow.lt h
/-- The slice of n lines at A. -/
def IsLn (w : World) (A : Option Addr) (l : List Ln) : Prop :=
  0 < l.length → ∃ b o, A = some ⟨b, o, none⟩ ∧ b < w.heap.size ∧ ∀ k (h : k < l.length), w.cell? ⟨b, o + k * 3, none⟩ = some (.int .i64 l[k].n) ∧ w.cell? ⟨b, o + k * 3 + 1, none⟩ = some (.string l[k].t) ∧ w.cell? ⟨b, o + k * 3 + 2, none⟩ = some (.int .i64 l[k].z)
theorem IsLn.below {w w' : World} {A : Option Addr} {l : List Ln} (hb : Below w.heap.size w w') (h : IsLn w A l) : IsLn w' A l := by
  intro hp
  obtain ⟨b, o, rfl, hlt, hc⟩ := h hp
  exact ⟨b, o, rfl, Nat.lt_of_lt_of_le hlt hb.size, fun k hk => ⟨(hb.cell (p := ⟨b, _, none⟩) hlt).trans (hc k hk).1, (hb.cell (p := ⟨b, _, none⟩) hlt).trans (hc k hk).2.1, (hb.cell (p := ⟨b, _, none⟩) hlt).trans (hc k hk).2.2⟩⟩
theorem OwnLn.parts {w : World} {B : Nat} {v : Value} {l : List Ln} (h : OwnLn w B v l) : ∃ A c, v = .slice A l.length c ∧ IsLn w A l ∧ l.length ≤ c := by
  rcases h.2 with ⟨hv, h0⟩ | ⟨g, cap, cur, hv, hB, hg, hn, -, hs, ht⟩
  · exact ⟨none, 0, by rw [hv, h0], fun hp => by omega, by omega⟩
  · subst hv
    have hr := (Row.of_own h).1
    refine ⟨some ⟨g, 0, none⟩, cap, rfl, fun _ => ⟨g, 0, rfl, hr.lt, fun k hk => ?_⟩, hn⟩
    obtain ⟨h1, h2, h3⟩ := flatL_at l k hk
    have hl := flatL_len l
    have q1 := hr.get (k * 3) (by omega)
    have q2 := hr.get (k * 3 + 1) (by omega)
    have q3 := hr.get (k * 3 + 2) (by omega)
    rw [List.getElem?_eq_getElem (by omega)] at h1 h2 h3
    simp only [Nat.zero_add]
    exact ⟨q1.trans h1, q2.trans h2, q3.trans h3⟩
theorem lnInfo : (Tryz.prog.info? 33).map (fun i => (i.zero, i.size, i.bytes)) = some (some (.agg #[.int .i64 0, .string ByteArray.empty, .int .i64 0]), 3, 32) := by kernel_rfl
/-- append(s, x) of one line. -/
theorem append_line {w : World} {ops : Array Oper} {rest : List Oper} {o : Oper} {a : Act} {Q : Exit → Act → World → Prop} (s x : Operand)
    (ho : o.op = .call { callee := .builtin .append, args := #[s, x], argTypes := #[57, 57] }) (hgd : o.guard = none)
    (B : Nat) (v : Value) (l : List Ln) (p : Ln) (W : World) (hW : w = W.alloc (.cells #[.int .i64 p.n, .string p.t, .int .i64 p.z] 33)) (hs : a.eval s = v) (hown : OwnLn W B v l) (hx : a.eval x = .slice (some ⟨W.heap.size, 0, none⟩) 1 1)
    (hn : l.length ≤ 1000000) (hB : B ≤ W.heap.size)
    (h : ∀ v' w', OwnLn w' B v' (l ++ [p]) → W.grownBy w' v.ownBlock → (v'.ownBlock = v.ownBlock ∨ v'.ownBlock = some (W.heap.size + 1)) → wpList Tryz.prog ops Q rest (a.put o.dst v') w') : wpList Tryz.prog ops Q (o :: rest) a w := by
  subst hW
  obtain ⟨i0, hi, hz0, hz1, hz2⟩ := info_parts lnInfo
  refine wpList_append_lies (P := Tryz.prog) (w := W.alloc (.cells #[.int .i64 p.n, .string p.t, .int .i64 p.z] 33)) hgd s x 57 ho B 33 i0 (.agg #[.int .i64 0, .string ByteArray.empty, .int .i64 0]) 3 32 Tryz.underlying57 hi hz0 hz1 hz2 rfl (by decide) v l.length _ hs (World.ownsRow.alloc hown _) ⟨W.heap.size, 0, none⟩ 1 1 [.int .i64 p.n, .string p.t, .int .i64 p.z] hx rfl
    (by intro j u hu; match j, hu with | 0, hu => simp at hu; subst hu; simp [Addr.add] | 1, hu => simp at hu; subst hu; simp [Addr.add] | 2, hu => simp at hu; subst hu; simp [Addr.add]) (by intro u hu; simp at hu; rcases hu with rfl | rfl | rfl <;> rfl) (by omega) (by unfold maxLen; omega) (by omega) (by simp; omega) (W.heap.size + 1) (by simp) ?_
  intro g cap w' h1 h2 h3 h4
  refine h _ w' ?_ ?_ ?_
  · unfold OwnLn
    rw [List.length_append, flatL_app]
    exact h1
  · exact ⟨h2.os, h2.tape, h2.output, by have := h2.size; simp at this; omega, fun k hk hne => (h2.block k (by simp; omega) hne).trans (heap_alloc_old W _ hk)⟩
  · rcases h3 with h3 | h3
    · exact .inl h3.symm
    · subst h3; exact .inr rfl
/-- The lines with texts, behind a sum. -/
def lnS : Nat → Int → List (List UInt8) → List Ln
  | _, _, [] => []
  | n, b, t :: ts => ⟨n, ⟨t.toArray⟩, lineZ n b t⟩ :: lnS (n + 1) (lineZ n b t) ts
theorem lnS_len : ∀ (ts : List (List UInt8)) (n : Nat) (b : Int), (lnS n b ts).length = ts.length
  | [], _, _ => rfl
  | _ :: ts, n, b => by simp [lnS, lnS_len ts]
theorem lnS_app : ∀ (ts us : List (List UInt8)) (n : Nat) (b : Int), lnS n b (ts ++ us) = lnS n b ts ++ lnS (n + ts.length) (endZ n b ts) us
  | [], us, n, b => by simp [lnS, endZ]
  | t :: ts, us, n, b => by
    simp only [List.cons_append, lnS, endZ, List.length_cons]
    rw [lnS_app ts us (n + 1), show n + 1 + ts.length = n + (ts.length + 1) by omega]
end Go.Proofs.YtaadelcmhbgpnaaGreatDoor
