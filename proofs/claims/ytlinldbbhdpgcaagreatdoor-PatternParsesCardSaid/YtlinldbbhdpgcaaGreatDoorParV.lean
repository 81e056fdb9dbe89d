/-
  WHAT THE OPERATIONS ON PATTERNS ANSWER: it is a valid pattern, with these colors. PLAIN.
-/
import Derived.Test.YtlinldbbhdpgcaaGreatDoorLawP
import Derived.Test.YtlinldbbhdpgcaaGreatDoorPrfK
import Derived.Test.YtlinldbbhdpgcaaGreatDoorPrfO
import Derived.Test.YtlinldbbhdpgcaaGreatDoorParJ
import Derived.Test.YtlinldbbhdpgcaaGreatDoorTxtZ
namespace Go.Proofs.YtlinldbbhdpgcaaGreatDoor
open Go.RowKit
theorem GoodP.len144 {p : PatD} (h : GoodP p) : p.xs.length ≤ 144 := by
  have := h.len
  have := h.ac
  omega
theorem zero_len : zeroP.xs.length ≤ 144 := by show 0 ≤ 144; omega
theorem oShift {p : PatD} {x y : Int} (h : chkP p [x, y] = 0) : GoodP (shiftT p x y) ∧ colF (shiftT p x y) = shiftF (colF p) x y := by
  obtain ⟨hv, -⟩ := chkP_zero h
  have hg := valP_zero hv
  have hb : Base (shiftF (colF p) x y) p.a p.b p.c := (lst_pat hv).shift
  have hc : Cols (shiftF (colF p) x y) := fun u v => hg.cols (u - x) (v - y)
  have e : shiftT p x y = lst (shiftF (colF p) x y) := by unfold shiftT; rw [if_neg (by simp [h])]
  rw [e]
  exact ⟨hb.good (Int.le_trans hb.lst_cells hg.ac) hc, hb.lst_col⟩
theorem oShift_no {p : PatD} {x y : Int} (h : chkP p [x, y] ≠ 0) : shiftT p x y = zeroP := by unfold shiftT; rw [if_pos h]
theorem oTurn {p : PatD} (hv : valP p = 0) : GoodP (turnT p) ∧ colF (turnT p) = turnF (colF p) := by
  have hg := valP_zero hv
  obtain ⟨A1, B1, C1, ⟨h1, h2, h3, h4, h5, h6, h7⟩, h8, -, h9, -⟩ := turn_lat (b := p.b) hg.a0 hg.c0
  have hb : Base (turnF (colF p)) A1 B1 C1 := (lst_pat hv).turn h1 h3 h8 h9
  have hc : Cols (turnF (colF p)) := fun x y => hg.cols y (-x)
  have e : turnT p = lst (turnF (colF p)) := by unfold turnT; rw [if_neg (by simp [hv])]
  rw [e]
  have h10 := hb.lst_cells
  have := hg.ac
  exact ⟨hb.good (by omega) hc, hb.lst_col⟩
theorem oTurn_no {p : PatD} (h : valP p ≠ 0) : turnT p = zeroP := by unfold turnT; rw [if_pos h]
theorem oMir {p : PatD} (hv : valP p = 0) : GoodP (mirT p) ∧ colF (mirT p) = mirF (colF p) := by
  have hg := valP_zero hv
  have hb := (lst_pat hv).mir
  have hc : Cols (mirF (colF p)) := fun x y => hg.cols (-x) y
  have e : mirT p = lst (mirF (colF p)) := by unfold mirT; rw [if_neg (by simp [hv])]
  rw [e]
  have h10 := hb.lst_cells
  have := hg.ac
  exact ⟨hb.good (by omega) hc, hb.lst_col⟩
theorem oMir_no {p : PatD} (h : valP p ≠ 0) : mirT p = zeroP := by unfold mirT; rw [if_pos h]
theorem oRec_len (p : PatD) (cs : List Int) : (recT p cs).xs.length ≤ 144 := by
  unfold recT
  by_cases h : recZ p cs = 0
  · rw [if_neg (by simp [h])]
    have hb := ((lst_pat (recZ_zero h).1).recol cs)
    have h1 := hb.lst_cells
    obtain ⟨h2, h3⟩ := hb.lst
    have h4 := leastP_len (F := recF cs (colF p)) (a := (lst (recF cs (colF p))).a) (b := (lst (recF cs (colF p))).b) (c := (lst (recF cs (colF p))).c) h2.a0 h2.c0
    rw [← h3] at h4
    have := (valP_zero (recZ_zero h).1).ac
    omega
  · rw [if_pos h]; exact zero_len
theorem oRec_no {p : PatD} {cs : List Int} (h : recZ p cs ≠ 0) : recT p cs = zeroP := by unfold recT; rw [if_pos h]
/-- What may be too large. -/
theorem oRes {F : Int → Int → Int} {a b c : Int} (h : Base F a b c) (hc : Cols F) : (resZ F = 0 ∧ GoodP (resT F) ∧ colF (resT F) = F) ∨ (resZ F = 4 ∧ resT F = zeroP) := by
  unfold resZ resT
  by_cases h1 : (lst F).a * (lst F).c ≤ 144
  · rw [if_pos h1, if_pos h1]
    exact .inl ⟨rfl, h.good h1 hc, h.lst_col⟩
  · rw [if_neg h1, if_neg h1]
    exact .inr ⟨rfl, rfl⟩
theorem oSwe (p : PatD) (t : Int) : (sweE p t = 0 ∧ valP p = 0 ∧ 1 ≤ t ∧ t ≤ 12 ∧ GoodP (sweT p t) ∧ colF (sweT p t) = sweF t (colF p)) ∨ (sweE p t ≠ 0 ∧ sweT p t = zeroP) := by
  unfold sweE sweT
  by_cases h : sweZ p t = 0
  · rw [if_neg (by simp [h]), if_neg (by simp [h])]
    obtain ⟨h1, h2, h3⟩ := sweZ_zero h
    have hg := valP_zero h1
    have hb := (lst_pat h1).swell (show 0 < t by omega)
    have hc : Cols (sweF t (colF p)) := fun x y => hg.cols (x / t) (y / t)
    rcases oRes hb hc with ⟨e1, e2, e3⟩ | ⟨e1, e2⟩
    · exact .inl ⟨e1, h1, h2, h3, e2, e3⟩
    · exact .inr ⟨by rw [e1]; decide, e2⟩
  · rw [if_pos h, if_pos h]
    exact .inr ⟨h, rfl⟩
theorem oOve (p q : PatD) : (oveZ p q = 0 ∧ valP p = 0 ∧ valP q = 0 ∧ GoodP (oveT p q) ∧ colF (oveT p q) = overF (colF p) (colF q)) ∨ (oveZ p q ≠ 0 ∧ oveT p q = zeroP) := by
  unfold oveZ oveT
  by_cases h : twoZ p q = 0
  · rw [if_neg (by simp [h]), if_neg (by simp [h])]
    obtain ⟨hv1, hv2⟩ := twoZ_zero h
    have g1 := valP_zero hv1
    have g2 := valP_zero hv2
    obtain ⟨m, n, b, hm⟩ := com_ref2 (b1 := p.b) (b2 := q.b) g1.a0 g2.a0 g1.c0 g2.c0
    have hb := hm.1.base (col_base g1.ok) (col_base g2.ok)
    have hc : Cols (overF (colF p) (colF q)) := fun x y => by
      unfold overF
      split
      · exact g1.cols x y
      · exact g2.cols x y
    rcases oRes (hb.1.over hb.2) hc with ⟨e1, e2, e3⟩ | ⟨e1, e2⟩
    · exact .inl ⟨e1, hv1, hv2, e2, e3⟩
    · exact .inr ⟨by rw [e1]; decide, e2⟩
  · rw [if_pos h, if_pos h]
    exact .inr ⟨h, rfl⟩
end Go.Proofs.YtlinldbbhdpgcaaGreatDoor
/-
  WHAT A TREE OF WORDS IS: PLAIN.
-/
namespace Go.Proofs.YtlinldbbhdpgcaaGreatDoor
open Go.RowKit
theorem numV_bd {s : ByteArray} {n : Int} (h : numV s = some n) : s.data.toList = Lib.itoa n ∧ -100000 ≤ n ∧ n ≤ 100000 := by
  unfold numV at h
  split at h
  · split at h
    · rename_i h1
      cases h
      have h2 := h1.2
      simp only [farC, Bool.or_eq_false_iff, decide_eq_false_iff_not] at h2
      exact ⟨h1.1.symm, by omega, by omega⟩
    · cases h
  · cases h
theorem numV_of {s : ByteArray} {n : Int} (h : s.data.toList = Lib.itoa n) (h0 : -100000 ≤ n) (h1 : n ≤ 100000) : numV s = some n := by
  unfold numV
  rw [h, atoi_itoa n (by omega) (by omega)]
  simp only [farC]
  rw [if_pos ⟨trivial, by rw [decide_eq_false (by omega), decide_eq_false (by omega)]; rfl⟩]
theorem numsO_len : ∀ (k : Nat) (ws : List ByteArray) (l : List Int) (r : List ByteArray), numsO k ws = some (l, r) → r.length ≤ ws.length ∧ l.length = k ∧ ∀ x ∈ l, -100000 ≤ x ∧ x ≤ 100000
  | 0, ws, l, r, h => by simp only [numsO, Option.some.injEq, Prod.mk.injEq] at h; obtain ⟨rfl, rfl⟩ := h; exact ⟨Nat.le_refl _, rfl, by simp⟩
  | k + 1, [], l, r, h => by simp [numsO] at h
  | k + 1, s :: ws, l, r, h => by
    simp only [numsO] at h
    cases hv : numV s with
    | none => rw [hv] at h; cases h
    | some n =>
      rw [hv] at h
      simp only at h
      cases hk : numsO k ws with
      | none => rw [hk] at h; cases h
      | some p =>
        rw [hk] at h
        simp only [Option.some.injEq, Prod.mk.injEq] at h
        obtain ⟨rfl, rfl⟩ := h
        obtain ⟨h1, h2, h3⟩ := numsO_len k ws p.1 p.2 hk
        refine ⟨by simp; omega, by simp [h2], fun x hx => ?_⟩
        rcases List.mem_cons.1 hx with rfl | hx
        · exact (numV_bd hv).2
        · exact h3 x hx
theorem flat_len : ∀ l : List ByteArray, (l.flatMap digL).length = (l.map (·.data.toList)).flatten.length
  | [] => rfl
  | x :: l => by
    rw [List.flatMap_cons, List.length_append, List.map_cons, List.flatten_cons, List.length_append, flat_len l]
    unfold digL
    rw [List.length_map]
theorem gridL_len (s : ByteArray) : (gridL s).length ≤ s.size := by
  unfold gridL
  rw [flat_len]
  have h := splitB_one s 47
  unfold rowsS
  rw [h]
  exact splitL_sum 47 s.data.toList
theorem rows_ne (s : ByteArray) : rowsS s ≠ [] := fun h => by have := rows_len s; rw [h] at this; simp at this
theorem rowsO_some {W H : Int} {ws r : List ByteArray} {l : List Int} (h : rowsO W H ws = some (l, r)) (hm : Mod ws) : r.length ≤ ws.length ∧ l.length ≤ 10000 ∧ 0 < W := by
  cases ws with
  | nil => cases h
  | cons s ws =>
    simp only [rowsO] at h
    split at h
    · rename_i hg
      simp only [Option.some.injEq, Prod.mk.injEq] at h
      obtain ⟨rfl, rfl⟩ := h
      refine ⟨by simp, Nat.le_trans (gridL_len s) (hm.2 s (by simp)), ?_⟩
      cases hr : rowsS s with
      | nil => exact absurd hr (rows_ne s)
      | cons x l => exact (hg.2 x (by rw [hr]; simp)).2.1
    · cases h
/-- What a word, its numbers and its digits are like. -/
def HeadG (s : ByteArray) (n d : List Int) (c : Nat) : Prop := (∀ x ∈ n, -100000 ≤ x ∧ x ≤ 100000) ∧
  ((c = 0 ∧ (s = txt [103, 114, 105, 100] ∨ s = txt [98, 114, 105, 99, 107, 115]) ∧ n.length = 3 ∧ 0 < n.getD 0 0 ∧ d.length ≤ 10000)
  ∨ (c = 1 ∧ (s = txt [115, 104, 105, 102, 116] ∧ n.length = 2 ∨ s = txt [115, 119, 101, 108, 108] ∧ n.length = 1 ∨ s = txt [116, 117, 114, 110] ∨ s = txt [109, 105, 114, 114, 111, 114] ∨ s = txt [114, 101, 99, 111, 108, 111, 114]) ∧ d.length ≤ 8)
  ∨ (c = 2 ∧ s = txt [111, 118, 101, 114]))
theorem headO_good {s : ByteArray} {r r' : List ByteArray} {n d : List Int} {c : Nat} (hm : Mod r) (h : headO s r = some ((n, d, c), r')) : HeadG s n d c ∧ r'.length ≤ r.length := by
  by_cases e1 : s = txt [103, 114, 105, 100]
  · rw [headO_grid e1, Option.bind_eq_some_iff] at h
    obtain ⟨p, h0, h⟩ := h
    rw [Option.map_eq_some_iff] at h
    obtain ⟨q, h1, h⟩ := h
    cases h
    obtain ⟨a1, a2, a3⟩ := numsO_len 3 r p.1 p.2 h0
    obtain ⟨b1, b2, b3⟩ := rowsO_some h1 (numsO_mod _ _ _ _ h0 hm).1
    exact ⟨⟨a3, .inl ⟨rfl, .inl e1, a2, b3, b2⟩⟩, Nat.le_trans b1 a1⟩
  by_cases e2 : s = txt [98, 114, 105, 99, 107, 115]
  · rw [headO_bricks e2, Option.bind_eq_some_iff] at h
    obtain ⟨p, h0, h⟩ := h
    rw [Option.map_eq_some_iff] at h
    obtain ⟨q, h1, h⟩ := h
    cases h
    obtain ⟨a1, a2, a3⟩ := numsO_len 3 r p.1 p.2 h0
    obtain ⟨b1, b2, b3⟩ := rowsO_some h1 (numsO_mod _ _ _ _ h0 hm).1
    exact ⟨⟨a3, .inl ⟨rfl, .inr e2, a2, b3, b2⟩⟩, Nat.le_trans b1 a1⟩
  by_cases e3 : s = txt [115, 104, 105, 102, 116]
  · rw [headO_shift e3, Option.map_eq_some_iff] at h
    obtain ⟨p, h0, h⟩ := h
    cases h
    obtain ⟨a1, a2, a3⟩ := numsO_len 2 r p.1 p.2 h0
    exact ⟨⟨a3, .inr (.inl ⟨rfl, .inl ⟨e3, a2⟩, by simp⟩)⟩, a1⟩
  by_cases e4 : s = txt [115, 119, 101, 108, 108]
  · rw [headO_swell e4, Option.map_eq_some_iff] at h
    obtain ⟨p, h0, h⟩ := h
    cases h
    obtain ⟨a1, a2, a3⟩ := numsO_len 1 r p.1 p.2 h0
    exact ⟨⟨a3, .inr (.inl ⟨rfl, .inr (.inl ⟨e4, a2⟩), by simp⟩)⟩, a1⟩
  by_cases e5 : s = txt [116, 117, 114, 110]
  · rw [headO_turn e5] at h
    cases h
    exact ⟨⟨by simp, .inr (.inl ⟨rfl, .inr (.inr (.inl e5)), by simp⟩)⟩, Nat.le_refl _⟩
  by_cases e6 : s = txt [109, 105, 114, 114, 111, 114]
  · rw [headO_mirror e6] at h
    cases h
    exact ⟨⟨by simp, .inr (.inl ⟨rfl, .inr (.inr (.inr (.inl e6))), by simp⟩)⟩, Nat.le_refl _⟩
  by_cases e7 : s = txt [114, 101, 99, 111, 108, 111, 114]
  · cases r with
    | nil => rw [headO_recolor0 e7] at h; cases h
    | cons t r2 =>
      rw [headO_recolor e7] at h
      split at h
      · rename_i h8
        cases h
        exact ⟨⟨by simp, .inr (.inl ⟨rfl, .inr (.inr (.inr (.inr e7))), by unfold digL; rw [List.length_map]; exact Nat.le_of_eq h8.1⟩)⟩, by simp⟩
      · cases h
  by_cases e8 : s = txt [111, 118, 101, 114]
  · rw [headO_over e8] at h
    cases h
    exact ⟨⟨by simp, .inr (.inr ⟨rfl, e8⟩)⟩, Nat.le_refl _⟩
  rw [headO_none e1 e2 e3 e4 e5 e6 e7 e8] at h
  cases h
theorem paren_some {f : List ByteArray → Option (ExprD × List ByteArray)} {ws r : List ByteArray} {x : ExprD} : paren f ws = some (x, r) ↔ ∃ r1, ws = txt [40] :: r1 ∧ f r1 = some (x, txt [41] :: r) := by
  constructor
  · intro h
    cases ws with
    | nil => simp [paren] at h
    | cons s r1 =>
      simp only [paren] at h
      split at h
      · rename_i hs
        split at h
        · rename_i x' t r2 hf
          split at h
          · rename_i ht
            cases h
            exact ⟨r1, by rw [hs], by rw [hf, ht]⟩
          · cases h
        · cases h
      · cases h
  · rintro ⟨r1, rfl, hf⟩
    simp [paren, hf]
theorem partsO_succ {f : List ByteArray → Option (ExprD × List ByteArray)} {c : Nat} {ws r : List ByteArray} {l : List ExprD} : partsO f (c + 1) ws = some (l, r) ↔ ∃ x r1 l1, paren f ws = some (x, r1) ∧ partsO f c r1 = some (l1, r) ∧ l = x :: l1 := by
  constructor
  · intro h
    simp only [partsO] at h
    split at h
    · cases h
    · rename_i x r1 h1
      split at h
      · cases h
      · rename_i l1 r2 h2
        cases h
        exact ⟨x, r1, l1, h1, h2, rfl⟩
  · rintro ⟨x, r1, l1, h1, h2, rfl⟩
    simp [partsO, h1, h2]
theorem partsO_len {f : List ByteArray → Option (ExprD × List ByteArray)} : ∀ (c : Nat) (ws r : List ByteArray) (l : List ExprD), partsO f c ws = some (l, r) → l.length = c
  | 0, ws, r, l, h => by simp only [partsO] at h; cases h; rfl
  | c + 1, ws, r, l, h => by
    obtain ⟨x, r1, l1, -, h2, rfl⟩ := partsO_succ.1 h
    rw [List.length_cons, partsO_len c _ _ _ h2]
def depthE : ExprD → Nat
  | .leaf _ _ _ => 1
  | .one _ _ _ e => depthE e + 1
  | .two _ _ _ e1 e2 => max (depthE e1) (depthE e2) + 1
theorem mkE_depth {s : ByteArray} {n d : List Int} {l : List ExprD} {D : Nat} (hl : l.length ≤ 2) : depthE (mkE s n d l) ≤ D + 1 ↔ ∀ x ∈ l, depthE x ≤ D := by
  match l, hl with
  | [], _ => simp [mkE, depthE]
  | [x], _ => simp [mkE, depthE]
  | [x, y], _ => simp [mkE, depthE, Nat.max_le]
theorem exprO_succ {k : Nat} {s : ByteArray} {ws r : List ByteArray} {x : ExprD} : exprO (k + 1) (s :: ws) = some (x, r) ↔ ∃ n d c r1 l, headO s ws = some ((n, d, c), r1) ∧ partsO (exprO k) c r1 = some (l, r) ∧ x = mkE s n d l := by
  simp only [exprO]
  constructor
  · intro h
    rw [Option.bind_eq_some_iff] at h
    obtain ⟨p, h0, h⟩ := h
    rw [Option.map_eq_some_iff] at h
    obtain ⟨q, h1, h⟩ := h
    cases h
    exact ⟨p.1.1, p.1.2.1, p.1.2.2, p.2, q.1, h0, h1, rfl⟩
  · rintro ⟨n, d, c, r1, l, h0, h1, rfl⟩
    rw [h0]
    simp [h1]
theorem exprO_len : ∀ (k : Nat) (ws r : List ByteArray) (x : ExprD), Mod ws → exprO k ws = some (x, r) → r.length < ws.length
  | 0, ws, r, x, _, h => by cases ws <;> simp [exprO] at h
  | k + 1, [], r, x, _, h => by simp [exprO] at h
  | k + 1, s :: ws, r, x, hm, h => by
    obtain ⟨n, d, c, r1, l, h0, h1, rfl⟩ := exprO_succ.1 h
    have h2 := (headO_good hm.tail h0).2
    have h3 : ∀ (c : Nat) (ws r : List ByteArray) (l : List ExprD), Mod ws → partsO (exprO k) c ws = some (l, r) → r.length ≤ ws.length := by
      intro c
      induction c with
      | zero => intro ws r l _ h; simp only [partsO] at h; cases h; exact Nat.le_refl _
      | succ c ih =>
        intro ws r l hm h
        obtain ⟨x, r1, l1, h1, h2, rfl⟩ := partsO_succ.1 h
        obtain ⟨r2, rfl, h3⟩ := paren_some.1 h1
        have h4 := exprO_len k _ _ _ hm.tail h3
        have h5 := ih _ _ _ (exprO_mod h3 hm.tail).tail h2
        simp only [List.length_cons] at h4 h5 ⊢
        omega
    have h4 := h3 c r1 r l (headO_mod h0 hm.tail) h1
    simp only [List.length_cons]
    omega
/-- What the reference reads: as deep as the words go, twelve levels allowed. -/
def refE : Nat → List ByteArray → Option (ExprD × List ByteArray)
  | 0, _ => none
  | _ + 1, [] => none
  | k + 1, s :: r => (headO s r).bind fun p => (partsO (refE k) p.1.2.2 p.2).bind fun q => if depthE (mkE s p.1.1 p.1.2.1 q.1) ≤ 12 then some (mkE s p.1.1 p.1.2.1 q.1, q.2) else none
theorem refE_succ {k : Nat} {s : ByteArray} {ws r : List ByteArray} {x : ExprD} : refE (k + 1) (s :: ws) = some (x, r) ↔ ∃ n d c r1 l, headO s ws = some ((n, d, c), r1) ∧ partsO (refE k) c r1 = some (l, r) ∧ x = mkE s n d l ∧ depthE x ≤ 12 := by
  simp only [refE]
  constructor
  · intro h
    rw [Option.bind_eq_some_iff] at h
    obtain ⟨p, h0, h⟩ := h
    rw [Option.bind_eq_some_iff] at h
    obtain ⟨q, h1, h⟩ := h
    split at h
    · rename_i h2
      cases h
      exact ⟨p.1.1, p.1.2.1, p.1.2.2, p.2, q.1, h0, h1, rfl, h2⟩
    · cases h
  · rintro ⟨n, d, c, r1, l, h0, h1, rfl, h2⟩
    rw [h0]
    simp [h1, h2]
theorem exprO_modp {k : Nat} : ∀ (c : Nat) (ws r : List ByteArray) (l : List ExprD), partsO (exprO k) c ws = some (l, r) → Mod ws → Mod r
  | 0, ws, r, l, h, hm => by simp only [partsO] at h; cases h; exact hm
  | c + 1, ws, r, l, h, hm => by
    obtain ⟨x, r1, l1, h1, h2, rfl⟩ := partsO_succ.1 h
    obtain ⟨r2, rfl, h3⟩ := paren_some.1 h1
    exact exprO_modp c _ _ _ h2 (exprO_mod h3 hm.tail).tail
theorem exprO_lift : ∀ (d d' : Nat) (ws r : List ByteArray) (x : ExprD), Mod ws → exprO d ws = some (x, r) → depthE x ≤ d ∧ (depthE x ≤ d' → exprO d' ws = some (x, r))
  | 0, d', ws, r, x, _, h => by cases ws <;> simp [exprO] at h
  | d + 1, d', [], r, x, _, h => by simp [exprO] at h
  | d + 1, d', s :: ws, r, x, hm, h => by
    obtain ⟨n, e, c, r1, l, h0, h1, rfl⟩ := exprO_succ.1 h
    have hl : l.length ≤ 2 := by rw [partsO_len _ _ _ _ h1]; exact headO_count h0
    have hm1 := headO_mod h0 hm.tail
    have hdp : ∀ (c : Nat) (ws r : List ByteArray) (l : List ExprD), Mod ws → partsO (exprO d) c ws = some (l, r) → ∀ y ∈ l, depthE y ≤ d := by
      intro c
      induction c with
      | zero => intro ws r l _ h; simp only [partsO] at h; cases h; simp
      | succ c ih =>
        intro ws r l hm h y hy
        obtain ⟨x, r1, l1, h1, h2, rfl⟩ := partsO_succ.1 h
        obtain ⟨r2, rfl, h3⟩ := paren_some.1 h1
        rcases List.mem_cons.1 hy with rfl | hy
        · exact (exprO_lift d 0 _ _ _ hm.tail h3).1
        · exact ih _ _ _ (exprO_mod h3 hm.tail).tail h2 y hy
    refine ⟨(mkE_depth hl).2 (hdp c r1 r l hm1 h1), fun hd => ?_⟩
    cases d' with
    | zero => exact absurd hd (by cases l with | nil => simp [mkE, depthE] | cons y l => cases l <;> simp [mkE, depthE])
    | succ d' =>
      have hall := (mkE_depth hl).1 hd
      have hlp : ∀ (c : Nat) (ws r : List ByteArray) (l : List ExprD), Mod ws → (∀ y ∈ l, depthE y ≤ d') → partsO (exprO d) c ws = some (l, r) → partsO (exprO d') c ws = some (l, r) := by
        intro c
        induction c with
        | zero => intro ws r l _ _ h; simp only [partsO] at h ⊢; exact h
        | succ c ih =>
          intro ws r l hm hy h
          obtain ⟨x, r1, l1, h1, h2, rfl⟩ := partsO_succ.1 h
          obtain ⟨r2, rfl, h3⟩ := paren_some.1 h1
          exact partsO_succ.2 ⟨x, r1, l1, paren_some.2 ⟨r2, rfl, (exprO_lift d d' _ _ _ hm.tail h3).2 (hy x (by simp))⟩, ih _ _ _ (exprO_mod h3 hm.tail).tail (fun y h => hy y (by simp [h])) h2, rfl⟩
      exact exprO_succ.2 ⟨n, e, c, r1, l, h0, hlp c r1 r l hm1 hall h1, rfl⟩
theorem refE_exprO : ∀ (k : Nat) (ws r : List ByteArray) (x : ExprD), refE k ws = some (x, r) → exprO k ws = some (x, r) ∧ depthE x ≤ 12
  | 0, ws, r, x, h => by cases ws <;> simp [refE] at h
  | k + 1, [], r, x, h => by simp [refE] at h
  | k + 1, s :: ws, r, x, h => by
    obtain ⟨n, e, c, r1, l, h0, h1, rfl, h2⟩ := refE_succ.1 h
    have hlp : ∀ (c : Nat) (ws r : List ByteArray) (l : List ExprD), partsO (refE k) c ws = some (l, r) → partsO (exprO k) c ws = some (l, r) := by
      intro c
      induction c with
      | zero => intro ws r l h; simp only [partsO] at h ⊢; exact h
      | succ c ih =>
        intro ws r l h
        obtain ⟨x, r1, l1, h1, h2, rfl⟩ := partsO_succ.1 h
        obtain ⟨r2, rfl, h3⟩ := paren_some.1 h1
        exact partsO_succ.2 ⟨x, r1, l1, paren_some.2 ⟨r2, rfl, (refE_exprO k _ _ _ h3).1⟩, ih _ _ _ h2, rfl⟩
    exact ⟨exprO_succ.2 ⟨n, e, c, r1, l, h0, hlp c r1 r l h1, rfl⟩, h2⟩
theorem exprO_refE : ∀ (d k : Nat) (ws r : List ByteArray) (x : ExprD), Mod ws → exprO d ws = some (x, r) → depthE x ≤ 12 → ws.length < k → refE k ws = some (x, r)
  | 0, k, ws, r, x, _, h, _, _ => by cases ws <;> simp [exprO] at h
  | d + 1, k, [], r, x, _, h, _, _ => by simp [exprO] at h
  | d + 1, 0, s :: ws, r, x, hm, h, hd, hk => by omega
  | d + 1, k + 1, s :: ws, r, x, hm, h, hd, hk => by
    obtain ⟨n, e, c, r1, l, h0, h1, rfl⟩ := exprO_succ.1 h
    have hl : l.length ≤ 2 := by rw [partsO_len _ _ _ _ h1]; exact headO_count h0
    have hall := (mkE_depth (D := 11) hl).1 hd
    have hh := (headO_good hm.tail h0).2
    simp only [List.length_cons] at hk
    have hlp : ∀ (c : Nat) (ws r : List ByteArray) (l : List ExprD), Mod ws → ws.length ≤ k → (∀ y ∈ l, depthE y ≤ 11) → partsO (exprO d) c ws = some (l, r) → partsO (refE k) c ws = some (l, r) := by
      intro c
      induction c with
      | zero => intro ws r l _ _ _ h; simp only [partsO] at h ⊢; exact h
      | succ c ih =>
        intro ws r l hm hw hy h
        obtain ⟨x, r1, l1, h1, h2, rfl⟩ := partsO_succ.1 h
        obtain ⟨r2, rfl, h3⟩ := paren_some.1 h1
        have h4 := exprO_len d _ _ _ hm.tail h3
        simp only [List.length_cons] at h4 hw
        exact partsO_succ.2 ⟨x, r1, l1, paren_some.2 ⟨r2, rfl, exprO_refE d k _ _ _ hm.tail h3 (by have := hy x (by simp); omega) (by omega)⟩, ih _ _ _ (exprO_mod h3 hm.tail).tail (by omega) (fun y h => hy y (by simp [h])) h2, rfl⟩
    exact refE_succ.2 ⟨n, e, c, r1, l, h0, hlp c r1 r l (headO_mod h0 hm.tail) (by omega) hall h1, rfl, hd⟩
/-- Both read the same. -/
theorem refE_eq {k : Nat} {ws : List ByteArray} (hm : Mod ws) (hk : ws.length < k) : refE k ws = exprO 12 ws := by
  rcases h : exprO 12 ws with _ | ⟨x, r⟩
  · rcases h2 : refE k ws with _ | ⟨x, r⟩
    · rfl
    · obtain ⟨h3, h4⟩ := refE_exprO _ _ _ _ h2
      rw [(exprO_lift k 12 _ _ _ hm h3).2 h4] at h
      cases h
  · exact exprO_refE 12 k _ _ _ hm h (exprO_lift 12 0 _ _ _ hm h).1 hk
end Go.Proofs.YtlinldbbhdpgcaaGreatDoor
/-
  THE VALUE OF A TREE OF WORDS: PLAIN.
-/
namespace Go.Proofs.YtlinldbbhdpgcaaGreatDoor
open Go.RowKit
def leafP (s : ByteArray) (n d : List Int) : PatD := if s = txt [103, 114, 105, 100] then ⟨n.getD 0 0, n.getD 1 0, n.getD 2 0, d⟩ else ⟨n.getD 0 0, n.getD 2 0 % n.getD 0 0, n.getD 1 0, d⟩
noncomputable def oneV (s : ByteArray) (n d : List Int) (p : PatD) : PatD × Int :=
  if s = txt [115, 104, 105, 102, 116] then (shiftT p (n.getD 0 0) (n.getD 1 0), chkP p [n.getD 0 0, n.getD 1 0])
  else if s = txt [115, 119, 101, 108, 108] then (sweT p (n.getD 0 0), sweE p (n.getD 0 0))
  else if s = txt [116, 117, 114, 110] then (turnT p, valP p)
  else if s = txt [109, 105, 114, 114, 111, 114] then (mirT p, valP p)
  else (recT p d, recZ p d)
/-- The pattern that an expression is, or the first error. -/
noncomputable def valX : ExprD → PatD × Int
  | .leaf s n d => (lstO (leafP s n d), valP (leafP s n d))
  | .one s n d e => if (valX e).2 = 0 then oneV s n d (valX e).1 else (zeroP, (valX e).2)
  | .two _ _ _ e1 e2 => if (valX e1).2 = 0 then if (valX e2).2 = 0 then (oveT (valX e1).1 (valX e2).1, oveZ (valX e1).1 (valX e2).1) else (zeroP, (valX e2).2) else (zeroP, (valX e1).2)
/-- Expressions that the parser reads. -/
def GoodE : ExprD → Prop
  | .leaf s n d => HeadG s n d 0
  | .one s n d e => HeadG s n d 1 ∧ GoodE e
  | .two s n d e1 e2 => HeadG s n d 2 ∧ GoodE e1 ∧ GoodE e2
theorem exprO_good : ∀ (k : Nat) (ws r : List ByteArray) (x : ExprD), Mod ws → exprO k ws = some (x, r) → GoodE x
  | 0, ws, r, x, _, h => by cases ws <;> simp [exprO] at h
  | k + 1, [], r, x, _, h => by simp [exprO] at h
  | k + 1, s :: ws, r, x, hm, h => by
    obtain ⟨n, d, c, r1, l, h0, h1, rfl⟩ := exprO_succ.1 h
    have hg := (headO_good hm.tail h0).1
    have hc := headO_count h0
    have hm1 := headO_mod h0 hm.tail
    match c, hc with
    | 0, _ =>
      simp only [partsO] at h1
      cases h1
      exact hg
    | 1, _ =>
      obtain ⟨x, r1, l1, h2, h3, rfl⟩ := partsO_succ.1 h1
      simp only [partsO] at h3
      cases h3
      obtain ⟨r2, rfl, h4⟩ := paren_some.1 h2
      exact ⟨hg, exprO_good k _ _ _ hm1.tail h4⟩
    | 2, _ =>
      obtain ⟨x, r1, l1, h2, h3, rfl⟩ := partsO_succ.1 h1
      obtain ⟨y, r3, l2, h5, h6, rfl⟩ := partsO_succ.1 h3
      simp only [partsO] at h6
      cases h6
      obtain ⟨r2, rfl, h4⟩ := paren_some.1 h2
      obtain ⟨r4, rfl, h7⟩ := paren_some.1 h5
      exact ⟨hg, exprO_good k _ _ _ hm1.tail h4, exprO_good k _ _ _ (exprO_mod h4 hm1.tail).tail.tail h7⟩
theorem oShift_len (p : PatD) (x y : Int) : (shiftT p x y).xs.length ≤ 144 := by
  by_cases h : chkP p [x, y] = 0
  · exact (oShift h).1.len144
  · rw [oShift_no h]; exact zero_len
theorem oTurn_len (p : PatD) : (turnT p).xs.length ≤ 144 := by
  by_cases h : valP p = 0
  · exact (oTurn h).1.len144
  · rw [oTurn_no h]; exact zero_len
theorem oMir_len (p : PatD) : (mirT p).xs.length ≤ 144 := by
  by_cases h : valP p = 0
  · exact (oMir h).1.len144
  · rw [oMir_no h]; exact zero_len
theorem oSwe_len (p : PatD) (t : Int) : (sweT p t).xs.length ≤ 144 := by
  rcases oSwe p t with ⟨-, -, -, -, h, -⟩ | ⟨-, h⟩
  · exact h.len144
  · rw [h]; exact zero_len
theorem oOve_len (p q : PatD) : (oveT p q).xs.length ≤ 144 := by
  rcases oOve p q with ⟨-, -, -, h, -⟩ | ⟨-, h⟩
  · exact h.len144
  · rw [h]; exact zero_len
theorem oneV_len (s : ByteArray) (n d : List Int) (p : PatD) : (oneV s n d p).1.xs.length ≤ 144 := by
  unfold oneV
  repeat' split
  · exact oShift_len _ _ _
  · exact oSwe_len _ _
  · exact oTurn_len _
  · exact oMir_len _
  · exact oRec_len _ _
theorem valX_len (x : ExprD) : (valX x).1.xs.length ≤ 144 := by
  cases x with
  | leaf s n d => exact lstO_len _
  | one s n d e =>
    simp only [valX]
    split
    · exact oneV_len _ _ _ _
    · exact zero_len
  | two s n d e1 e2 =>
    simp only [valX]
    repeat' split
    · exact oOve_len _ _
    · exact zero_len
    · exact zero_len
theorem oneV_bad {s : ByteArray} {n d : List Int} {p : PatD} (h : (oneV s n d p).2 ≠ 0) : (oneV s n d p).1 = zeroP := by
  unfold oneV at h ⊢
  by_cases e1 : s = txt [115, 104, 105, 102, 116]
  · rw [if_pos e1] at h ⊢; exact oShift_no h
  rw [if_neg e1] at h ⊢
  by_cases e2 : s = txt [115, 119, 101, 108, 108]
  · rw [if_pos e2] at h ⊢
    rcases oSwe p (n.getD 0 0) with ⟨h1, -⟩ | ⟨-, h1⟩
    · exact absurd h1 h
    · exact h1
  rw [if_neg e2] at h ⊢
  by_cases e3 : s = txt [116, 117, 114, 110]
  · rw [if_pos e3] at h ⊢; exact oTurn_no h
  rw [if_neg e3] at h ⊢
  by_cases e4 : s = txt [109, 105, 114, 114, 111, 114]
  · rw [if_pos e4] at h ⊢; exact oMir_no h
  rw [if_neg e4] at h ⊢
  exact oRec_no h
theorem valX_bad {x : ExprD} (h : (valX x).2 ≠ 0) : (valX x).1 = zeroP := by
  cases x with
  | leaf s n d => exact lstO_bad h
  | one s n d e =>
    simp only [valX] at h ⊢
    split at h
    · rename_i h1; rw [if_pos h1]; exact oneV_bad h
    · rename_i h1; rw [if_neg h1]
  | two s n d e1 e2 =>
    simp only [valX] at h ⊢
    split at h
    · rename_i h1
      rw [if_pos h1]
      split at h
      · rename_i h2
        rw [if_pos h2]
        rcases oOve (valX e1).1 (valX e2).1 with ⟨h3, -⟩ | ⟨-, h3⟩
        · exact absurd h3 h
        · exact h3
      · rename_i h2; rw [if_neg h2]
    · rename_i h1; rw [if_neg h1]
end Go.Proofs.YtlinldbbhdpgcaaGreatDoor
/-
  THE NODES OF AN EXPRESSION IN THE ORDER IN WHICH THEY ARE DONE: PLAIN.
-/
namespace Go.Proofs.YtlinldbbhdpgcaaGreatDoor
open Go.RowKit
structure NodeD where
  s : ByteArray
  n : List Int
  d : List Int
  p : List Int
  k : Nat
def leafN (s : ByteArray) (n : List Int) : List Int := if s = txt [103, 114, 105, 100] then n else [n.getD 0 0, n.getD 2 0 % n.getD 0 0, n.getD 1 0]
def sizeE : ExprD → Nat
  | .leaf _ _ _ => 1
  | .one _ _ _ e => sizeE e + 1
  | .two _ _ _ e1 e2 => sizeE e1 + sizeE e2 + 1
def flatN (b : Nat) : ExprD → List NodeD
  | .leaf s n d => [⟨s, leafN s n, d, [], 1⟩]
  | .one s n d e => flatN b e ++ [⟨s, n, d, [((b + sizeE e - 1 : Nat) : Int)], depthE (.one s n d e)⟩]
  | .two s n d e1 e2 => flatN b e1 ++ (flatN (b + sizeE e1) e2 ++ [⟨s, n, d, [((b + sizeE e1 - 1 : Nat) : Int), ((b + sizeE e1 + sizeE e2 - 1 : Nat) : Int)], depthE (.two s n d e1 e2)⟩])
theorem sizeE_pos (x : ExprD) : 0 < sizeE x := by cases x <;> simp [sizeE]
theorem flatN_len : ∀ (x : ExprD) (b : Nat), (flatN b x).length = sizeE x
  | .leaf _ _ _, b => rfl
  | .one s n d e, b => by simp [flatN, sizeE, flatN_len e]
  | .two s n d e1 e2, b => by simp [flatN, sizeE, flatN_len e1, flatN_len e2]; omega
/-- What a node gives, when those before it are done. -/
noncomputable def evN (D : List PatD) (x : NodeD) : PatD × Int :=
  if x.s = txt [103, 114, 105, 100] ∨ x.s = txt [98, 114, 105, 99, 107, 115] then (lstO ⟨x.n.getD 0 0, x.n.getD 1 0, x.n.getD 2 0, x.d⟩, valP ⟨x.n.getD 0 0, x.n.getD 1 0, x.n.getD 2 0, x.d⟩)
  else if x.s = txt [111, 118, 101, 114] then (oveT (D.getD (x.p.getD 0 0).toNat zeroP) (D.getD (x.p.getD 1 0).toNat zeroP), oveZ (D.getD (x.p.getD 0 0).toNat zeroP) (D.getD (x.p.getD 1 0).toNat zeroP))
  else oneV x.s x.n x.d (D.getD (x.p.getD 0 0).toNat zeroP)
/-- Node by node. -/
noncomputable def runN : List PatD → List NodeD → List PatD × Int
  | D, [] => (D, 0)
  | D, x :: r => if (evN D x).2 = 0 then runN (D ++ [(evN D x).1]) r else (D, (evN D x).2)
theorem evN_leaf {s : ByteArray} {n d : List Int} (h : HeadG s n d 0) (D : List PatD) : evN D ⟨s, leafN s n, d, [], 1⟩ = valX (.leaf s n d) := by
  rcases h with ⟨-, ⟨-, h, -⟩ | ⟨h, -⟩ | ⟨h, -⟩⟩
  · unfold evN leafN
    simp only [valX, leafP]
    rw [if_pos h]
    rcases h with h | h
    · rw [if_pos h, if_pos h]
    · have h2 : ¬ s = txt [103, 114, 105, 100] := by rw [h]; decide
      rw [if_neg h2, if_neg h2]
      rfl
  · cases h
  · cases h
theorem evN_one {s : ByteArray} {n d : List Int} (h : HeadG s n d 1) (D : List PatD) (i k : Nat) : evN D ⟨s, n, d, [(i : Int)], k⟩ = oneV s n d (D.getD i zeroP) := by
  rcases h with ⟨-, ⟨h, -⟩ | ⟨-, h, -⟩ | ⟨h, -⟩⟩
  · cases h
  · unfold evN
    have h1 : ¬ (s = txt [103, 114, 105, 100] ∨ s = txt [98, 114, 105, 99, 107, 115]) := by
      rcases h with ⟨rfl, -⟩ | ⟨rfl, -⟩ | rfl | rfl | rfl <;> decide
    have h2 : ¬ s = txt [111, 118, 101, 114] := by
      rcases h with ⟨rfl, -⟩ | ⟨rfl, -⟩ | rfl | rfl | rfl <;> decide
    simp only
    rw [if_neg h1, if_neg h2]
    rfl
  · cases h
theorem evN_two {s : ByteArray} {n d : List Int} (h : HeadG s n d 2) (D : List PatD) (i j k : Nat) : evN D ⟨s, n, d, [(i : Int), (j : Int)], k⟩ = (oveT (D.getD i zeroP) (D.getD j zeroP), oveZ (D.getD i zeroP) (D.getD j zeroP)) := by
  rcases h with ⟨-, ⟨h, -⟩ | ⟨h, -⟩ | ⟨-, h⟩⟩
  · cases h
  · cases h
  · unfold evN
    subst h
    simp only
    rw [if_neg (by decide), if_pos trivial]
    rfl
theorem getD_app_last {D L : List PatD} {p : PatD} (hL : L.getLast? = some p) : (D ++ L).getD (D.length + L.length - 1) zeroP = p := by
  have h0 : 0 < L.length := by cases L with | nil => simp at hL | cons => simp
  rw [List.getLast?_eq_getElem?] at hL
  rw [List.getD, List.getElem?_append_right (by omega), show D.length + L.length - 1 - D.length = L.length - 1 by omega, hL]
  rfl
/-- Done node by node, an expression gives its value. -/
theorem run_flat : ∀ (x : ExprD) (_ : GoodE x) (D : List PatD) (R : List NodeD), ((valX x).2 = 0 → ∃ L, L.length = sizeE x ∧ L.getLast? = some (valX x).1 ∧ runN D (flatN D.length x ++ R) = runN (D ++ L) R) ∧ ((valX x).2 ≠ 0 → (runN D (flatN D.length x ++ R)).2 = (valX x).2)
  | .leaf s n d, hg, D, R => by
    have he := evN_leaf hg D
    simp only [flatN, List.singleton_append, runN]
    rw [he]
    refine ⟨fun h => ⟨[(valX (.leaf s n d)).1], rfl, rfl, by rw [if_pos h]⟩, fun h => by rw [if_neg h]⟩
  | .one s n d e, hg, D, R => by
    obtain ⟨h1, h2⟩ := run_flat e hg.2 D ([⟨s, n, d, [((D.length + sizeE e - 1 : Nat) : Int)], depthE (.one s n d e)⟩] ++ R)
    simp only [flatN, List.append_assoc]
    by_cases hz : (valX e).2 = 0
    · obtain ⟨L, l1, l2, l3⟩ := h1 hz
      have hv : valX (.one s n d e) = oneV s n d (valX e).1 := by simp only [valX]; rw [if_pos hz]
      have he := evN_one hg.1 (D ++ L) (D.length + sizeE e - 1) (depthE (.one s n d e))
      rw [← l1, getD_app_last l2, l1, ← hv] at he
      rw [l3]
      simp only [List.singleton_append, runN]
      rw [he]
      refine ⟨fun h => ⟨L ++ [(valX (.one s n d e)).1], by simp [l1, sizeE], by simp, by rw [if_pos h, List.append_assoc]⟩, fun h => by rw [if_neg h]⟩
    · have hv : valX (.one s n d e) = (zeroP, (valX e).2) := by simp only [valX]; rw [if_neg hz]
      rw [hv]
      exact ⟨fun h => absurd h hz, fun _ => h2 hz⟩
  | .two s n d e1 e2, hg, D, R => by
    obtain ⟨h1, h2⟩ := run_flat e1 hg.2.1 D (flatN (D.length + sizeE e1) e2 ++ ([⟨s, n, d, [((D.length + sizeE e1 - 1 : Nat) : Int), ((D.length + sizeE e1 + sizeE e2 - 1 : Nat) : Int)], depthE (.two s n d e1 e2)⟩] ++ R))
    simp only [flatN, List.append_assoc]
    by_cases hz : (valX e1).2 = 0
    · obtain ⟨L, l1, l2, l3⟩ := h1 hz
      rw [l3]
      obtain ⟨h3, h4⟩ := run_flat e2 hg.2.2 (D ++ L) ([⟨s, n, d, [((D.length + sizeE e1 - 1 : Nat) : Int), ((D.length + sizeE e1 + sizeE e2 - 1 : Nat) : Int)], depthE (.two s n d e1 e2)⟩] ++ R)
      rw [show (D ++ L).length = D.length + sizeE e1 by simp [l1]] at h3 h4
      by_cases hy : (valX e2).2 = 0
      · obtain ⟨M, m1, m2, m3⟩ := h3 hy
        have hv : valX (.two s n d e1 e2) = (oveT (valX e1).1 (valX e2).1, oveZ (valX e1).1 (valX e2).1) := by simp only [valX]; rw [if_pos hz, if_pos hy]
        have he := evN_two hg.1 (D ++ L ++ M) (D.length + sizeE e1 - 1) (D.length + sizeE e1 + sizeE e2 - 1) (depthE (.two s n d e1 e2))
        have g1 : (D ++ L ++ M).getD (D.length + sizeE e1 - 1) zeroP = (valX e1).1 := by
          have := sizeE_pos e1
          rw [List.getD, List.getElem?_append_left (by simp; omega), ← List.getD, ← l1, getD_app_last l2]
        have g2 : (D ++ L ++ M).getD (D.length + sizeE e1 + sizeE e2 - 1) zeroP = (valX e2).1 := by
          have := getD_app_last (D := D ++ L) m2
          rw [← this]
          congr 1
          simp [l1, m1]
        rw [g1, g2, ← hv] at he
        rw [m3]
        simp only [List.singleton_append, runN]
        rw [he]
        refine ⟨fun h => ⟨L ++ (M ++ [(valX (.two s n d e1 e2)).1]), by simp [l1, m1, sizeE]; omega, by simp, by rw [if_pos h]; simp⟩, fun h => by rw [if_neg h]⟩
      · have hv : valX (.two s n d e1 e2) = (zeroP, (valX e2).2) := by simp only [valX]; rw [if_pos hz, if_neg hy]
        rw [hv]
        exact ⟨fun h => absurd h hy, fun _ => h4 hy⟩
    · have hv : valX (.two s n d e1 e2) = (zeroP, (valX e1).2) := by simp only [valX]; rw [if_neg hz]
      rw [hv]
      exact ⟨fun h => absurd h hz, fun _ => h2 hz⟩
end Go.Proofs.YtlinldbbhdpgcaaGreatDoor
/-
  LISTS OF PATTERNS IN MEMORY.
-/
namespace Go.Proofs.YtlinldbbhdpgcaaGreatDoor
open Go.RowKit
theorem patInfo : (Tryz.prog.info? 24).map (fun i => (i.zero, i.size, i.bytes)) = some (some (.agg #[.int .i64 0, .int .i64 0, .int .i64 0, .slice none 0 0]), 4, 48) := by kernel_rfl
theorem flat_get {α β : Type} (f : α → List β) (n : Nat) : ∀ (L : List α) (_ : ∀ x ∈ L, (f x).length = n) (i j : Nat) (hi : i < L.length), j < n → (L.flatMap f)[i * n + j]? = (f L[i])[j]?
  | x :: L, hf, 0, j, _, hj => by rw [List.flatMap_cons, Nat.zero_mul, Nat.zero_add, List.getElem?_append_left (by rw [hf x (by simp)]; exact hj)]; rfl
  | x :: L, hf, i + 1, j, hi, hj => by
    have hx := hf x (by simp)
    have e : (i + 1) * n = i * n + n := Nat.succ_mul i n
    rw [List.flatMap_cons, List.getElem?_append_right (by rw [hx, e]; omega), hx, show (i + 1) * n + j - n = i * n + j by rw [e]; omega, flat_get f n L (fun y hy => hf y (by simp [hy])) i j (by simpa using hi) hj]
    rfl
def pcells (p : PatD × Value) : List Value := [.int .i64 p.1.a, .int .i64 p.1.b, .int .i64 p.1.c, p.2]
theorem flat_len4 {α β : Type} (f : α → List β) (n : Nat) : ∀ (L : List α) (_ : ∀ x ∈ L, (f x).length = n), (L.flatMap f).length = L.length * n
  | [], _ => by simp
  | x :: L, hf => by rw [List.flatMap_cons, List.length_append, hf x (by simp), flat_len4 f n L (fun y hy => hf y (by simp [hy])), List.length_cons, Nat.succ_mul]; omega
/-- The list v of patterns, in memory from block B on; their colors lie there too, in other blocks than the list's own. -/
def PsO (w : World) (B : Nat) (v : Value) (L : List (PatD × Value)) : Prop :=
  w.ownsRow B 24 4 v L.length (L.flatMap pcells) ∧ ∀ p ∈ L, RdL w (fun b => B ≤ b ∧ v.ownBlock ≠ some b) p.2 p.1.xs
theorem PsO.nil (w : World) (B : Nat) : PsO w B (.slice none 0 0) [] := ⟨World.ownsRow_nil _ _ _ _, by simp⟩
theorem PsO.keep {w w' : World} {B : Nat} {v : Value} {L : List (PatD × Value)} (h : PsO w B v L) (hb : Below w.heap.size w w') : PsO w' B v L :=
  ⟨World.ownsRow.kept h.1 (row := none) ⟨hb.os, hb.tape, hb.output, hb.size, fun k hk _ => hb.block k hk⟩ (by cases v.ownBlock <;> simp), fun p hp => (h.2 p hp).kept hb.size (fun b _ hlt => hb.block b hlt) (fun b hb _ => hb)⟩
theorem PsO.grown {w w' : World} {B pb : Nat} {v : Value} {L : List (PatD × Value)} (h : PsO w B v L) (hg : w.grownBy w' (some pb)) (hB : pb < B) : PsO w' B v L :=
  ⟨World.ownsRow.kept h.1 hg (by
    by_cases hv : v.ownBlock = some pb
    · exact absurd (World.ownsRow.lt h.1 _ hv).1 (by omega)
    · exact .inr hv), fun p hp => (h.2 p hp).kept hg.size (fun b hb hlt => hg.block b hlt (fun e => by cases e; omega)) (fun b hb _ => hb)⟩
theorem PsO.lt {w : World} {B : Nat} {v : Value} {L : List (PatD × Value)} (h : PsO w B v L) : ∀ g, v.ownBlock = some g → B ≤ g ∧ g < w.heap.size := World.ownsRow.lt h.1
theorem PsO.get {w : World} {B : Nat} {v : Value} {L : List (PatD × Value)} (h : PsO w B v L) (i : Nat) (hi : i < L.length) : ∃ g c A k, v = .slice (some ⟨g, 0, none⟩) L.length c ∧ g < w.heap.size ∧ B ≤ g ∧ L[i].2 = .slice A L[i].1.xs.length k ∧ IsL w A L[i].1.xs.length L[i].1.xs ∧
    w.cell? ⟨g, i * 4, none⟩ = some (.int .i64 L[i].1.a) ∧ w.cell? ⟨g, i * 4 + 1, none⟩ = some (.int .i64 L[i].1.b) ∧ w.cell? ⟨g, i * 4 + 2, none⟩ = some (.int .i64 L[i].1.c) ∧ w.cell? ⟨g, i * 4 + 3, none⟩ = some (.slice A L[i].1.xs.length k) := by
  obtain ⟨A, k, h1, h2⟩ := (h.2 L[i] (List.getElem_mem hi)).isL
  obtain ⟨g, c, rfl⟩ := own_some h.1 (by omega)
  obtain ⟨hr, -, hB⟩ := Row.of_own h.1
  have hl : (L.flatMap pcells).length = L.length * 4 := flat_len4 pcells 4 L (fun _ _ => rfl)
  have hc : ∀ j, j < 4 → w.cell? ⟨g, i * 4 + j, none⟩ = (pcells L[i])[j]? := fun j hj => by
    rw [← flat_get pcells 4 L (fun _ _ => rfl) i j hi hj, hr.get (i * 4 + j) (by omega), List.getElem?_eq_getElem]
  refine ⟨g, c, A, k, rfl, hr.lt, hB, h1, h2, hc 0 (by omega), hc 1 (by omega), hc 2 (by omega), (hc 3 (by omega)).trans ?_⟩
  show some L[i].2 = _
  rw [h1]
/-- append(s, p) of one pattern. -/
theorem append_pat {w : World} {ops : Array Oper} {rest : List Oper} {o : Oper} {a : Act} {Q : Exit → Act → World → Prop} (s x : Operand)
    (ho : o.op = .call { callee := .builtin .append, args := #[s, x], argTypes := #[85, 85] }) (hgd : o.guard = none)
    (B lo : Nat) (v : Value) (L : List (PatD × Value)) (p : PatD) (pv : Value) (W : World) (hW : w = W.alloc (.cells #[.int .i64 p.a, .int .i64 p.b, .int .i64 p.c, pv] 24)) (hs : a.eval s = v) (hown : PsO W B v L) (hx : a.eval x = .slice (some ⟨W.heap.size, 0, none⟩) 1 1)
    (hp : RdL W (fun b => lo ≤ b) pv p.xs) (hlo : B ≤ lo) (hv : ∀ g, v.ownBlock = some g → g < lo) (hn : L.length ≤ 1000000) (hB : B ≤ W.heap.size)
    (h : ∀ v' w', PsO w' B v' (L ++ [(p, pv)]) → W.grownBy w' v.ownBlock → (v'.ownBlock = v.ownBlock ∨ v'.ownBlock = some (W.heap.size + 1)) → wpList Tryz.prog ops Q rest (a.put o.dst v') w') : wpList Tryz.prog ops Q (o :: rest) a w := by
  subst hW
  obtain ⟨i0, hi, hz0, hz1, hz2⟩ := info_parts patInfo
  obtain ⟨A0, k0, e0, -⟩ := id hp
  refine wpList_append_lies (P := Tryz.prog) (w := W.alloc (.cells #[.int .i64 p.a, .int .i64 p.b, .int .i64 p.c, pv] 24)) hgd s x 85 ho B 24 i0 (.agg #[.int .i64 0, .int .i64 0, .int .i64 0, .slice none 0 0]) 4 48 Tryz.underlying85 hi hz0 hz1 hz2 rfl (by decide) v L.length _ hs (World.ownsRow.alloc hown.1 _) ⟨W.heap.size, 0, none⟩ 1 1 [.int .i64 p.a, .int .i64 p.b, .int .i64 p.c, pv] hx rfl
    (by intro j u hu; match j, hu with | 0, hu => simp at hu; subst hu; simp [Addr.add] | 1, hu => simp at hu; subst hu; simp [Addr.add] | 2, hu => simp at hu; subst hu; simp [Addr.add] | 3, hu => simp at hu; subst hu; simp [Addr.add]) (by intro u hu; simp at hu; rcases hu with rfl | rfl | rfl | rfl <;> first | rfl | (rw [e0]; rfl)) (by omega) (by unfold maxLen; omega) (by omega) (by simp; omega) (W.heap.size + 1) (by simp) ?_
  intro g cap w' h1 h2 h3 h4
  have hg : W.grownBy w' v.ownBlock := ⟨h2.os, h2.tape, h2.output, by have := h2.size; simp at this; omega, fun k hk hne => (h2.block k (by simp; omega) hne).trans (heap_alloc_old W _ hk)⟩
  have hb' : (Value.slice (some ⟨g, 0, none⟩) (L.length + 1) cap).ownBlock = v.ownBlock ∨ (Value.slice (some ⟨g, 0, none⟩) (L.length + 1) cap).ownBlock = some (W.heap.size + 1) := by
    rcases h3 with h3 | h3
    · exact .inl h3.symm
    · subst h3; exact .inr rfl
  refine h _ w' ⟨?_, fun q hq => ?_⟩ hg hb'
  · rw [List.length_append, List.flatMap_append]
    exact h1
  · rcases List.mem_append.1 hq with hq | hq
    · refine (hown.2 q hq).kept hg.size (fun b hb hlt => hg.block b hlt (fun e => hb.2 e.symm)) (fun b hb hlt => ⟨hb.1, fun e => ?_⟩)
      rcases hb' with hb' | hb'
      · exact hb.2 (hb' ▸ e)
      · rw [hb'] at e; cases e; omega
    · obtain rfl := List.mem_singleton.1 hq
      refine hp.kept hg.size (fun b hb hlt => hg.block b hlt (fun e => by have := hv b e.symm; omega)) (fun b hb hlt => ⟨by omega, fun e => ?_⟩)
      rcases hb' with hb' | hb'
      · have := hv b (hb' ▸ e); omega
      · rw [hb'] at e; cases e; omega
end Go.Proofs.YtlinldbbhdpgcaaGreatDoor
/-
  EXPRESSIONS IN MEMORY, BY THEIR PARTS.
-/
namespace Go.Proofs.YtlinldbbhdpgcaaGreatDoor
open Go.RowKit
/-- The slice value pv holds the expressions es. -/
def RdP (w : World) (es : List ExprD) (Ap : Option Addr) : Prop := 0 < es.length → ∃ b o, Ap = some ⟨b, o, none⟩ ∧ b < w.heap.size ∧ ∀ k (h : k < es.length), ∃ s nv dv pv, RdE w (fun _ => True) es[k] (.agg #[.string s, nv, dv, pv]) ∧
  w.cell? ⟨b, o + k * 4, none⟩ = some (.string s) ∧ w.cell? ⟨b, o + k * 4 + 1, none⟩ = some nv ∧ w.cell? ⟨b, o + k * 4 + 2, none⟩ = some dv ∧ w.cell? ⟨b, o + k * 4 + 3, none⟩ = some pv
theorem rdv_at {w : World} {N : Nat → Prop} {pv : Value} {vs : List Value} (h : RdV w N pv vs) (hv : ∀ v ∈ vs, v.cells.toList.length = 4) : ∃ b o c, pv = .slice (some ⟨b, o, none⟩) vs.length c ∧ b < w.heap.size ∧ ∀ k (hk : k < vs.length) j, j < 4 → w.cell? ⟨b, o + k * 4 + j, none⟩ = vs[k].cells.toList[j]? := by
  obtain ⟨b, o, c, h1, h2, -, h4⟩ := h
  refine ⟨b, o, c, h1, h2, fun k hk j hj => ?_⟩
  have hl : (vs.flatMap fun v => v.cells.toList).length = vs.length * 4 := flat_len4 (fun v : Value => v.cells.toList) 4 vs hv
  have hlt : k * 4 + j < (vs.flatMap fun v => v.cells.toList).length := by omega
  rw [← flat_get (fun v : Value => v.cells.toList) 4 vs hv k j hk hj, Nat.add_assoc, h4 _ hlt, List.getD, List.getElem?_eq_getElem hlt]
  rfl
def partsE : ExprD → List ExprD
  | .leaf _ _ _ => []
  | .one _ _ _ e => [e]
  | .two _ _ _ e1 e2 => [e1, e2]
theorem rdE_parts {w : World} : ∀ (x : ExprD) (v : Value), RdE w (fun _ => True) x v → ∃ s n d nv dv A c, x = mkE s n d (partsE x) ∧ v = .agg #[.string s, nv, dv, .slice A (partsE x).length c] ∧ RdL w (fun _ => True) nv n ∧ RdL w (fun _ => True) dv d ∧ RdP w (partsE x) A
  | .leaf s n d, v, h => by
    obtain ⟨nv, dv, h1, h2, h3⟩ := h
    exact ⟨s, n, d, nv, dv, none, 0, rfl, h1, h2, h3, fun h => by simp [partsE] at h⟩
  | .one s n d e, v, h => by
    obtain ⟨nv, dv, pv, v1, h1, h2, h3, h4, h5⟩ := h
    obtain ⟨s1, nv1, dv1, pv1, rfl, -⟩ := RdE.agg _ _ h5
    obtain ⟨b, o, c, rfl, hb, hc⟩ := rdv_at h4 (by intro v hv; rw [List.mem_singleton.1 hv]; rfl)
    refine ⟨s, n, d, nv, dv, _, c, rfl, h1, h2, h3, fun _ => ⟨b, o, rfl, hb, fun k hk => ?_⟩⟩
    have hk1 : k < 1 := hk
    obtain rfl : k = 0 := by omega
    exact ⟨s1, nv1, dv1, pv1, h5, hc 0 hk1 0 (by omega), hc 0 hk1 1 (by omega), hc 0 hk1 2 (by omega), hc 0 hk1 3 (by omega)⟩
  | .two s n d e1 e2, v, h => by
    obtain ⟨nv, dv, pv, v1, v2, h1, h2, h3, h4, h5, h6⟩ := h
    obtain ⟨s1, nv1, dv1, pv1, rfl, -⟩ := RdE.agg _ _ h5
    obtain ⟨s2, nv2, dv2, pv2, rfl, -⟩ := RdE.agg _ _ h6
    obtain ⟨b, o, c, rfl, hb, hc⟩ := rdv_at h4 (fun v hv => by
      rcases List.mem_cons.1 hv with rfl | hv
      · rfl
      · rw [List.mem_singleton.1 hv]; rfl)
    refine ⟨s, n, d, nv, dv, _, c, rfl, h1, h2, h3, fun _ => ⟨b, o, rfl, hb, fun k hk => ?_⟩⟩
    have hk1 : k < 2 := hk
    match k, hk1 with
    | 0, hk1 => exact ⟨s1, nv1, dv1, pv1, h5, hc 0 hk1 0 (by omega), hc 0 hk1 1 (by omega), hc 0 hk1 2 (by omega), hc 0 hk1 3 (by omega)⟩
    | 1, hk1 => exact ⟨s2, nv2, dv2, pv2, h6, hc 1 hk1 0 (by omega), hc 1 hk1 1 (by omega), hc 1 hk1 2 (by omega), hc 1 hk1 3 (by omega)⟩
theorem RdP.below {w w' : World} {es : List ExprD} {A : Option Addr} (h : RdP w es A) (hb : Below w.heap.size w w') : RdP w' es A := by
  intro hp
  obtain ⟨b, o, rfl, hlt, hc⟩ := h hp
  refine ⟨b, o, rfl, Nat.lt_of_lt_of_le hlt hb.size, fun k hk => ?_⟩
  obtain ⟨s, nv, dv, pv, h1, h2, h3, h4, h5⟩ := hc k hk
  exact ⟨s, nv, dv, pv, RdE.kept hb.size (fun b _ hlt => hb.block b hlt) (fun _ _ _ => trivial) _ _ h1, (hb.cell (p := ⟨b, _, none⟩) hlt).trans h2, (hb.cell (p := ⟨b, _, none⟩) hlt).trans h3, (hb.cell (p := ⟨b, _, none⟩) hlt).trans h4, (hb.cell (p := ⟨b, _, none⟩) hlt).trans h5⟩
/-- While the parts have no error, so far. -/
def NoErr (es : List ExprD) (k : Nat) : Prop := ∀ e ∈ es.take k, (valX e).2 = 0
theorem valX_err {s : ByteArray} {n d : List Int} {es : List ExprD} (hl : es.length ≤ 2) {k : Nat} (hk : k < es.length) (hn : NoErr es k) (he : (valX es[k]).2 ≠ 0) : valX (mkE s n d es) = (zeroP, (valX es[k]).2) := by
  match es, hl, k, hk, he with
  | [e], _, 0, _, he =>
    have he' : ¬ (valX e).2 = 0 := he
    simp only [mkE, valX]; rw [if_neg he']; rfl
  | [e1, e2], _, 0, _, he =>
    have he' : ¬ (valX e1).2 = 0 := he
    simp only [mkE, valX]; rw [if_neg he']; rfl
  | [e1, e2], _, 1, _, he =>
    have he' : ¬ (valX e2).2 = 0 := he
    have h1 : (valX e1).2 = 0 := hn e1 (by simp)
    simp only [mkE, valX]; rw [if_pos h1, if_neg he']; rfl
end Go.Proofs.YtlinldbbhdpgcaaGreatDoor
