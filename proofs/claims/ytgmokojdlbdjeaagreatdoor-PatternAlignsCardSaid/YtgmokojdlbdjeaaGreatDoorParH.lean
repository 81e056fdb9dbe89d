/-
  THE PROGRAM's PARSER: expr.
-/
import Derived.Test.YtgmokojdlbdjeaaGreatDoorParG
namespace Go.Proofs.YtgmokojdlbdjeaaGreatDoor
open Go.RowKit
attribute [local go_sem] subp_cell
attribute [local irreducible] RP.plainUpon RP.stepC
/-- What reading an expression gives. -/
def OutE (B : Nat) (w : World) (pb : Nat) (o : Option (ExprD × List ByteArray)) (e : Ending) (w' : World) : Prop := (match o with
  | some (x, r) => ∃ v, e = .returned v ∧ RdE w' (fun b => w.heap.size ≤ b) x v ∧ PS B w' pb r
  | none => e = .panicked MalP) ∧ w.grownBy w' (some pb)
/-- The parts that were read. -/
def Prts (w : World) (Bx : Nat) (nv dv : Value) (n d : List Int) (pv : Value) (ps : List (ExprD × Value)) : Prop := (RdL w (fun b => Bx ≤ b ∧ pv.ownBlock ≠ some b) nv n ∧ RdL w (fun b => Bx ≤ b ∧ pv.ownBlock ≠ some b) dv d) ∧ (ps = [] → pv = nilS) ∧ w.ownsRow Bx 78 4 pv ps.length (ps.flatMap fun p => p.2.cells.toList) ∧ ∀ p ∈ ps, RdE w (fun b => Bx ≤ b ∧ pv.ownBlock ≠ some b) p.1 p.2
def closeO (x : ExprD) : List ByteArray → Option (ExprD × List ByteArray)
  | [] => none
  | t2 :: r4 => if t2 = txt [41] then some (x, r4) else none
/-- What the switch leaves. -/
structure SwW (B pb : Nat) (w wx : World) (rb xb : Nat) (s : ByteArray) (r : List ByteArray) (nv dv : Value) (n d : List Int) (c : Nat) (r' : List ByteArray) : Prop where
  ew : EW B pb w wx rb xb s nv dv nilS r'
  hn : OwnI wx (xb + 1) nv n
  hd : OwnI wx (xb + 1) dv d
  o : headO s r = some ((n, d, c), r')
theorem OwnI.set_away {w : World} {B : Nat} {v : Value} {zs : List Int} (h : OwnI w B v zs) (b i : Nat) (u : Value) (hb : b < B) : OwnI (w.setCell ⟨b, i, none⟩ u) B v zs :=
  OwnI.grown (row := some b) h ⟨rfl, rfl, rfl, by simp [World.setCell], fun q _ hne => Below.heap_setCell w ⟨b, i, none⟩ u q (fun e => hne (by rw [e]))⟩ (by
    rcases hv : v.ownBlock with _ | g
    · exact .inl rfl
    · exact .inr (fun e => by have := h.lt' g hv; cases e; omega))
theorem OwnI.pkept {w w' : World} {B pb : Nat} {v : Value} {zs : List Int} (h : OwnI w B v zs) (hg : w.grownBy w' (some pb)) (hB : pb < B) : OwnI w' B v zs :=
  OwnI.grown h hg (by
    rcases hv : v.ownBlock with _ | g
    · exact .inl rfl
    · exact .inr (fun e => by have := h.lt' g hv; cases e; omega))
theorem Prts.pkept {w w' : World} {Bx pb : Nat} {nv dv : Value} {n d : List Int} {pv : Value} {ps : List (ExprD × Value)} (h : Prts w Bx nv dv n d pv ps) (hg : w.grownBy w' (some pb)) (hB : pb < Bx) : Prts w' Bx nv dv n d pv ps :=
  have hk : ∀ b, (Bx ≤ b ∧ pv.ownBlock ≠ some b) → b < w.heap.size → w'.heap[b]? = w.heap[b]? := fun b hb hlt => hg.block b hlt (fun e => by cases e; omega)
  ⟨⟨h.1.1.kept hg.size hk (fun b hb _ => hb), h.1.2.kept hg.size hk (fun b hb _ => hb)⟩, h.2.1, World.ownsRow.kept h.2.2.1 hg (by
    by_cases hv : pv.ownBlock = some pb
    · exact absurd (World.ownsRow.lt h.2.2.1 _ hv).1 (by omega)
    · exact .inr hv), fun p hp => RdE.kept hg.size hk (fun b hb _ => hb) _ _ (h.2.2.2 p hp)⟩
theorem Prts.push {w6 w7 : World} {Bx lo : Nat} {nv dv : Value} {n d : List Int} {pv v' v : Value} {ps : List (ExprD × Value)} {x : ExprD} (h : Prts w6 Bx nv dv n d pv ps) (hx : RdE w6 (fun b => lo ≤ b) x v) (hlo : Bx ≤ lo) (hpv : ∀ g, pv.ownBlock = some g → g < lo) (hg : w6.grownBy w7 pv.ownBlock)
    (hv' : v'.ownBlock = pv.ownBlock ∨ v'.ownBlock = some (w6.heap.size + 1)) (hr : w7.ownsRow Bx 78 4 v' (ps.length + 1) ((ps.flatMap fun p => p.2.cells.toList) ++ v.cells.toList)) : Prts w7 Bx nv dv n d v' (ps ++ [(x, v)]) := by
  have hk : ∀ b, (Bx ≤ b ∧ pv.ownBlock ≠ some b) → b < w6.heap.size → w7.heap[b]? = w6.heap[b]? := fun b hb hlt => hg.block b hlt (fun e => hb.2 e.symm)
  have hN : ∀ b, (Bx ≤ b ∧ pv.ownBlock ≠ some b) → b < w6.heap.size → (Bx ≤ b ∧ v'.ownBlock ≠ some b) := fun b hb hlt => ⟨hb.1, fun e => by
    rcases hv' with hv' | hv'
    · exact hb.2 (hv' ▸ e)
    · rw [hv'] at e; cases e; omega⟩
  refine ⟨⟨h.1.1.kept hg.size hk hN, h.1.2.kept hg.size hk hN⟩, fun e => by simp at e, ?_, fun p hp => ?_⟩
  · rw [List.length_append, List.flatMap_append]
    simpa using hr
  · rcases List.mem_append.1 hp with hp | hp
    · exact RdE.kept hg.size hk hN _ _ (h.2.2.2 p hp)
    · obtain rfl := List.mem_singleton.1 hp
      refine RdE.kept hg.size (fun b hb hlt => hg.block b hlt (fun e => by have := hpv b e.symm; omega)) (fun b hb hlt => ⟨by omega, fun e => ?_⟩) _ _ hx
      rcases hv' with hv' | hv'
      · have := hpv b (hv' ▸ e); omega
      · rw [hv'] at e; cases e; omega
theorem Prts.one {w : World} {Bx : Nat} {nv dv : Value} {n d : List Int} {pv : Value} {ps : List (ExprD × Value)} (h : Prts w Bx nv dv n d pv ps) : ∃ A1 l1 c1 A2 l2 c2 A3 l3 c3, nv = .slice A1 l1 c1 ∧ dv = .slice A2 l2 c2 ∧ pv = .slice A3 l3 c3 := by
  obtain ⟨⟨⟨A1, c1, rfl, -⟩, ⟨A2, c2, rfl, -⟩⟩, h1, h2, h3⟩ := h
  cases ps with
  | nil => exact ⟨_, _, _, _, _, _, _, _, _, rfl, rfl, h1 rfl⟩
  | cons p ps => obtain ⟨g, c, rfl⟩ := own_some h2 (by simp); exact ⟨_, _, _, _, _, _, _, _, _, rfl, rfl, rfl⟩
theorem Prts.rdv {w : World} {Bx : Nat} {nv dv : Value} {n d : List Int} {pv : Value} {ps : List (ExprD × Value)} (h : Prts w Bx nv dv n d pv ps) (hp : 0 < ps.length) : RdV w (fun b => Bx ≤ b) pv (ps.map Prod.snd) := by
  obtain ⟨-, -, h2, -⟩ := h
  obtain ⟨g, c, rfl⟩ := own_some h2 hp
  obtain ⟨hr, -, hB⟩ := Row.of_own h2
  refine ⟨g, 0, c, by rw [List.length_map], hr.lt, hB, fun i hi => ?_⟩
  have e : ((ps.map Prod.snd).flatMap fun v => v.cells.toList) = ps.flatMap fun p => p.2.cells.toList := by
    rw [List.flatMap_map]
  rw [e] at hi ⊢
  rw [Nat.zero_add, hr.get i hi, List.getD, List.getElem?_eq_getElem hi]
  rfl
theorem Prts.rd {w w' : World} {lo : Nat} {nv dv : Value} {n d : List Int} {pv : Value} {ps : List (ExprD × Value)} {s : ByteArray} {xb : Nat} (h : Prts w (xb + 1) nv dv n d pv ps) (hl : ps.length ≤ 2) (hB : lo < xb) (hk : ∀ b, lo < b → b < w.heap.size → w'.heap[b]? = w.heap[b]?) (hs : w.heap.size ≤ w'.heap.size) : RdE w' (fun b => lo ≤ b) (mkE s n d (ps.map Prod.fst)) (.agg #[.string s, nv, dv, pv]) := by
  have hv := fun hp => h.rdv hp
  obtain ⟨⟨h1, h2⟩, h3, -, h5⟩ := h
  have k1 : ∀ b, (xb + 1 ≤ b ∧ pv.ownBlock ≠ some b) → b < w.heap.size → w'.heap[b]? = w.heap[b]? := fun b hb hlt => hk b (by omega) hlt
  have k2 : ∀ b, (xb + 1 ≤ b ∧ pv.ownBlock ≠ some b) → b < w.heap.size → lo ≤ b := fun b hb _ => by omega
  have k3 : ∀ b, xb + 1 ≤ b → b < w.heap.size → w'.heap[b]? = w.heap[b]? := fun b hb hlt => hk b (by omega) hlt
  match ps, hl with
  | [], _ => exact ⟨nv, dv, by rw [h3 rfl]; rfl, h1.kept hs k1 k2, h2.kept hs k1 k2⟩
  | [p], _ => exact ⟨nv, dv, pv, p.2, rfl, h1.kept hs k1 k2, h2.kept hs k1 k2, (hv (by simp)).kept hs k3 (fun b hb _ => by omega), RdE.kept hs k1 k2 _ _ (h5 p (by simp))⟩
  | [p, q], _ => exact ⟨nv, dv, pv, p.2, q.2, rfl, h1.kept hs k1 k2, h2.kept hs k1 k2, (hv (by simp)).kept hs k3 (fun b hb _ => by omega), RdE.kept hs k1 k2 _ _ (h5 p (by simp)), RdE.kept hs k1 k2 _ _ (h5 q (by simp))⟩
theorem EW.low {B pb : Nat} {w wr w1 : World} {rb xb : Nat} {s : ByteArray} {nv dv pv : Value} {ws : List ByteArray} (h : EW B pb w wr rb xb s nv dv pv ws) (hb : Below (xb + 1) wr w1) : EW B pb w w1 rb xb s nv dv pv ws :=
  have hpB := h.pB
  have h1 := h.wr'
  have h2 := h.rx
  ⟨(hb.block rb (by omega)).trans h.r, (hb.block xb (by omega)).trans h.x, h.ps.other (hb.mono (by omega)), h.pw.below hb (by omega), h.m, grown_low h.g (hb.mono (by omega)), h.wr', h.rx, h.pB⟩
theorem headO_count {s : ByteArray} {r r' : List ByteArray} {n d : List Int} {c : Nat} (h : headO s r = some ((n, d, c), r')) : c ≤ 2 := by
  unfold headO at h
  repeat' split at h
  all_goals first
  | (cases h; done)
  | (cases h; omega)
  | (rw [Option.bind_eq_some_iff] at h
     obtain ⟨p, -, h⟩ := h
     rw [Option.map_eq_some_iff] at h
     obtain ⟨q, -, h⟩ := h
     cases h; omega)
  | (rw [Option.map_eq_some_iff] at h
     obtain ⟨q, -, h⟩ := h
     cases h; omega)
set_option maxRecDepth 100000 in
set_option maxHeartbeats 4000000 in
theorem expr_any : ∀ (k : Nat), k ≤ 100 → ∀ (B pb : Nat) (ws : List ByteArray) (_ : Mod ws) (w : World) (_ : PS B w pb ws) (_ : PW pb w),
    Calls Tryz.prog 106 #[.pointer (some ⟨pb, 0, none⟩), .int .i64 (k : Int)] w (OutE B w pb (exprO k ws)) := by
  intro k
  induction k with
  | zero =>
    intro _ B pb ws hm w h hw
    exact (expr_zero pb w).mono fun e w' ⟨h1, h2⟩ => ⟨h1, grown_of h2 _⟩
  | succ k ih =>
  intro hk B pb ws hm w h hw
  have hpb := h.lt
  have hok := demand_ok
  have hno := demand_no
  have IH := Lib.hid (ih (by omega))
  clear ih
  have dk : decide (0 < ((k + 1 : Nat) : Int)) = true := decide_eq_true (by omega)
  have hW0 : EBox (w.alloc (.cells #[.string ⟨#[]⟩, .slice none 0 0, .slice none 0 0, .slice none 0 0] 78)) w.heap.size ⟨#[]⟩ nilS nilS nilS ∧ Below w.heap.size w (w.alloc (.cells #[.string ⟨#[]⟩, .slice none 0 0, .slice none 0 0, .slice none 0 0] 78)) := ⟨EBox.new w _ _ _ _, (by repeat' (first | (with_reducible exact Below.refl _ _) | (with_reducible assumption) | (with_reducible refine below_drewN ?_ _) | (with_reducible refine below_step (by assumption) ?_ ?_) | (with_reducible refine Below.alloc ?_ ?_ _) | (with_reducible refine Below.setCell ?_ ?_ _) | (with_reducible refine Below.drew ?_) | go_size | (exact Below.size (by assumption)) | (refine Nat.le_trans (Below.size (by assumption)) ?_)))⟩
  have H0 := Lib.hid hW0
  obtain ⟨O, hO⟩ : ∃ O, O = exprO (k + 1) ws := ⟨_, rfl⟩
  rw [← hO]
  obtain ⟨kk, hkk⟩ : ∃ kk : Int, kk = ((k + 1 : Nat) : Int) := ⟨_, rfl⟩
  rw [← hkk] at dk ⊢
  have HKK := Lib.hid hkk
  have HM := Lib.hid hm
  have HPW := Lib.hid hw
  have HPS := Lib.hid h
  have HO := Lib.hid hO
  clear hm h hw hO hW0 hkk
  go_enter Tryz.func106, Tryz.ntmps106
  go_wp2_with (go_at_call 120; refine (hok _).mono ?_; rintro e w' ⟨rfl, rfl⟩)
  obtain ⟨W, hW⟩ : ∃ W, W = w.alloc (.cells #[.string ⟨#[]⟩, .slice none 0 0, .slice none 0 0, .slice none 0 0] 78) := ⟨_, rfl⟩
  rw [← hW] at H0 ⊢
  have hPS1 := HPS.out.other (H0.out.2.mono (show B ≤ w.heap.size by omega))
  have hPW1 := HPW.out.below (H0.out.2.mono (show B ≤ w.heap.size by omega)) (by omega)
  cases ws with
  | nil =>
    have HO2 := Lib.hid (show O = none from HO.out)
    clear hok hno hW
    refine (next_no B pb W hPS1).mono ?_
    rintro e w1 ⟨rfl, rfl⟩
    exact ⟨rfl, by rw [HO2.out], grown_of (H0.out.2.mono (by omega)) _⟩
  | cons s r =>
    refine (next_ok B pb s r W (by have := HM.out.1; simp at this; omega) hPS1).mono ?_
    rintro e w1 ⟨rfl, q1, q2⟩
    have HO2 := Lib.hid (show O = (headO s r).bind fun p => (partsO (exprO k) p.1.2.2 p.2).map fun q => (mkE s p.1.1 p.1.2.1 q.1, q.2) from HO.out)
    have G1 := Lib.hid (And.intro q1 (And.intro (hPW1.grown q2) (And.intro (grown_then (grown_of (H0.out.2.mono (show w.heap.size ≤ w.heap.size by omega)) (some pb)) q2) (And.intro (H0.out.1.keepG q2 (by omega)) q2.size))))
    clear hPS1 hPW1 q1 q2 H0 hW HO
    go_upto_block 0 with fail
    obtain ⟨W2, hW2⟩ : ∃ W2, W2 = w1.alloc (.cells #[.string s, .slice none 0 0, .slice none 0 0, .slice none 0 0] 78) := ⟨_, rfl⟩
    rw [← hW2]
    have hb2 : Below w1.heap.size w1 W2 := by rw [hW2]; exact (Below.refl _ _).alloc (Nat.le_refl _) _
    have hx2 : EBox W2 w1.heap.size s nilS nilS nilS := by rw [hW2]; exact EBox.new w1 _ _ _ _
    obtain ⟨xb, hxb⟩ : ∃ xb, xb = w1.heap.size := ⟨_, rfl⟩
    rw [← hxb] at hx2 ⊢
    have hW2x : xb + 1 ≤ W2.heap.size := by rw [hW2, hxb]; simp
    have hrx : w.heap.size < xb := by rw [hxb]; exact (Array.getElem?_eq_some_iff.1 G1.out.2.2.2.1).1
    have EW2 := Lib.hid (show EW B pb w W2 w.heap.size xb s nilS nilS nilS r from
      ⟨G1.out.2.2.2.1.keepG (pb := pb) (grown_of hb2 _) (by omega), hx2, G1.out.1.other (hb2.mono G1.out.1.lt.2), G1.out.2.1.grown (grown_of hb2 _), HM.out.tail, grown_then G1.out.2.2.1 (grown_of hb2 _), Nat.le_refl _, hrx, hpb⟩)
    clear hW2 hb2 hx2 hxb G1 HM HPW HPS
    obtain ⟨q0, q1, q2, q3, q4⟩ := EW2.out.x.cells
    have f1 := EW2.out.x.frozen 1
    have f2 := EW2.out.x.frozen 2
    have f3 := EW2.out.x.frozen 3
    go_cut [6] (fun t wx => ∃ (nv dv : Value) (n d : List Int) (c : Nat) (r' : List ByteArray), t = .int .i64 c ∧ Hid (SwW B pb w wx w.heap.size xb s r nv dv n d c r'))
    case first =>
      by_cases e1 : s = txt [103, 114, 105, 100]
      · have t1 := word_yes e1
        have E1 := Lib.hid e1
        clear e1
        have hnum := numbers_any B pb 3 (by omega) r EW2.out.m W2 EW2.out.ps EW2.out.pw
        cases hN : numsO 3 r with
        | none =>
          rw [hN] at hnum
          have HOX := Lib.hid (show O = none by rw [HO2.out, headO_grid E1.out, hN]; rfl)
          have HNU := Lib.hid hnum
          clear hN hnum HO2 hok hno
          go_wp2_with fail
          refine HNU.out.mono ?_
          rintro e w3 ⟨rfl, hg3⟩
          exact ⟨rfl, by rw [HOX.out], grown_then EW2.out.g hg3⟩
        | some p =>
          obtain ⟨n, r2⟩ := p
          rw [hN] at hnum
          obtain ⟨hm2, hn2⟩ := numsO_mod _ _ _ _ hN EW2.out.m
          have HNU := Lib.hid hnum
          have HN := Lib.hid (And.intro hN (And.intro hm2 hn2))
          clear hN hnum hm2 hn2
          go_wp2_with fail
          refine HNU.out.mono ?_
          rintro e w3 ⟨⟨nv, rfl, ho3, hp3⟩, hg3⟩
          obtain ⟨A3, c3, hv3, hL3⟩ := ho3.isL
          obtain ⟨ln, hln⟩ : ∃ ln, ln = n.length := ⟨_, rfl⟩
          rw [← hln] at hv3 hL3
          subst hv3
          obtain ⟨nv, hnv⟩ : ∃ nv, nv = Value.slice A3 ln c3 := ⟨_, rfl⟩
          have HNV := Lib.hid (And.intro hnv (And.intro hln hL3))
          rw [← hnv] at ho3
          have EW3 := Lib.hid (And.intro (EW2.out.step hg3 hp3 HN.out.2.1) (ho3.down hW2x))
          clear ho3 hp3 hg3 HNU hL3 hln q0 q1 q2 q3 q4 f1 f2 f3
          obtain ⟨q0, q1, q2, q3, q4⟩ := EW3.out.1.x.cells
          have f1 := EW3.out.1.x.frozen 1
          have EW4 := Lib.hid (And.intro (EW3.out.1.set 1 nv (EW3.out.1.x.set1 nv)) (OwnI.set_away EW3.out.2 xb 1 nv (by omega)))
          rw [hnv] at EW4
          clear EW3 hnv
          go_upto_region 14 with fail
          obtain ⟨W4, hW4⟩ : ∃ W4, W4 = w3.setCell ⟨xb, 1, none⟩ (.slice A3 ln c3) := ⟨_, rfl⟩
          rw [← hW4] at EW4 ⊢
          clear hW4
          obtain ⟨n0, n1, n2, rfl⟩ := three_of HN.out.2.2
          have hln : ln = 3 := HNV.out.2.1
          obtain ⟨bn, on, rfl, hbn, hcn⟩ := EW4.out.2.isL3 hln
          have y0 := hcn 0 (by omega)
          have y1 := hcn 2 (by omega)
          simp only [List.getD_cons_zero, List.getD_cons_succ, Nat.add_zero] at y0 y1
          clear q0 q1 q2 q3 q4 f1
          obtain ⟨q0, q1, q2, q3, q4⟩ := EW4.out.1.x.cells
          have q6 : bn ≠ pb := by have := EW4.out.1.pB; have := EW4.out.1.wr'; have := EW4.out.1.rx; omega
          have q7 : xb ≠ pb := by have := EW4.out.1.pB; have := EW4.out.1.wr'; have := EW4.out.1.rx; omega
          subst hln
          refine RP.region_treeP (C := fun w' => ∃ x : SubP pb W4.heap.size W4, w' = x.val) (fun ch ds wz => ch = MalP ∧ ds = [] ∧ OutE B w pb O (.panicked MalP) wz) [0, 1, 2, 3, 4, 5, 6, 7, 8] (OT.seq [9, 10]) 11 (fun ch a wz h => by obtain ⟨rfl, h1, h2⟩ := h; exact ⟨h1, h2⟩) (by kernel_rfl) (by kernel_rfl) (subp_start pb _ W4) ?_
          simp only [pickL, List.getElem?_cons_zero, List.getElem?_cons_succ]
          repeat (go_big_quiet_step (fail))
          refine wpQuiet_nil ?_
          obtain ⟨w5, hw5⟩ : ∃ w5 : World, w5 = { W4 with drawn := W4.drawn + 1 } := ⟨_, rfl⟩
          have hb5 : Below W4.heap.size W4 w5 := by rw [hw5]; exact (Below.refl _ _).drew
          rw [← hw5]
          have EW5 := EW4.out.1.keep hb5
          have OW5 := OwnI.keep hb5 EW4.out.2
          clear q0 q1 q2 q3 q4 q6 q7 y0 y1 hw5
          simp only [RP.treeS, OT.seq, atOp, List.getElem?_cons_zero, List.getElem?_cons_succ]
          refine ⟨subp_of (grown_of hb5 _), ?_⟩
          refine RP.p_call 123 #[.pointer (some ⟨pb, 0, none⟩), .int .i64 n0, .int .i64 n2] rfl (by go_simp) ?_
          refine (rows_any B pb n0 n2 r2 HN.out.2.1 w5 EW5.ps EW5.pw).mono ?_
          rintro e w6 ⟨hres, hg6⟩
          have hgt : w.grownBy w6 (some pb) := grown_then EW5.g hg6
          cases hR : rowsO n0 n2 r2 with
          | none =>
            rw [hR] at hres
            have HOX : O = none := by
              rw [HO2.out, headO_grid E1.out, HN.out.1]
              simp [hR]
            exact .inr ⟨MalP, hres, rfl, rfl, by rw [HOX], hgt⟩
          | some q =>
            obtain ⟨d, r3⟩ := q
            rw [hR] at hres
            obtain ⟨v, rfl, ho6, hp6⟩ := hres
            have hm3 := rowsO_mod hR HN.out.2.1
            refine .inl ⟨v, rfl, ?_⟩
            have hgc : W4.grownBy w6 (some pb) := grown_then (grown_of hb5 _) hg6
            refine ⟨subp_of hgc, ?_⟩
            refine RP.p_val (.pointer (some ⟨xb, 2, none⟩)) w6 rfl (by go_simp) ?_
            refine ⟨subp_of hgc, ?_⟩
            have EW6 := EW5.step hg6 hp6 hm3
            have OW6 := OwnI.grown OW5 hg6 (by
              rcases hv : (Value.slice (some ⟨bn, on, none⟩) 3 c3).ownBlock with _ | g
              · exact .inl rfl
              · exact .inr (fun e => by have := OW5.lt' g hv; have := EW5.pB; have := EW5.wr'; have := EW5.rx; cases e; omega))
            obtain ⟨A6, c6, hv6, hL6⟩ := ho6.isL
            obtain ⟨l6, hl6⟩ : ∃ l6, l6 = d.length := ⟨_, rfl⟩
            rw [← hl6] at hv6
            subst hv6
            obtain ⟨x0, x1, x2, x3, x4⟩ := EW6.x.cells
            have g2 := EW6.x.frozen 2
            have od6 : OwnI w6 (xb + 1) (.slice A6 l6 c6) d := ho6.down (by have := (Array.getElem?_eq_some_iff.1 EW5.x).1; omega)
            have HF := Lib.hid (show SwW B pb w (w6.setCell ⟨xb, 2, none⟩ (.slice A6 l6 c6)) w.heap.size xb s r (.slice (some ⟨bn, on, none⟩) 3 c3) (.slice A6 l6 c6) [n0, n1, n2] d 0 r3 from
              ⟨EW6.set 2 _ (EW6.x.set2 _), OwnI.set_away OW6 xb 2 _ (by omega), OwnI.set_away od6 xb 2 _ (by omega), by rw [headO_grid E1.out, HN.out.1]; simp [hR]⟩)
            refine RP.p_skip (w6.setCell ⟨xb, 2, none⟩ (.slice A6 l6 c6)) rfl (by go_simp) ?_
            obtain ⟨w7, hw7⟩ : ∃ w7, w7 = w6.setCell ⟨xb, 2, none⟩ (.slice A6 l6 c6) := ⟨_, rfl⟩
            rw [← hw7] at HF ⊢
            clear hw7 EW6 OW6 OW5 EW5 od6 ho6 hp6 hL6 hR hm3 hgc hgt hg6 hb5 hl6 x0 x1 x2 x3 x4 g2 EW4 HNV HN HO2
            go_simp
            go_wp2_with fail
            go_meet
            exact ⟨_, _, _, _, _, _, rfl, HF⟩
      · have t1 := word_no e1
        by_cases e2 : s = txt [98, 114, 105, 99, 107, 115]
        · have t2 := word_yes e2
          have E2 := Lib.hid e2
          clear e1 e2
          have hnum := numbers_any B pb 3 (by omega) r EW2.out.m W2 EW2.out.ps EW2.out.pw
          cases hN : numsO 3 r with
          | none =>
            rw [hN] at hnum
            have HOX := Lib.hid (show O = none by rw [HO2.out, headO_bricks E2.out, hN]; rfl)
            have HNU := Lib.hid hnum
            clear hN hnum HO2 hok hno
            go_wp2_with fail
            refine HNU.out.mono ?_
            rintro e w3 ⟨rfl, hg3⟩
            exact ⟨rfl, by rw [HOX.out], grown_then EW2.out.g hg3⟩
          | some p =>
            obtain ⟨n, r2⟩ := p
            rw [hN] at hnum
            obtain ⟨hm2, hn2⟩ := numsO_mod _ _ _ _ hN EW2.out.m
            have HNU := Lib.hid hnum
            have HN := Lib.hid (And.intro hN (And.intro hm2 hn2))
            clear hN hnum hm2 hn2
            go_wp2_with fail
            refine HNU.out.mono ?_
            rintro e w3 ⟨⟨nv, rfl, ho3, hp3⟩, hg3⟩
            obtain ⟨A3, c3, hv3, hL3⟩ := ho3.isL
            obtain ⟨ln, hln⟩ : ∃ ln, ln = n.length := ⟨_, rfl⟩
            rw [← hln] at hv3 hL3
            subst hv3
            obtain ⟨nv, hnv⟩ : ∃ nv, nv = Value.slice A3 ln c3 := ⟨_, rfl⟩
            have HNV := Lib.hid (And.intro hnv (And.intro hln hL3))
            rw [← hnv] at ho3
            have EW3 := Lib.hid (And.intro (EW2.out.step hg3 hp3 HN.out.2.1) (ho3.down hW2x))
            clear ho3 hp3 hg3 HNU hL3 hln q0 q1 q2 q3 q4 f1 f2 f3
            obtain ⟨q0, q1, q2, q3, q4⟩ := EW3.out.1.x.cells
            have f1 := EW3.out.1.x.frozen 1
            have EW4 := Lib.hid (And.intro (EW3.out.1.set 1 nv (EW3.out.1.x.set1 nv)) (OwnI.set_away EW3.out.2 xb 1 nv (by omega)))
            rw [hnv] at EW4
            clear EW3 hnv
            go_upto_region 16 with fail
            obtain ⟨W4, hW4⟩ : ∃ W4, W4 = w3.setCell ⟨xb, 1, none⟩ (.slice A3 ln c3) := ⟨_, rfl⟩
            rw [← hW4] at EW4 ⊢
            clear hW4
            obtain ⟨n0, n1, n2, rfl⟩ := three_of HN.out.2.2
            have hln : ln = 3 := HNV.out.2.1
            obtain ⟨bn, on, rfl, hbn, hcn⟩ := EW4.out.2.isL3 hln
            have y0 := hcn 0 (by omega)
            have y1 := hcn 1 (by omega)
            simp only [List.getD_cons_zero, List.getD_cons_succ, Nat.add_zero] at y0 y1
            clear q0 q1 q2 q3 q4 f1
            obtain ⟨q0, q1, q2, q3, q4⟩ := EW4.out.1.x.cells
            have q6 : bn ≠ pb := by have := EW4.out.1.pB; have := EW4.out.1.wr'; have := EW4.out.1.rx; omega
            have q7 : xb ≠ pb := by have := EW4.out.1.pB; have := EW4.out.1.wr'; have := EW4.out.1.rx; omega
            subst hln
            refine RP.region_treeP (C := fun w' => ∃ x : SubP pb W4.heap.size W4, w' = x.val) (fun ch ds wz => ch = MalP ∧ ds = [] ∧ OutE B w pb O (.panicked MalP) wz) [0, 1, 2, 3, 4, 5, 6, 7, 8] (OT.seq [9, 10]) 11 (fun ch a wz h => by obtain ⟨rfl, h1, h2⟩ := h; exact ⟨h1, h2⟩) (by kernel_rfl) (by kernel_rfl) (subp_start pb _ W4) ?_
            simp only [pickL, List.getElem?_cons_zero, List.getElem?_cons_succ]
            repeat (go_big_quiet_step (fail))
            refine wpQuiet_nil ?_
            obtain ⟨w5, hw5⟩ : ∃ w5 : World, w5 = { W4 with drawn := W4.drawn + 1 } := ⟨_, rfl⟩
            have hb5 : Below W4.heap.size W4 w5 := by rw [hw5]; exact (Below.refl _ _).drew
            rw [← hw5]
            have EW5 := EW4.out.1.keep hb5
            have OW5 := OwnI.keep hb5 EW4.out.2
            clear q0 q1 q2 q3 q4 q6 q7 y0 y1 hw5
            simp only [RP.treeS, OT.seq, atOp, List.getElem?_cons_zero, List.getElem?_cons_succ]
            refine ⟨subp_of (grown_of hb5 _), ?_⟩
            refine RP.p_call 123 #[.pointer (some ⟨pb, 0, none⟩), .int .i64 n0, .int .i64 n1] rfl (by go_simp) ?_
            refine (rows_any B pb n0 n1 r2 HN.out.2.1 w5 EW5.ps EW5.pw).mono ?_
            rintro e w6 ⟨hres, hg6⟩
            have hgt : w.grownBy w6 (some pb) := grown_then EW5.g hg6
            cases hR : rowsO n0 n1 r2 with
            | none =>
              rw [hR] at hres
              have HOX : O = none := by
                rw [HO2.out, headO_bricks E2.out, HN.out.1]
                simp [hR]
              exact .inr ⟨MalP, hres, rfl, rfl, by rw [HOX], hgt⟩
            | some q =>
              obtain ⟨d, r3⟩ := q
              rw [hR] at hres
              obtain ⟨v, rfl, ho6, hp6⟩ := hres
              have hm3 := rowsO_mod hR HN.out.2.1
              refine .inl ⟨v, rfl, ?_⟩
              have hgc : W4.grownBy w6 (some pb) := grown_then (grown_of hb5 _) hg6
              refine ⟨subp_of hgc, ?_⟩
              refine RP.p_val (.pointer (some ⟨xb, 2, none⟩)) w6 rfl (by go_simp) ?_
              refine ⟨subp_of hgc, ?_⟩
              have EW6 := EW5.step hg6 hp6 hm3
              have OW6 := OwnI.grown OW5 hg6 (by
                rcases hv : (Value.slice (some ⟨bn, on, none⟩) 3 c3).ownBlock with _ | g
                · exact .inl rfl
                · exact .inr (fun e => by have := OW5.lt' g hv; have := EW5.pB; have := EW5.wr'; have := EW5.rx; cases e; omega))
              obtain ⟨A6, c6, hv6, hL6⟩ := ho6.isL
              obtain ⟨l6, hl6⟩ : ∃ l6, l6 = d.length := ⟨_, rfl⟩
              rw [← hl6] at hv6
              subst hv6
              obtain ⟨x0, x1, x2, x3, x4⟩ := EW6.x.cells
              have g2 := EW6.x.frozen 2
              have od6 : OwnI w6 (xb + 1) (.slice A6 l6 c6) d := ho6.down (by have := (Array.getElem?_eq_some_iff.1 EW5.x).1; omega)
              have HF := Lib.hid (show SwW B pb w (w6.setCell ⟨xb, 2, none⟩ (.slice A6 l6 c6)) w.heap.size xb s r (.slice (some ⟨bn, on, none⟩) 3 c3) (.slice A6 l6 c6) [n0, n1, n2] d 0 r3 from
                ⟨EW6.set 2 _ (EW6.x.set2 _), OwnI.set_away OW6 xb 2 _ (by omega), OwnI.set_away od6 xb 2 _ (by omega), by rw [headO_bricks E2.out, HN.out.1]; simp [hR]⟩)
              refine RP.p_skip (w6.setCell ⟨xb, 2, none⟩ (.slice A6 l6 c6)) rfl (by go_simp) ?_
              obtain ⟨w7, hw7⟩ : ∃ w7, w7 = w6.setCell ⟨xb, 2, none⟩ (.slice A6 l6 c6) := ⟨_, rfl⟩
              rw [← hw7] at HF ⊢
              clear hw7 EW6 OW6 OW5 EW5 od6 ho6 hp6 hL6 hR hm3 hgc hgt hg6 hb5 hl6 x0 x1 x2 x3 x4 g2 EW4 HNV HN HO2
              go_simp
              go_wp2_with fail
              go_meet
              exact ⟨_, _, _, _, _, _, rfl, HF⟩
        · have t2 := word_no e2
          by_cases e3 : s = txt [115, 104, 105, 102, 116]
          · have t3 := word_yes e3
            have E3 := Lib.hid e3
            clear e1 e2 e3
            have hnum := numbers_any B pb 2 (by omega) r EW2.out.m W2 EW2.out.ps EW2.out.pw
            cases hN : numsO 2 r with
            | none =>
              rw [hN] at hnum
              have HOX := Lib.hid (show O = none by rw [HO2.out, headO_shift E3.out, hN]; rfl)
              have HNU := Lib.hid hnum
              clear hN hnum HO2 hok hno
              go_wp2_with fail
              refine HNU.out.mono ?_
              rintro e w3 ⟨rfl, hg3⟩
              exact ⟨rfl, by rw [HOX.out], grown_then EW2.out.g hg3⟩
            | some p =>
              obtain ⟨n, r2⟩ := p
              rw [hN] at hnum
              obtain ⟨hm2, hn2⟩ := numsO_mod _ _ _ _ hN EW2.out.m
              have HNU := Lib.hid hnum
              have HN := Lib.hid (And.intro hN (And.intro hm2 hn2))
              clear hN hnum hm2 hn2
              go_wp2_with fail
              refine HNU.out.mono ?_
              rintro e w3 ⟨⟨nv, rfl, ho3, hp3⟩, hg3⟩
              obtain ⟨A3, c3, hv3, hL3⟩ := ho3.isL
              obtain ⟨ln, hln⟩ : ∃ ln, ln = n.length := ⟨_, rfl⟩
              rw [← hln] at hv3 hL3
              subst hv3
              obtain ⟨nv, hnv⟩ : ∃ nv, nv = Value.slice A3 ln c3 := ⟨_, rfl⟩
              have HNV := Lib.hid (And.intro hnv (And.intro hln hL3))
              rw [← hnv] at ho3
              have EW3 := Lib.hid (And.intro (EW2.out.step hg3 hp3 HN.out.2.1) (ho3.down hW2x))
              clear ho3 hp3 hg3 HNU hL3 hln q0 q1 q2 q3 q4 f1 f2 f3
              obtain ⟨q0, q1, q2, q3, q4⟩ := EW3.out.1.x.cells
              have f1 := EW3.out.1.x.frozen 1
              have EW4 := Lib.hid (And.intro (EW3.out.1.set 1 nv (EW3.out.1.x.set1 nv)) (OwnI.set_away EW3.out.2 xb 1 nv (by omega)))
              rw [hnv] at EW4
              clear EW3 hnv
              have HF := Lib.hid (show SwW B pb w (w3.setCell ⟨xb, 1, none⟩ (.slice A3 ln c3)) w.heap.size xb s r (.slice A3 ln c3) nilS n [] 1 r2 from
                ⟨EW4.out.1, EW4.out.2, OwnI.nil _ _, by rw [headO_shift E3.out, HN.out.1]; rfl⟩)
              obtain ⟨w7, hw7⟩ : ∃ w7, w7 = w3.setCell ⟨xb, 1, none⟩ (.slice A3 ln c3) := ⟨_, rfl⟩
              rw [← hw7] at HF
              clear EW4 HN HNV HO2
              go_wp2_with fail
              go_meet
              exact ⟨_, _, _, _, _, _, rfl, by rw [← hw7]; exact HF⟩
          · have t3 := word_no e3
            by_cases e4 : s = txt [115, 119, 101, 108, 108]
            · have t4 := word_yes e4
              have E4 := Lib.hid e4
              clear e1 e2 e3 e4
              have hnum := numbers_any B pb 1 (by omega) r EW2.out.m W2 EW2.out.ps EW2.out.pw
              cases hN : numsO 1 r with
              | none =>
                rw [hN] at hnum
                have HOX := Lib.hid (show O = none by rw [HO2.out, headO_swell E4.out, hN]; rfl)
                have HNU := Lib.hid hnum
                clear hN hnum HO2 hok hno
                go_wp2_with fail
                refine HNU.out.mono ?_
                rintro e w3 ⟨rfl, hg3⟩
                exact ⟨rfl, by rw [HOX.out], grown_then EW2.out.g hg3⟩
              | some p =>
                obtain ⟨n, r2⟩ := p
                rw [hN] at hnum
                obtain ⟨hm2, hn2⟩ := numsO_mod _ _ _ _ hN EW2.out.m
                have HNU := Lib.hid hnum
                have HN := Lib.hid (And.intro hN (And.intro hm2 hn2))
                clear hN hnum hm2 hn2
                go_wp2_with fail
                refine HNU.out.mono ?_
                rintro e w3 ⟨⟨nv, rfl, ho3, hp3⟩, hg3⟩
                obtain ⟨A3, c3, hv3, hL3⟩ := ho3.isL
                obtain ⟨ln, hln⟩ : ∃ ln, ln = n.length := ⟨_, rfl⟩
                rw [← hln] at hv3 hL3
                subst hv3
                obtain ⟨nv, hnv⟩ : ∃ nv, nv = Value.slice A3 ln c3 := ⟨_, rfl⟩
                have HNV := Lib.hid (And.intro hnv (And.intro hln hL3))
                rw [← hnv] at ho3
                have EW3 := Lib.hid (And.intro (EW2.out.step hg3 hp3 HN.out.2.1) (ho3.down hW2x))
                clear ho3 hp3 hg3 HNU hL3 hln q0 q1 q2 q3 q4 f1 f2 f3
                obtain ⟨q0, q1, q2, q3, q4⟩ := EW3.out.1.x.cells
                have f1 := EW3.out.1.x.frozen 1
                have EW4 := Lib.hid (And.intro (EW3.out.1.set 1 nv (EW3.out.1.x.set1 nv)) (OwnI.set_away EW3.out.2 xb 1 nv (by omega)))
                rw [hnv] at EW4
                clear EW3 hnv
                have HF := Lib.hid (show SwW B pb w (w3.setCell ⟨xb, 1, none⟩ (.slice A3 ln c3)) w.heap.size xb s r (.slice A3 ln c3) nilS n [] 1 r2 from
                  ⟨EW4.out.1, EW4.out.2, OwnI.nil _ _, by rw [headO_swell E4.out, HN.out.1]; rfl⟩)
                obtain ⟨w7, hw7⟩ : ∃ w7, w7 = w3.setCell ⟨xb, 1, none⟩ (.slice A3 ln c3) := ⟨_, rfl⟩
                rw [← hw7] at HF
                clear EW4 HN HNV HO2
                go_wp2_with fail
                go_meet
                exact ⟨_, _, _, _, _, _, rfl, by rw [← hw7]; exact HF⟩
            · have t4 := word_no e4
              by_cases e5 : s = txt [116, 117, 114, 110]
              · have t5 := word_yes e5
                have E5 := Lib.hid e5
                clear e1 e2 e3 e4 e5
                have HF := Lib.hid (show SwW B pb w W2 w.heap.size xb s r nilS nilS [] [] 1 r from
                  ⟨EW2.out, OwnI.nil _ _, OwnI.nil _ _, by rw [headO_turn E5.out]⟩)
                clear HO2
                go_wp2_with fail
                go_meet
                exact ⟨_, _, _, _, _, _, rfl, HF⟩
              · have t5 := word_no e5
                by_cases e6 : s = txt [109, 105, 114, 114, 111, 114]
                · have t6 := word_yes e6
                  have E6 := Lib.hid e6
                  clear e1 e2 e3 e4 e5 e6
                  have HF := Lib.hid (show SwW B pb w W2 w.heap.size xb s r nilS nilS [] [] 1 r from
                    ⟨EW2.out, OwnI.nil _ _, OwnI.nil _ _, by rw [headO_mirror E6.out]⟩)
                  clear HO2
                  go_wp2_with fail
                  go_meet
                  exact ⟨_, _, _, _, _, _, rfl, HF⟩
                · have t6 := word_no e6
                  by_cases e7 : s = txt [114, 101, 99, 111, 108, 111, 114]
                  · have t7 := word_yes e7
                    have E7 := Lib.hid e7
                    clear e1 e2 e3 e4 e5 e6 e7
                    cases r with
                    | nil =>
                      have HOX := Lib.hid (show O = none by rw [HO2.out, headO_recolor0 E7.out]; rfl)
                      have hnx := next_no B pb W2 EW2.out.ps
                      clear HO2 hok hno
                      go_wp2_with fail
                      refine hnx.mono ?_
                      rintro e w3 ⟨rfl, rfl⟩
                      exact ⟨rfl, by rw [HOX.out], EW2.out.g⟩
                    | cons t r2 =>
                      have HH := Lib.hid (headO_recolor E7.out (r := r2) t)
                      have HMT := Lib.hid (EW2.out.m.2 t (by simp))
                      have hnx := next_ok B pb t r2 W2 (by have := EW2.out.m.1; simp at this; omega) EW2.out.ps
                      go_wp2_with fail
                      refine hnx.mono ?_
                      rintro e w3 ⟨rfl, hp3, hg3⟩
                      have EW3 := Lib.hid (EW2.out.step hg3 hp3 EW2.out.m.tail)
                      have hsz : xb + 1 ≤ w3.heap.size := Nat.le_trans hW2x hg3.size
                      clear hp3 hg3 hnx q0 q1 q2 q3 q4 f1 f2 f3 EW2
                      obtain ⟨q0, q1, q2, q3, q4⟩ := EW3.out.x.cells
                      have f2 := EW3.out.x.frozen 2
                      by_cases h8 : t.size = 8
                      · have d8 : ((t.size : Int) == 8) = true := by rw [h8]; rfl
                        have H8 := Lib.hid h8
                        clear h8
                        go_wp2_with (go_at_call 120; refine (hok _).mono ?_; rintro e w' ⟨rfl, rfl⟩)
                        refine (digits_any t (by have := HMT.out; omega) w3).mono ?_
                        rintro e w4 ⟨hres, hb4⟩
                        rcases hres with ⟨v, rfl, hd, hv⟩ | ⟨rfl, hd⟩
                        · obtain ⟨A6, c6, hv6, hL6⟩ := hv.isL
                          obtain ⟨l6, hl6⟩ : ∃ l6, l6 = (digL t).length := ⟨_, rfl⟩
                          rw [← hl6] at hv6
                          subst hv6
                          have EW4 := EW3.out.keep hb4
                          clear q0 q1 q2 q3 q4 f2
                          obtain ⟨q0, q1, q2, q3, q4⟩ := EW4.x.cells
                          have f2 := EW4.x.frozen 2
                          have HF := Lib.hid (show SwW B pb w (w4.setCell ⟨xb, 2, none⟩ (.slice A6 l6 c6)) w.heap.size xb s (t :: r2) nilS (.slice A6 l6 c6) [] (digL t) 1 r2 from
                            ⟨EW4.set 2 _ (EW4.x.set2 _), OwnI.nil _ _, OwnI.set_away (hv.down hsz) xb 2 _ (by omega), by rw [HH.out, if_pos ⟨H8.out, hd⟩]⟩)
                          obtain ⟨w7, hw7⟩ : ∃ w7, w7 = w4.setCell ⟨xb, 2, none⟩ (.slice A6 l6 c6) := ⟨_, rfl⟩
                          rw [← hw7] at HF
                          clear EW4 hv hb4 hL6 hl6 hd EW3 HH HO2
                          go_wp2_with fail
                          go_meet
                          exact ⟨_, _, _, _, _, _, rfl, by rw [← hw7]; exact HF⟩
                        · have HOX := Lib.hid (show O = none by rw [HO2.out, HH.out, if_neg (fun h => hd h.2)]; rfl)
                          have HG4 := Lib.hid (grown_then EW3.out.g (grown_of hb4 (some pb)))
                          clear hd hb4 EW3
                          first
                          | exact ⟨rfl, by rw [HOX.out], HG4.out⟩
                          | (go_wp2; exact ⟨rfl, by rw [HOX.out], HG4.out⟩)
                      · have d8 : ((t.size : Int) == 8) = false := by rw [beq_eq_false_iff_ne]; omega
                        have HOX := Lib.hid (show O = none by rw [HO2.out, HH.out, if_neg (fun h => h8 h.1)]; rfl)
                        clear h8 HO2 HH hok
                        go_wp2_with (go_at_call 120; refine (hno _).mono ?_; rintro e w' ⟨rfl, rfl⟩)
                        exact ⟨rfl, by rw [HOX.out], EW3.out.g⟩
                  · have t7 := word_no e7
                    by_cases e8 : s = txt [111, 118, 101, 114]
                    · have t8 := word_yes e8
                      have E8 := Lib.hid e8
                      clear e1 e2 e3 e4 e5 e6 e7 e8
                      have HF := Lib.hid (show SwW B pb w W2 w.heap.size xb s r nilS nilS [] [] 2 r from
                        ⟨EW2.out, OwnI.nil _ _, OwnI.nil _ _, by rw [headO_over E8.out]⟩)
                      clear HO2
                      go_wp2_with fail
                      go_meet
                      exact ⟨_, _, _, _, _, _, rfl, HF⟩
                    · have t8 := word_no e8
                      have HOX := Lib.hid (show O = none by rw [HO2.out, headO_none e1 e2 e3 e4 e5 e6 e7 e8]; rfl)
                      clear e1 e2 e3 e4 e5 e6 e7 e8 HO2
                      go_wp2_with fail
                      exact ⟨rfl, by rw [HOX.out]; rfl, EW2.out.g⟩
    case rest =>
      obtain ⟨nv, dv, n, d, c, r0, rfl, HS⟩ := hcut
      clear q0 q1 q2 q3 q4 f1 f2 f3 EW2 hW2x W2
      have hc2 : c ≤ 2 := headO_count HS.out.o
      have hkk : kk - 1 = (k : Int) := by have := HKK.out; omega
      have kw : IntKind.i64.wrap (kk - 1) = (k : Int) := by rw [hkk]; exact IntWalk.i64_in _ (by omega)
      have HO3 := Lib.hid (show O = (partsO (exprO k) c r0).map fun q => (mkE s n d q.1, q.2) by rw [HO2.out, HS.out.o]; rfl)
      have R0 := Lib.hid (show ∃ ps pv r, EW B pb w wc w.heap.size xb s nv dv pv r ∧ Prts wc (xb + 1) nv dv n d pv ps ∧ ps.length = 0 ∧ O = (partsO (exprO k) (c - 0) r).map fun q => (mkE s n d (ps.map Prod.fst ++ q.1), q.2) from
        ⟨[], nilS, r0, HS.out.ew, ⟨⟨HS.out.hn.rd.kept (Nat.le_refl _) (fun _ _ _ => rfl) (fun b hb _ => ⟨hb, fun e => by cases e⟩), HS.out.hd.rd.kept (Nat.le_refl _) (fun _ _ _ => rfl) (fun b hb _ => ⟨hb, fun e => by cases e⟩)⟩, fun _ => rfl, World.ownsRow_nil _ _ _ _, fun p hp => by simp at hp⟩, rfl, by rw [HO3.out]; rfl⟩)
      clear HO2 HS HO3
      go_wp2
      go_loopw [77] (fun t wr => ∃ i : Nat, t = .int .i64 i ∧ i ≤ c ∧ Hid (∃ ps pv r, EW B pb w wr w.heap.size xb s nv dv pv r ∧ Prts wr (xb + 1) nv dv n d pv ps ∧ ps.length = i ∧ O = (partsO (exprO k) (c - i) r).map fun q => (mkE s n d (ps.map Prod.fst ++ q.1), q.2))) (fun t _ => c - (intOf t).toNat)
      case atStart => exact ⟨0, rfl, by omega, R0⟩
      case round =>
        clear R0
        obtain ⟨i, rfl, hi, hr⟩ := hrel
        by_cases hlt : i < c
        · obtain ⟨ps, pv, r, r1, r4, r5, r6⟩ := hr.out
          have hpo : ∀ x, partsO (exprO k) (c - i) x = match paren (exprO k) x with | none => none | some (x, r) => match partsO (exprO k) (c - (i + 1)) r with | none => none | some (l, r2) => some (x :: l, r2) := fun x => by
            rw [show c - i = (c - (i + 1)) + 1 by omega]; rfl
          cases r with
          | nil =>
            have HOX := Lib.hid (show O = none by rw [r6, hpo]; rfl)
            have hnx := next_no B pb wr r1.ps
            have HG := Lib.hid r1.g
            clear hr r1 r4 r5 r6 hok hno hpo
            go_wp2_with fail
            refine hnx.mono ?_
            rintro e w3 ⟨rfl, rfl⟩
            exact ⟨rfl, by rw [HOX.out], HG.out⟩
          | cons t r' =>
            have hnx := next_ok B pb t r' wr (by have := r1.m.1; simp at this; omega) r1.ps
            have J0 := Lib.hid (And.intro r1 (And.intro r4 (And.intro r5 r6)))
            have HPO := Lib.hid (hpo (t :: r'))
            clear hr r1 r4 r5 r6 hpo
            go_wp2_with fail
            refine hnx.mono ?_
            rintro e w3 ⟨rfl, hp3, hg3⟩
            by_cases e1 : t = txt [40]
            · have t1 := word_yes e1
              have J1 := Lib.hid (And.intro (J0.out.1.step hg3 hp3 J0.out.1.m.tail) (Prts.pkept J0.out.2.1 hg3 (by have := J0.out.1.pB; have := J0.out.1.rx; omega)))
              have HPL := Lib.hid (And.intro J0.out.2.2.1 (And.intro J0.out.2.2.2 HPO.out))
              have E1 := Lib.hid e1
              clear e1 hp3 hg3 J0 HPO hnx
              go_upto_region 30 with (go_at_call 120; refine (hok _).mono ?_; rintro e w' ⟨rfl, rfl⟩)
              obtain ⟨q0, q1, q2, q3, q4⟩ := J1.out.1.x.cells
              have q7 : xb ≠ pb := by have := J1.out.1.pB; have := J1.out.1.rx; omega
              refine RP.region_treeP (C := fun w' => ∃ x : SubP pb (xb + 1) w3, w' = x.val) (fun ch ds wz => ch = MalP ∧ ds = [] ∧ OutE B w pb O (.panicked MalP) wz) [0, 1, 2, 3, 4] (OT.seq [5, 6, 7, 8]) 9 (fun ch a wz h => by obtain ⟨rfl, h1, h2⟩ := h; exact ⟨h1, h2⟩) (by kernel_rfl) (by kernel_rfl) (subp_start pb _ w3) ?_
              simp only [pickL, List.getElem?_cons_zero, List.getElem?_cons_succ]
              repeat (go_big_quiet_step (fail))
              refine wpQuiet_nil ?_
              obtain ⟨w5, hw5⟩ : ∃ w5 : World, w5 = { w3 with drawn := w3.drawn + 1 } := ⟨_, rfl⟩
              have hb5 : Below w3.heap.size w3 w5 := by rw [hw5]; exact (Below.refl _ _).drew
              have hx3 : xb + 1 ≤ w3.heap.size := by have := (Array.getElem?_eq_some_iff.1 J1.out.1.x).1; omega
              have q8 : xb < xb + 1 := by omega
              rw [← hw5]
              have EW5 := J1.out.1.keep hb5
              have PR5 := Prts.pkept J1.out.2 (grown_of hb5 (some pb)) (by have := J1.out.1.pB; have := J1.out.1.rx; omega)
              have hx5 : xb + 1 ≤ w5.heap.size := by have := (Array.getElem?_eq_some_iff.1 EW5.x).1; omega
              have hpx : pb < xb + 1 := by have := J1.out.1.pB; have := J1.out.1.rx; omega
              clear q0 q1 q2 q3 q4 q7 q8 hw5
              simp only [RP.treeS, OT.seq, atOp, List.getElem?_cons_zero, List.getElem?_cons_succ]
              refine ⟨subp_low (grown_of hb5 _) hx3, ?_⟩
              refine RP.p_call 106 #[.pointer (some ⟨pb, 0, none⟩), .int .i64 (k : Int)] rfl (by go_simp) ?_
              refine (IH.out B pb r' EW5.m w5 EW5.ps EW5.pw).mono ?_
              rintro e w6 ⟨hres, hg6⟩
              have hgt : w.grownBy w6 (some pb) := grown_then EW5.g hg6
              cases hR : exprO k r' with
              | none =>
                rw [hR] at hres
                have HOX : O = none := by
                  rw [HPL.out.2.1, HPL.out.2.2]
                  simp [paren, E1.out, hR]
                exact .inr ⟨MalP, hres, rfl, rfl, by rw [HOX], hgt⟩
              | some q =>
                obtain ⟨x, r3⟩ := q
                rw [hR] at hres
                obtain ⟨v, rfl, hx6, hp6⟩ := hres
                refine .inl ⟨v, rfl, ?_⟩
                have hgc : w3.grownBy w6 (some pb) := grown_then (grown_of hb5 _) hg6
                refine ⟨subp_low hgc hx3, ?_⟩
                have hm3 := exprO_mod hR EW5.m
                have EW6 := EW5.step hg6 hp6 hm3
                have PR6 := Prts.pkept PR5 hg6 hpx
                obtain ⟨s1, nv1, dv1, pv1, rfl, k1, k2, k3⟩ := RdE.agg _ _ hx6
                refine RP.p_val (.slice (some ⟨w6.heap.size, 0, none⟩) 1 1) (w6.alloc (.cells #[.string s1, nv1, dv1, pv1] 78)) rfl (by go_simp) ?_
                have hal := (Below.refl w6.heap.size w6).alloc (Nat.le_refl _) (.cells #[.string s1, nv1, dv1, pv1] 78)
                have hx6' : xb + 1 ≤ w6.heap.size := Nat.le_trans hx5 hg6.size
                refine ⟨subp_low2 hgc hx3 (hal.mono hx6'), ?_⟩
                obtain ⟨v', w7, a1, a2, a3, a4⟩ := ap_expr w6 76 (xb + 1) pv ps.length _ (.string s1) nv1 dv1 pv1 rfl k1 k2 k3 PR6.2.2.1 (by have := HPL.out.1; omega) hx6'
                refine RP.p_val v' w7 rfl (ap_exec (.tmp 84) (.tmp 89) 76 rfl pv (.slice (some ⟨w6.heap.size, 0, none⟩) 1 1) _ w7 rfl rfl a1) ?_
                have hb7 : Below (xb + 1) w6 w7 := (Below.refl _ _).grown a3 hx6' (fun g e => (World.ownsRow.lt PR6.2.2.1 g e).1)
                have hpg : ∀ g, pv.ownBlock = some g → g < w5.heap.size := fun g e => (World.ownsRow.lt PR5.2.2.1 g e).2
                have PR7 := Prts.push PR6 hx6 hx5 hpg a3 a4 a2
                have EW7 := EW6.low hb7
                refine ⟨subp_low2 hgc hx3 hb7, ?_⟩
                refine RP.p_val (.pointer (some ⟨xb, 3, none⟩)) w7 rfl (by go_simp) ?_
                refine ⟨subp_low2 hgc hx3 hb7, ?_⟩
                obtain ⟨g7, c7, rfl⟩ := own_some PR7.2.2.1 (by simp)
                obtain ⟨z0, z1, z2, z3, z4⟩ := EW7.x.cells
                have f3 := EW7.x.frozen 3
                have EW8 := EW7.set 3 (.slice (some ⟨g7, 0, none⟩) (ps ++ [(x, Value.agg #[.string s1, nv1, dv1, pv1])]).length c7) (EW7.x.set3 _)
                have PR8 := set_grown w7 xb 3 (.slice (some ⟨g7, 0, none⟩) (ps ++ [(x, Value.agg #[.string s1, nv1, dv1, pv1])]).length c7) (fun hg => PR7.pkept hg (by omega))
                obtain ⟨l8, hl8⟩ : ∃ l8, l8 = (ps ++ [(x, Value.agg #[.string s1, nv1, dv1, pv1])]).length := ⟨_, rfl⟩
                have HPA := Lib.hid (show paren (exprO k) (t :: r') = closeO x r3 by
                  simp only [paren, if_pos E1.out, hR]
                  cases r3 <;> rfl)
                rw [← hl8] at EW8 PR8 ⊢
                refine RP.p_skip (w7.setCell ⟨xb, 3, none⟩ (.slice (some ⟨g7, 0, none⟩) l8 c7)) rfl (by go_simp) ?_
                obtain ⟨w8, hw8⟩ : ∃ w8, w8 = w7.setCell ⟨xb, 3, none⟩ (.slice (some ⟨g7, 0, none⟩) l8 c7) := ⟨_, rfl⟩
                rw [← hw8] at EW8 PR8 ⊢
                have J8 := Lib.hid (And.intro EW8 PR8)
                have HL8 := Lib.hid (And.intro hl8 (show (ps ++ [(x, Value.agg #[.string s1, nv1, dv1, pv1])]).length = i + 1 by rw [List.length_append, HPL.out.1]; rfl))
                clear hw8 EW8 PR8 hl8 z0 z1 z2 z3 z4 f3 EW7 PR7 PR6 EW6 EW5 PR5 hb7 hpg a1 a2 a3 a4 hx6 k1 k2 k3 hal hgc hgt hg6 hp6 hm3 hb5 hx3 hx5 hx6' J1 hR
                cases r3 with
                | nil =>
                  have HOX := Lib.hid (show O = none by rw [HPL.out.2.1, HPL.out.2.2, HPA.out]; rfl)
                  have hnx := next_no B pb w8 J8.out.1.ps
                  have HG := Lib.hid J8.out.1.g
                  clear J8 HPA HPL hok hno
                  go_simp
                  go_wp2_with fail
                  refine hnx.mono ?_
                  rintro e w9 ⟨rfl, rfl⟩
                  exact ⟨rfl, by rw [HOX.out], HG.out⟩
                | cons t2 r4 =>
                  have hnx := next_ok B pb t2 r4 w8 (by have := J8.out.1.m.1; simp at this; omega) J8.out.1.ps
                  go_simp
                  go_wp2_with fail
                  refine hnx.mono ?_
                  rintro e w9 ⟨rfl, hp9, hg9⟩
                  by_cases e2 : t2 = txt [41]
                  · have t2' := word_yes e2
                    have R2 := Lib.hid (show ∃ ps pv r, EW B pb w w9 w.heap.size xb s nv dv pv r ∧ Prts w9 (xb + 1) nv dv n d pv ps ∧ ps.length = i + 1 ∧ O = (partsO (exprO k) (c - (i + 1)) r).map fun q => (mkE s n d (ps.map Prod.fst ++ q.1), q.2) from
                      ⟨_, _, r4, J8.out.1.step hg9 hp9 J8.out.1.m.tail, J8.out.2.pkept hg9 hpx, HL8.out.2, by
                        rw [HPL.out.2.1, HPL.out.2.2, HPA.out]
                        simp only [closeO, if_pos e2]
                        cases partsO (exprO k) (c - (i + 1)) r4 with
                        | none => rfl
                        | some p => simp⟩)
                    clear e2 J8 HPA HPL HL8 hp9 hg9 hnx hno
                    go_wp2_with (go_at_call 120; refine (hok _).mono ?_; rintro e w' ⟨rfl, rfl⟩)
                    go_roundw
                    case rel => exact ⟨i + 1, by go_num, by omega, R2⟩
                    case measure => simp [intOf]; omega
                  · have t2' := word_no e2
                    have HOX := Lib.hid (show O = none by rw [HPL.out.2.1, HPL.out.2.2, HPA.out]; simp only [closeO, if_neg e2]; rfl)
                    have HG := Lib.hid (grown_then J8.out.1.g hg9)
                    clear e2 J8 HPA HPL HL8 hp9 hg9 hnx hok
                    go_wp2_with (go_at_call 120; refine (hno _).mono ?_; rintro e w' ⟨rfl, rfl⟩)
                    exact ⟨rfl, by rw [HOX.out], HG.out⟩
            · have t1 := word_no e1
              have HOX := Lib.hid (show O = none by rw [J0.out.2.2.2, HPO.out]; simp [paren, e1])
              have HG := Lib.hid (grown_then J0.out.1.g hg3)
              clear e1 hok J0 HPO hp3 hg3
              go_wp2_with (go_at_call 120; refine (hno _).mono ?_; rintro e w' ⟨rfl, rfl⟩)
              exact ⟨rfl, by rw [HOX.out], HG.out⟩
        · obtain rfl : i = c := by omega
          obtain ⟨ps, pv, r, r1, r4, r5, r6⟩ := hr.out
          have hO : O = some (mkE s n d (ps.map Prod.fst), r) := by rw [r6, Nat.sub_self]; simp [partsO]
          have hE : ∀ w', (∀ b, w.heap.size < b → b < wr.heap.size → w'.heap[b]? = wr.heap[b]?) → wr.heap.size ≤ w'.heap.size → RdE w' (fun b => w.heap.size ≤ b) (mkE s n d (ps.map Prod.fst)) (.agg #[.string s, nv, dv, pv]) := fun w' hk hs =>
            Prts.rd r4 (by omega) hrx (s := s) hk hs
          obtain ⟨q0, q1, q2, q3, q4⟩ := r1.x.cells
          obtain ⟨p0, p1, p2, p3, p4⟩ := r1.r.cells
          have f0 := r1.r.frozen 0
          have f1 := r1.r.frozen 1
          have f2 := r1.r.frozen 2
          have f3 := r1.r.frozen 3
          have HP4 := Lib.hid (r1.r.put s nv dv pv)
          have hgr := setE_grown wr w.heap.size (.string s) nv dv pv
          have HF := Lib.hid (show OutE B w pb O (.returned (.agg #[.string s, nv, dv, pv])) (setE wr w.heap.size (.string s) nv dv pv) by
            have hbl : Below w.heap.size wr (setE wr w.heap.size (.string s) nv dv pv) := (Below.refl _ wr).grown hgr (by omega) (fun g e => by cases e; omega)
            refine ⟨?_, grown_low r1.g hbl⟩
            rw [hO]
            exact ⟨_, rfl, hE _ (fun b h1 h2 => hgr.block b h2 (fun e => by cases e; omega)) hgr.size, r1.ps.other (hbl.mono (by omega))⟩)
          obtain ⟨A1, l1, c1, A2, l2, c2, A3, l3, c3, rfl, rfl, rfl⟩ := Prts.one r4
          clear hr r1 r4 r5 r6 hO hE hgr
          go_wp2
          refine bodyPost_ret (v := .agg #[.string s, .slice A1 l1 c1, .slice A2 l2 c2, .slice A3 l3 c3]) (ret_expr rfl rfl HP4.out) rfl ?_
          exact HF.out
end Go.Proofs.YtgmokojdlbdjeaaGreatDoor
