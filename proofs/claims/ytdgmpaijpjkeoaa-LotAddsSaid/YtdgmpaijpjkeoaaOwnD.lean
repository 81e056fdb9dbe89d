/-
  slices.Clone OF LOTS; copied (the program's).
-/
import Derived.Test.YtdgmpaijpjkeoaaOwnC
namespace Go.Proofs.Ytdgmpaijpjkeoaa
open Go.RowKit
/-- Three cells are a lot, whose parts lie in the world w. -/
def TOK (w : World) (t : LotC) (x : LotD) : Prop := t.1 = x.kind ∧ t.2.1 = x.mass ∧ I64 x.kind ∧ I64 x.mass ∧ ∃ A c, t.2.2 = .slice A x.parts.length c ∧ x.parts.length ≤ c ∧ PartsIn w A x.parts
theorem TOK.one {w : World} {t : LotC} {x : LotD} (h : TOK w t x) : t.2.2.oneCell' = true := by
  obtain ⟨-, -, -, -, A, c, e, -⟩ := h
  rw [e]; rfl
theorem lots_ts (w : World) (b : Nat) : ∀ (l : List LotD) (o : Nat), (∀ i (h : i < l.length), LotAt w b (o + i * 3) l[i]) → ∃ ts : List LotC, ts.length = l.length ∧ (∀ i (h : i < l.length) (h' : i < ts.length), TOK w ts[i] l[i]) ∧ ∀ j v, (flat3 ts)[j]? = some v → w.cell? ⟨b, o + j, none⟩ = some v
  | [], _, _ => ⟨[], rfl, fun i h => by simp at h, fun j v h => by simp [flat3] at h⟩
  | x :: l, o, h => by
    obtain ⟨ts, h1, h2, h3⟩ := lots_ts w b l (o + 3) (fun i hi => by
      have := h (i + 1) (by simpa using hi)
      rw [show o + 3 + i * 3 = o + (i + 1) * 3 by omega]
      exact this)
    obtain ⟨e1, e2, e3, e4, e5, A, c, e6, e8, e7⟩ := h 0 (by simp)
    simp only [Nat.zero_mul, Nat.add_zero, List.getElem_cons_zero] at e1 e2 e4 e5 e6 e7 e8
    refine ⟨(x.kind, x.mass, .slice A x.parts.length c) :: ts, by simp [h1], fun i hi hi' => ?_, fun j v hv => ?_⟩
    · cases i with
      | zero => exact ⟨rfl, rfl, e1, e2, A, c, rfl, e8, e7⟩
      | succ i => exact h2 i (by simpa using hi) (by simpa using hi')
    · have e : flat3 ((x.kind, x.mass, Value.slice A x.parts.length c) :: ts) = .int .i64 x.kind :: .int .i64 x.mass :: .slice A x.parts.length c :: flat3 ts := by simp [flat3]
      rw [e] at hv
      match j, hv with
      | 0, hv => simp at hv; subst hv; exact e4
      | 1, hv => simp at hv; subst hv; exact e5
      | 2, hv => simp at hv; subst hv; exact e6
      | j + 3, hv =>
        simp only [List.getElem?_cons_succ] at hv
        have := h3 j v hv
        rwa [show o + 3 + j = o + (j + 3) by omega] at this
theorem lots_cells {w : World} {A : Option Addr} {l : List LotD} (h : LotsIn w A l) : ∃ ts : List LotC, ts.length = l.length ∧ (∀ i (h : i < l.length) (h' : i < ts.length), TOK w ts[i] l[i]) ∧ CellsAt w A (flat3 ts) := by
  rcases Nat.eq_zero_or_pos l.length with h0 | hp
  · exact ⟨[], h0.symm, fun i hi => by omega, fun hp => by simp [flat3] at hp⟩
  · obtain ⟨b, o, rfl, hc⟩ := h hp
    obtain ⟨ts, h1, h2, h3⟩ := lots_ts w b l o hc
    exact ⟨ts, h1, h2, fun _ => ⟨b, o, rfl, (hc 0 hp).2.2.1, h3⟩⟩
/-- append(s, lots...): their cells behind those that are there. -/
theorem lots_run (w : World) (ty : TypeId) (A : Option Addr) (m c : Nat) (ts : List LotC) (hm : ts.length = m) (hone : ∀ t ∈ ts, t.2.2.oneCell' = true) (hc : CellsAt w A (flat3 ts)) (base : Nat) (v : Value) (n : Nat) (xs : List Value) (hn : n + m ≤ 100000) (hown : w.ownsRow base 37 3 v n xs) (hb : base ≤ w.heap.size) :
    ∃ v' w', (Builtin.append_ #[22, 22] ty #[v, .slice A m c]).run Try.prog w = .ok v' w' ∧ w'.ownsRow base 37 3 v' (n + m) (xs ++ flat3 ts) ∧ w.grownBy w' v.ownBlock ∧ (v'.ownBlock = v.ownBlock ∨ v'.ownBlock = some w.heap.size) := by
  obtain ⟨i0, hi, hz0, hz1, hz2⟩ := info_parts lotInfo3
  exact app_run (P := Try.prog) w 22 ty 37 i0 (.agg #[.int .i64 0, .int .i64 0, .slice none 0 0]) 3 40 base Try.underlying22 hi hz0 hz1 hz2 rfl (by decide) v n xs hown A m c (flat3 ts) (by rw [flat3_length, hm]) hc (flat3_one ts hone) (by unfold maxLen; omega) (by omega) hb
set_option maxRecDepth 100000 in
theorem clone_lots (l : List LotD) (A : Option Addr) (c : Nat) (w : World) (hL : LotsIn w A l) (hn : l.length ≤ 1000) :
    Calls Try.prog 97 #[.slice A l.length c] w fun e w' => ∃ v ts, e = .returned v ∧ w'.ownsRow w.heap.size 37 3 v l.length (flat3 ts) ∧ ts.length = l.length ∧ (∀ i (h : i < l.length) (h' : i < ts.length), TOK w ts[i] l[i]) ∧ Below w.heap.size w w' := by
  have HL := Lib.hid hL
  clear hL
  cases A with
  | none =>
    have h0 : l = [] := by
      cases l with
      | nil => rfl
      | cons p r => obtain ⟨b, o, hb, -⟩ := HL.out (by simp); cases hb
    subst h0
    have he : ∀ w : World, (binOp .eql 22 (.slice none 0 c) (.slice none 0 0)).run Try.prog w = .ok (.bool true) w := fun _ => rfl
    go_enter Try.func97, Try.ntmps97
    go_wp2
    go_ret
    exact ⟨_, [], rfl, World.ownsRow_nil _ _ _ _, rfl, fun i hi => by simp at hi, Below.refl _ _⟩
  | some ad =>
    have hal := (Below.refl w.heap.size w).alloc (Nat.le_refl _) (.cells #[] 37)
    obtain ⟨ts, t1, t2, t3⟩ := lots_cells HL.out
    obtain ⟨v, w', h1, h2, h3, -⟩ := lots_run (w.alloc (.cells #[] 37)) 22 (some ad) l.length c ts t1 (fun t ht => by
      obtain ⟨i, hi, rfl⟩ := List.getElem_of_mem ht
      exact (t2 i (by omega) hi).one) (t3.below hal) w.heap.size _ 0 [] (by omega) (empty_own w _ _) (by simp)
    rw [Nat.zero_add, List.nil_append] at h2
    have H := Lib.hid (And.intro h2 (And.intro t1 (And.intro t2 (below_grown hal h3 (Nat.le_refl _) (by simp)))))
    have HR := Lib.hid h1
    clear h1 h2 h3 hal t1 t2 t3
    have he : ∀ w : World, (binOp .eql 22 (.slice (some ad) l.length c) (.slice none 0 0)).run Try.prog w = .ok (.bool false) w := fun _ => rfl
    go_enter Try.func97, Try.ntmps97
    go_wp2_with (at_builtin; refine wpList_app rfl (.tmp 5) (.tmp 6) 22 rfl _ _ v w' rfl rfl HR.out ?_)
    go_ret
    exact ⟨v, ts, rfl, H.out⟩
/-- The world in the loop of copied. -/
def CopW (w wr : World) (g cap : Nat) (l : List LotD) (k : Nat) : Prop :=
  ∃ ts : List LotC, wr.ownsRow w.heap.size 37 3 (.slice (some ⟨g, 0, none⟩) l.length cap) l.length (flat3 ts) ∧ ts.length = l.length ∧ (∀ i (h : i < l.length) (h' : i < ts.length), ts[i].1 = l[i].kind ∧ ts[i].2.1 = l[i].mass ∧ I64 l[i].kind ∧ I64 l[i].mass ∧ (i < k → PartO wr w.heap.size (some g) l[i].parts ts[i].2.2) ∧ (k ≤ i → TOK w ts[i] l[i])) ∧ Below w.heap.size w wr
theorem CopW.own {w wr : World} {g cap : Nat} {l : List LotD} (h : CopW w wr g cap l l.length) : OwnL wr w.heap.size (.slice (some ⟨g, 0, none⟩) l.length cap) l := by
  obtain ⟨ts, h1, h2, h3, h4⟩ := h
  refine ⟨ts, h1, h2, fun i hi hi' => ?_⟩
  obtain ⟨e1, e2, e3, e4, e5, -⟩ := h3 i hi hi'
  exact ⟨e1, e2, e3, e4, e5 hi⟩
theorem CopW.at {w wr : World} {g cap : Nat} {l : List LotD} {k : Nat} (h : CopW w wr g cap l k) (hk : k < l.length) : ∃ A c, wr.cell? ⟨g, k * 3 + 2, none⟩ = some (.slice A l[k].parts.length c) ∧ PartsIn wr A l[k].parts ∧ wr.frozen? ⟨g, k * 3 + 2, none⟩ = false ∧ g < wr.heap.size ∧ w.heap.size ≤ g := by
  obtain ⟨ts, h1, h2, h3, h4⟩ := h
  obtain ⟨-, -, -, -, -, e6⟩ := h3 k hk (by omega)
  obtain ⟨-, -, -, -, A, c, e, -, hP⟩ := e6 (Nat.le_refl _)
  have hlt := World.ownsRow.lt h1 g rfl
  have hr := (Row.of_own h1).1
  obtain ⟨-, -, q⟩ := flat3_at ts k (by omega)
  have := World.ownsRow.cells h1 (g := g) rfl _ _ q
  rw [Addr.add_mid, Nat.zero_add, e] at this
  exact ⟨A, c, this, hP.below h4, hr.free _, hlt.2, hlt.1⟩
theorem CopW.step {w wr w2 : World} {g cap : Nat} {l : List LotD} {k : Nat} (h : CopW w wr g cap l k) (hk : k < l.length) {s : Value} (hs : PartO w2 wr.heap.size none l[k].parts s) (hb : Below wr.heap.size wr w2) : CopW w (w2.setCell ⟨g, k * 3 + 2, none⟩ s) g cap l (k + 1) := by
  obtain ⟨ts, h1, h2, h3, h4⟩ := h
  have hlt := World.ownsRow.lt h1 g rfl
  have h1' : w2.ownsRow w.heap.size 37 3 (.slice (some ⟨g, 0, none⟩) l.length cap) l.length (flat3 ts) := World.ownsRow.kept h1 (row := none) ⟨hb.os, hb.tape, hb.output, hb.size, fun k hk _ => hb.block k hk⟩ (by simp [Value.ownBlock])
  have hgr : w2.grownBy (w2.setCell ⟨g, k * 3 + 2, none⟩ s) (some g) := ⟨rfl, rfl, rfl, by simp [World.setCell], fun q _ hne => Below.heap_setCell w2 ⟨g, k * 3 + 2, none⟩ s q (fun e => hne (by rw [e]))⟩
  have hb4 := h4.trans (hb.mono h4.size)
  refine ⟨ts.set k (ts[k].1, ts[k].2.1, s), ?_, by simp [h2], fun i hi hi' => ?_, hb4.setCell hlt.1 _⟩
  · have := own_set h1' (g := g) rfl (k * 3 + 2) s
    rwa [flat3_set ts k (by omega)] at this
  · by_cases hik : i = k
    · subst hik
      obtain ⟨e1, e2, e3, e4, -, -⟩ := h3 i hi (by omega)
      rw [List.getElem_set_self]
      refine ⟨e1, e2, e3, e4, fun _ => ?_, fun h => by omega⟩
      obtain ⟨A, c, rfl, q1, q2, q3⟩ := hs
      have : PartO w2 w.heap.size (some g) l[i].parts (.slice A l[i].parts.length c) := ⟨A, c, rfl, q1, q2, fun hp => by
        obtain ⟨g', e, r1, -, r3⟩ := q3 hp
        exact ⟨g', e, Nat.le_trans h4.size r1, fun e => by cases e; omega, r3⟩⟩
      exact this.grown hgr (.inl rfl) (.inl rfl)
    · rw [List.getElem_set_ne (fun e => hik e.symm)]
      obtain ⟨e1, e2, e3, e4, e5, e6⟩ := h3 i hi (by omega)
      refine ⟨e1, e2, e3, e4, fun h => ?_, fun h => e6 (by omega)⟩
      exact ((e5 (by omega)).below hb).grown hgr (.inl rfl) (.inl rfl)
set_option maxRecDepth 100000 in
set_option maxHeartbeats 1000000 in
theorem copied_any (l : List LotD) (hl : l.length ≤ 1000) (hps : ∀ x ∈ l, x.parts.length ≤ 1000) (A : Option Addr) (c : Nat) (w : World) (hL : LotsIn w A l) :
    Calls Try.prog 72 #[.slice A l.length c] w fun e w' => ∃ v, e = .returned v ∧ OwnL w' w.heap.size v l ∧ Below w.heap.size w w' := by
  have HL := Lib.hid hL
  have HPS := Lib.hid hps
  clear hL hps
  go_enter Try.func72, Try.ntmps72
  go_wp2_with fail
  refine (clone_lots l A c w HL.out hl).mono ?_
  rintro e w1 ⟨v, ts, rfl, h1, h2, h3, h4⟩
  rcases id h1.2 with ⟨rfl, h0⟩ | ⟨g, cap, cur, rfl, -⟩
  · have hl0 : l = [] := List.eq_nil_of_length_eq_zero h0
    subst hl0
    have HB := Lib.hid h4
    clear h1 h2 h3 h4 h0
    go_wp2
    go_loopw [9] (fun t wr => t = .int .i64 0 ∧ wr = w1) (fun t _ => 0)
    case atStart => exact ⟨by first | trivial | rfl, by first | trivial | rfl⟩
    case round =>
      obtain ⟨rfl, rfl⟩ := hrel
      go_wp2
      go_ret
      exact ⟨_, rfl, OwnL.nil _ _, HB.out⟩
  · have C0 := Lib.hid (show CopW w w1 g cap l 0 from ⟨ts, h1, h2, fun i hi hi' => by
      obtain ⟨e1, e2, e3, e4, e5⟩ := h3 i hi hi'
      exact ⟨e1, e2, e3, e4, fun h => by omega, fun _ => ⟨e1, e2, e3, e4, e5⟩⟩, h4⟩)
    clear h1 h2 h3 h4 cur
    go_wp2
    go_loopw [9] (fun t wr => ∃ k : Nat, t = .int .i64 k ∧ k ≤ l.length ∧ Hid (CopW w wr g cap l k)) (fun t _ => l.length - (intOf t).toNat)
    case atStart => exact ⟨0, rfl, by omega, C0⟩
    case round =>
      clear C0
      obtain ⟨k, rfl, hk, hr⟩ := hrel
      by_cases hlt : k < l.length
      · obtain ⟨A', c', q1, q2, q3, q4, q5⟩ := hr.out.at hlt
        have hpl := HPS.out _ (List.getElem_mem hlt)
        have HST := Lib.hid (fun s w2 => hr.out.step (s := s) (w2 := w2) hlt)
        obtain ⟨ps, hps⟩ : ∃ ps, ps = l[k].parts := ⟨_, rfl⟩
        rw [← hps] at q1 q2 hpl HST
        have HP := Lib.hid q2
        clear hps q2
        go_wp2_with fail
        refine (clone_parts ps A' c' wr HP.out hpl).mono ?_
        rintro e w2 ⟨s, rfl, hs, hb2⟩
        have r1 := (hb2.cell (p := ⟨g, k * 3 + 2, none⟩) q4).trans q1
        have r2 := (hb2.frozen (p := ⟨g, k * 3 + 2, none⟩) q4).trans q3
        have r3 := Nat.lt_of_lt_of_le q4 hb2.size
        have H2 := Lib.hid (HST.out s w2 hs hb2)
        obtain ⟨A2, c2, rfl, -⟩ := hs
        clear hb2 HST HP q1 q3 q4 q5 hr
        go_wp2
        go_roundw
        case rel => exact ⟨k + 1, by go_num, by omega, H2⟩
        case measure => simp [intOf]; omega
      · obtain rfl : k = l.length := by omega
        have HO := Lib.hid (And.intro hr.out.own (show Below w.heap.size w wr from by obtain ⟨ts, -, -, -, h4⟩ := hr.out; exact h4))
        clear hr
        go_wp2
        go_ret
        exact ⟨_, rfl, HO.out⟩
end Go.Proofs.Ytdgmpaijpjkeoaa
