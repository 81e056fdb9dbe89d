/-
  THE PROGRAM's PARSER: parse.
-/
import Derived.Test.YtgmokojdlbdjeaaGreatDoorParH
import Derived.Defers
import Derived.Recover
import Derived.RegionTactic
import Derived.ChangeAlike
namespace Go.Proofs.YtgmokojdlbdjeaaGreatDoor
open Go.RowKit
/-- The deferred closure behind a call that returns: it turns nothing. -/
theorem catch_idle (p q : Addr) (w : World) :
    CallsD Tryz.prog 104 #[.pointer (some p), .pointer (some q)] .returning w fun e u' w' => e = .returned (.tuple #[]) ∧ u' = .returning ∧ w' = w := by
  refine callsD_of_wpS Tryz.func104 rfl fun c₀ cs hu => ?_
  apply wpS_seq
  apply wpS_region
  simp [wpOpsS, go_sem, recoverD, hu, Tryz.ntmps104, Exit.thenS]
  apply wpS_seq
  apply wpS_region
  simp [wpOpsS, go_sem, Exit.thenS]
  refine wpS_cond (t := false) (by simp [Act.eval, Array.replicate]) ?_
  simp only [Bool.false_eq_true, if_false]
  refine wpS_of_wp (wp_skip ?_)
  cases c₀
  simp_all [bodyPostS, results, Tryz.results104]
def MalR : List PanicEntry := [{ v := .iface 111 (.agg #[]), recovered := true }]
set_option maxRecDepth 100000 in
/-- The deferred closure behind a call that panicked with what the parser panics with. -/
theorem catch_pan (xb ob : Nat) (w : World) (s : ByteArray) (nv dv pv : Value) (b : Bool) (hx : EBox w xb s nv dv pv) (ho : w.cell? ⟨ob, 0, none⟩ = some (.bool b)) (hf : w.frozen? ⟨ob, 0, none⟩ = false) (hne : xb ≠ ob) :
    CallsD Tryz.prog 104 #[.pointer (some ⟨xb, 0, none⟩), .pointer (some ⟨ob, 0, none⟩)] (.panicking MalP) w fun e u' w' => e = .returned (.tuple #[]) ∧ u' = .panicking MalR ∧ ∃ g, w' = ((setE w xb (.string ⟨#[]⟩) nilS nilS nilS).setCell ⟨ob, 0, none⟩ (.bool false)).alloc g := by
  refine callsD_of_wpS Tryz.func104 rfl fun c₀ cs hu => ?_
  apply wpS_seq
  apply wpS_region
  simp [wpOpsS, go_sem, recoverD, hu, Tryz.ntmps104, Exit.thenS, MalP]
  apply wpS_seq
  apply wpS_region
  simp [wpOpsS, go_sem, Exit.thenS]
  refine wpS_cond (t := true) (by simp [Act.eval, Array.replicate]) ?_
  simp only [if_true]
  refine wpS_of_wp ?_
  obtain ⟨x0, x1, x2, x3, x4⟩ := hx.cells
  have g0 := hx.frozen 0
  have g1 := hx.frozen 1
  have g2 := hx.frozen 2
  have g3 := hx.frozen 3
  have hne' : ob ≠ xb := fun e => hne e.symm
  have ho4 : ob < w.heap.size := by
    rcases Nat.lt_or_ge ob w.heap.size with h | h
    · exact h
    · rw [World.cell?, Array.getElem?_eq_none h] at ho; cases ho
  have HU := Lib.hid hu
  clear hx hu
  have hta : ∀ w : World, (Instr.typeAssert (.iface 111 (.agg #[])) 20 111 true).run Tryz.prog w = .ok (.tuple #[.agg #[], .bool true]) w := fun _ => by kernel_rfl
  simp only [Array.replicate]
  go_wp2
  have hu := HU.out
  clear HU
  refine ⟨rfl, .panicking MalR, rfl, .tuple #[], by simp [results, Tryz.results104], rfl, rfl, .cells #[] 111, rfl⟩
theorem mod_words {s : ByteArray} (h : s.size ≤ 10000) : Mod (wordsS s) := by
  refine ⟨?_, fun x hx => Nat.le_trans (split_size _ _ s x hx) h⟩
  have h1 : (wordsS s).length = Lib.countB s ⟨#[32]⟩ + 1 := Lib.splitB_all ⟨#[32]⟩ (by decide) 0 _ s rfl
  have h2 : Lib.countB s ⟨#[32]⟩ ≤ s.size := Lib.countB_le ⟨#[32]⟩ (by decide) _ s (Nat.le_refl _)
  omega
theorem ret_expr2 {w : World} {bx ob : Nat} {s : ByteArray} {nv dv pv : Value} {b : Bool} {tmps : Array Value} {fn : Func} {p q : Tmp} (h : fn.results = #[.cell p 78, .cell q 4]) (hp : tmps.getD p undef = .pointer (some ⟨bx, 0, none⟩)) (hq : tmps.getD q undef = .pointer (some ⟨ob, 0, none⟩)) (hg : EBox w bx s nv dv pv) (hb : w.heap[ob]? = some (.cells #[.bool b] 4 (0, 0))) : (results fn tmps).run Tryz.prog w = .ok (.tuple #[.agg #[.string s, nv, dv, pv], .bool b]) w := by
  have hp' : tmps[p]?.getD undef = .pointer (some ⟨bx, 0, none⟩) := by simpa using hp
  have hq' : tmps[q]?.getD undef = .pointer (some ⟨ob, 0, none⟩) := by simpa using hq
  have hc : w.cell? ⟨ob, 0, none⟩ = some (.bool b) := (cell_of_row w ob 0 _ _ (0, 0) hb).trans rfl
  have hl : (loadVar 4 ⟨ob, 0, none⟩).run Tryz.prog w = .ok (.bool b) w := by
    simp [go_sem, hc]
  simp [results, h, hp', hq', asAddr, run_loadVar_row w bx 78 78 _ (0, 0) _ hg Tryz.underlying78 rfl (exprSz (.string s) nv dv pv), hl]
theorem fin_kept (w5 : World) (xb ob b : Nat) (s nv dv pv u : Value) (h1 : b ≠ xb) (h2 : b ≠ ob) (hlt : b < w5.heap.size) : ((setE w5 xb s nv dv pv).setCell ⟨ob, 0, none⟩ u).drew.heap[b]? = w5.heap[b]? := by
  have e1 : ∀ w : World, w.drew.heap = w.heap := fun _ => rfl
  have e2 := (setE_grown w5 xb s nv dv pv).block b hlt (fun e => h1 (by cases e; rfl))
  generalize setE w5 xb s nv dv pv = w6 at e2 ⊢
  rw [e1, ← e2]
  exact Below.heap_setCell w6 ⟨ob, 0, none⟩ u b h2
theorem fin_size (w5 : World) (xb ob : Nat) (s nv dv pv u : Value) : w5.heap.size ≤ ((setE w5 xb s nv dv pv).setCell ⟨ob, 0, none⟩ u).drew.heap.size := by simp [World.drew, World.setCell, setE]
/-- What parsing a text gives. -/
def OutT (w : World) (o : Option (ExprD × List ByteArray)) (e : Ending) (w' : World) : Prop := (∃ v b, e = .returned (.tuple #[v, .bool b]) ∧ (match o with
  | some (x, []) => b = true ∧ RdE w' (fun b => w.heap.size ≤ b) x v
  | _ => b = false ∧ ∃ s A1 l1 c1 A2 l2 c2 A3 l3 c3, v = .agg #[.string s, .slice A1 l1 c1, .slice A2 l2 c2, .slice A3 l3 c3])) ∧ Below w.heap.size w w'
set_option maxRecDepth 100000 in
set_option maxHeartbeats 1000000 in
theorem parse_any (s : ByteArray) (hs : s.size ≤ 10000) (w : World) (hw : LibOK w) :
    Calls Tryz.prog 80 #[.string s] w (OutT w (exprO 12 (wordsS s))) := by
  have hmf : ∀ (fn : Fn) (first cap : Array Value) (w : World), (Instr.makeFunc fn first cap).run Tryz.prog w = .ok (.func fn first cap) w := fun _ _ _ _ => rfl
  obtain ⟨O, hO⟩ : ∃ O, O = exprO 12 (wordsS s) := ⟨_, rfl⟩
  rw [← hO]
  go_enter_defers Tryz.func80, Tryz.ntmps80
  go_wp2_with fail
  have HX0 : EBox ((w.alloc (.cells #[.string ⟨#[]⟩, .slice none 0 0, .slice none 0 0, .slice none 0 0] 78)).alloc (.cells #[.bool false] 4)) w.heap.size ⟨#[]⟩ nilS nilS nilS := (heap_alloc_old _ _ (by simp)).trans (heap_alloc_new w _)
  have HO0 : ((w.alloc (.cells #[.string ⟨#[]⟩, .slice none 0 0, .slice none 0 0, .slice none 0 0] 78)).alloc (.cells #[.bool false] 4)).heap[w.heap.size + 1]? = some (.cells #[.bool false] 4 (0, 0)) := by
    have := heap_alloc_new (w.alloc (.cells #[.string ⟨#[]⟩, .slice none 0 0, .slice none 0 0, .slice none 0 0] 78)) (.cells #[.bool false] 4)
    simpa using this
  have HB0 : Below w.heap.size w ((w.alloc (.cells #[.string ⟨#[]⟩, .slice none 0 0, .slice none 0 0, .slice none 0 0] 78)).alloc (.cells #[.bool false] 4)) := (by repeat' (first | (with_reducible exact Below.refl _ _) | (with_reducible assumption) | (with_reducible refine below_drewN ?_ _) | (with_reducible refine below_step (by assumption) ?_ ?_) | (with_reducible refine Below.alloc ?_ ?_ _) | (with_reducible refine Below.setCell ?_ ?_ _) | (with_reducible refine Below.drew ?_) | go_size | (exact Below.size (by assumption)) | (refine Nat.le_trans (Below.size (by assumption)) ?_)))
  have HZ0 : ((w.alloc (.cells #[.string ⟨#[]⟩, .slice none 0 0, .slice none 0 0, .slice none 0 0] 78)).alloc (.cells #[.bool false] 4)).heap.size = w.heap.size + 2 := by simp
  obtain ⟨W1, hW1⟩ : ∃ W1, W1 = (w.alloc (.cells #[.string ⟨#[]⟩, .slice none 0 0, .slice none 0 0, .slice none 0 0] 78)).alloc (.cells #[.bool false] 4) := ⟨_, rfl⟩
  rw [← hW1] at HX0 HO0 HB0 HZ0 ⊢
  have hl1 := hw.below HB0
  obtain ⟨m, hmx⟩ := hl1.mx
  have hsp := Tryz.strings_Split s ⟨#[32]⟩ m W1 (by omega) hmx (by decide)
  have J1 := Lib.hid (And.intro HX0 (And.intro HO0 (And.intro HB0 (And.intro hl1 HZ0))))
  have HS := Lib.hid (And.intro (mod_words hs) hO)
  clear HX0 HO0 HB0 HZ0 hl1 hmx hW1 hw hO hs
  refine hsp.mono ?_
  rintro e w2 ⟨rfl, hw2⟩
  have hlen : (wordsS s).length = Lib.countB s ⟨#[32]⟩ + 1 := Lib.splitB_all ⟨#[32]⟩ (by decide) 0 _ s rfl
  have hww : w2.heap[W1.heap.size]? = some (.cells ((wordsS s).map Value.string).toArray 9 (0, 0)) := by rw [hw2]; exact heap_alloc_new W1 _
  have hb2 : Below W1.heap.size W1 w2 := by rw [hw2]; exact (Below.refl _ _).alloc (Nat.le_refl _) _
  have hz2 : w2.heap.size = w.heap.size + 3 := by rw [hw2]; simp [J1.out.2.2.2.2]
  obtain ⟨n, hn⟩ : ∃ n, n = Lib.countB s ⟨#[32]⟩ + 1 := ⟨_, rfl⟩
  rw [← hn] at hlen ⊢
  have hn6 : n ≤ 1000000 := by have := HS.out.1.1; omega
  rw [J1.out.2.2.2.2] at hww ⊢
  have J2 := Lib.hid (show EBox w2 w.heap.size ⟨#[]⟩ nilS nilS nilS ∧ w2.heap[w.heap.size + 1]? = some (.cells #[.bool false] 4 (0, 0)) ∧ Below w.heap.size w w2 ∧ LibOK w2 ∧ w2.heap[w.heap.size + 2]? = some (.cells ((wordsS s).map Value.string).toArray 9 (0, 0)) ∧ w2.heap.size = w.heap.size + 3 from
    ⟨(hb2.block _ (by have := J1.out.2.2.2.2; omega)).trans J1.out.1, (hb2.block _ (by have := J1.out.2.2.2.2; omega)).trans J1.out.2.1, J1.out.2.2.1.trans (hb2.mono (by have := J1.out.2.2.2.2; omega)), J1.out.2.2.2.1.below hb2, hww, hz2⟩)
  have HLEN := Lib.hid hlen
  clear hsp hw2 hww hb2 hz2 J1 W1 m hn hlen
  go_wp2_with fail
  have hpbx : (w2.alloc (.cells #[.slice (some ⟨w.heap.size + 2, 0, none⟩) n n] 115)).heap[w2.heap.size]? = some (.cells #[.slice (some ⟨w.heap.size + 2, 0, none⟩) n n] 115 (0, 0)) := heap_alloc_new w2 _
  have hb3 : Below w2.heap.size w2 (w2.alloc (.cells #[.slice (some ⟨w.heap.size + 2, 0, none⟩) n n] 115)) := (Below.refl _ _).alloc (Nat.le_refl _) _
  have hz3 : (w2.alloc (.cells #[.slice (some ⟨w.heap.size + 2, 0, none⟩) n n] 115)).heap.size = w.heap.size + 4 := by simp [J2.out.2.2.2.2.2]
  obtain ⟨W3, hW3⟩ : ∃ W3, W3 = w2.alloc (.cells #[.slice (some ⟨w.heap.size + 2, 0, none⟩) n n] 115) := ⟨_, rfl⟩
  rw [← hW3] at hpbx hb3 hz3 ⊢
  rw [J2.out.2.2.2.2.2] at hpbx ⊢
  have hz2 := J2.out.2.2.2.2.2
  have hPS : PS (w.heap.size + 4) W3 (w.heap.size + 3) (wordsS s) := by
    refine ⟨some ⟨w.heap.size + 2, 0, none⟩, n, ?_, by rw [HLEN.out]; exact Nat.le_refl _, frozen_of_row W3 (w.heap.size + 3) 0 _ _ hpbx, ⟨by omega, by omega⟩, fun _ => ⟨w.heap.size + 2, 0, rfl, by omega, fun i hi => ?_⟩, fun b o e => by cases e; omega⟩
    · rw [HLEN.out]; exact (cell_of_row W3 (w.heap.size + 3) 0 _ _ (0, 0) hpbx).trans rfl
    · rw [Nat.zero_add, cell_of_row W3 (w.heap.size + 2) i _ _ (0, 0) ((hb3.block _ (by omega)).trans J2.out.2.2.2.2.1)]
      show ((wordsS s).map Value.string).toArray[i]? = _
      simp [hi]
  have hPW : PW (w.heap.size + 3) W3 := ⟨⟨w2, J2.out.2.2.2.1, hb3, by omega⟩⟩
  have hex := expr_any 12 (by decide) (w.heap.size + 4) (w.heap.size + 3) (wordsS s) HS.out.1 W3 hPS hPW
  have hx3 : EBox W3 w.heap.size ⟨#[]⟩ nilS nilS nilS := (hb3.block _ (by omega)).trans J2.out.1
  have ho3 : W3.heap[w.heap.size + 1]? = some (.cells #[.bool false] 4 (0, 0)) := (hb3.block _ (by omega)).trans J2.out.2.1
  have hbb : Below w.heap.size w W3 := J2.out.2.2.1.trans (hb3.mono (by omega))
  rw [← HS.out.2] at hex
  refine Calls.mono (show Calls _ _ _ _ _ from hex) ?_
  rintro e w4 ⟨hres, hg4⟩
  have hx4 := hx3.keepG hg4 (by omega)
  have ho4 : w4.heap[w.heap.size + 1]? = some (.cells #[.bool false] 4 (0, 0)) := (hg4.block _ (by omega) (fun e => by simp at e)).trans ho3
  have hb4 : Below w.heap.size w w4 := hbb.grown hg4 hbb.size (fun g e => by cases e; omega)
  have hz4 : w.heap.size + 4 ≤ w4.heap.size := by have := hg4.size; omega
  clear hex hPS hPW hx3 ho3 hbb hg4 hpbx hb3 hW3 J2 HLEN
  obtain ⟨x0, x1, x2, x3, x4⟩ := hx4.cells
  have g0 := hx4.frozen 0
  have g1 := hx4.frozen 1
  have g2 := hx4.frozen 2
  have g3 := hx4.frozen 3
  have oc : w4.cell? ⟨w.heap.size + 1, 0, none⟩ = some (.bool false) := (cell_of_row w4 (w.heap.size + 1) 0 _ _ (0, 0) ho4).trans rfl
  have og : w4.frozen? ⟨w.heap.size + 1, 0, none⟩ = false := frozen_of_row w4 (w.heap.size + 1) 0 _ _ ho4
  have HX4 := Lib.hid (And.intro hx4 (And.intro ho4 hb4))
  cases O with
  | none =>
    have hres : e = .panicked MalP := hres
    subst hres
    clear hx4 ho4 hb4
    show Leaves _ _ _ _ _ _ _
    refine leaves_cons (f := 104) (args := #[.pointer (some ⟨w.heap.size, 0, none⟩), .pointer (some ⟨w.heap.size + 1, 0, none⟩)]) (by simp) (by simp [go_sem]) ?_
    refine (catch_pan w.heap.size (w.heap.size + 1) w4 _ _ _ _ _ HX4.out.1 oc og (by omega)).mono ?_
    rintro e u' w'' ⟨rfl, rfl, g, rfl⟩
    have he : EBox (((setE w4 w.heap.size (.string ⟨#[]⟩) nilS nilS nilS).setCell ⟨w.heap.size + 1, 0, none⟩ (.bool false)).alloc g) w.heap.size ⟨#[]⟩ nilS nilS nilS := by
      have h1 := EBox.other (w := setE w4 w.heap.size (.string ⟨#[]⟩) nilS nilS nilS) (HX4.out.1.put ⟨#[]⟩ nilS nilS nilS) (p := ⟨w.heap.size + 1, 0, none⟩) (by show w.heap.size ≠ w.heap.size + 1; omega) (.bool false)
      exact (heap_alloc_old _ _ (Array.getElem?_eq_some_iff.1 h1).1).trans h1
    have ho : (((setE w4 w.heap.size (.string ⟨#[]⟩) nilS nilS nilS).setCell ⟨w.heap.size + 1, 0, none⟩ (.bool false)).alloc g).heap[w.heap.size + 1]? = some (.cells #[.bool false] 4 (0, 0)) := by
      have h1 := ((setE_grown w4 w.heap.size (.string ⟨#[]⟩) nilS nilS nilS).block (w.heap.size + 1) (by omega) (fun e => by simp at e)).trans HX4.out.2.1
      obtain ⟨h2, h3⟩ := Array.getElem?_eq_some_iff.1 h1
      refine (heap_alloc_old _ _ (by simpa [World.setCell] using h2)).trans ?_
      simp [World.setCell, h2, Array.getElem_modify, h3]
    have hbel : Below w.heap.size w (((setE w4 w.heap.size (.string ⟨#[]⟩) nilS nilS nilS).setCell ⟨w.heap.size + 1, 0, none⟩ (.bool false)).alloc g) :=
      ((HX4.out.2.2.grown (setE_grown w4 w.heap.size (.string ⟨#[]⟩) nilS nilS nilS) HX4.out.2.2.size (fun g e => by cases e; omega)).setCell (by show w.heap.size ≤ w.heap.size + 1; omega) _).alloc (by simp [setE, World.setCell]; omega) _
    exact ⟨_, ret_expr2 rfl rfl rfl he ho, ⟨_, _, rfl, rfl, _, _, _, _, _, _, _, _, _, _, rfl⟩, hbel⟩
  | some p =>
    have hres2 : ∃ v, e = .returned v ∧ RdE w4 (fun b => W3.heap.size ≤ b) p.1 v ∧ PS (w.heap.size + 4) w4 (w.heap.size + 3) p.2 := hres
    clear hres
    obtain ⟨x, r⟩ := p
    obtain ⟨v, rfl, hrd, hps⟩ := hres2
    simp only at hrd hps
    obtain ⟨sx, A1, l1, c1, A2, l2, c2, A3, l3, c3, rfl⟩ := hrd.agg2
    obtain ⟨AP, cp, p1, p2, -⟩ := hps
    obtain ⟨lr, hlr⟩ : ∃ lr, lr = r.length := ⟨_, rfl⟩
    rw [← hlr] at p1
    have HR := Lib.hid (And.intro hrd hlr)
    have hne : w.heap.size + 3 ≠ w.heap.size := by omega
    have hne2 : w.heap.size + 1 ≠ w.heap.size := by omega
    clear hx4 ho4 hb4 hrd p2 hlr hz2
    go_wp2
    have hgr := setE_grown w4 w.heap.size (.string sx) (.slice A1 l1 c1) (.slice A2 l2 c2) (.slice A3 l3 c3)
    have hx5 := HX4.out.1.put sx (.slice A1 l1 c1) (.slice A2 l2 c2) (.slice A3 l3 c3)
    obtain ⟨w5, hw5⟩ : ∃ w5, w5 = setE w4 w.heap.size (.string sx) (.slice A1 l1 c1) (.slice A2 l2 c2) (.slice A3 l3 c3) := ⟨_, rfl⟩
    rw [← hw5] at hgr hx5
    show Code.wp _ _ _ _ (setE w4 w.heap.size (.string sx) (.slice A1 l1 c1) (.slice A2 l2 c2) (.slice A3 l3 c3))
    rw [← hw5]
    have ho5 : w5.heap[w.heap.size + 1]? = some (.cells #[.bool false] 4 (0, 0)) := (hgr.block (w.heap.size + 1) (by omega) (fun e => by simp at e)).trans HX4.out.2.1
    have hp5 : w5.cell? ⟨w.heap.size + 3, 0, none⟩ = some (.slice AP lr cp) := (World.cell?_of_block (a := ⟨w.heap.size + 3, 0, none⟩) (hgr.block (w.heap.size + 3) (by omega) (fun e => by simp at e))).trans p1
    have hb5 : Below w.heap.size w w5 := HX4.out.2.2.grown hgr HX4.out.2.2.size (fun g e => by cases e; omega)
    have hr5 : RdE w5 (fun b => w.heap.size + 4 ≤ b) x (.agg #[.string sx, .slice A1 l1 c1, .slice A2 l2 c2, .slice A3 l3 c3]) := RdE.kept hgr.size (fun b hb hlt => hgr.block b hlt (fun e => by cases e; have := hb; omega)) (fun b hb _ => by have := hb; omega) _ _ HR.out.1
    have hz5 : w.heap.size + 4 ≤ w5.heap.size := by have := hgr.size; omega
    have H5 := Lib.hid (And.intro hx5 (And.intro ho5 (And.intro hb5 (And.intro hr5 HR.out.2))))
    clear x0 x1 x2 x3 x4 g0 g1 g2 g3 oc og p1 HX4 hw5 hgr HR hr5 hb5 hz4 hz3
    obtain ⟨x0, x1, x2, x3, x4⟩ := hx5.cells
    have g0 := hx5.frozen 0
    have g1 := hx5.frozen 1
    have g2 := hx5.frozen 2
    have g3 := hx5.frozen 3
    have oc : w5.cell? ⟨w.heap.size + 1, 0, none⟩ = some (.bool false) := (cell_of_row w5 (w.heap.size + 1) 0 _ _ (0, 0) ho5).trans rfl
    have og : w5.frozen? ⟨w.heap.size + 1, 0, none⟩ = false := frozen_of_row w5 (w.heap.size + 1) 0 _ _ ho5
    clear hx5 ho5
    go_region
    have he0 := H5.out.1.put sx (.slice A1 l1 c1) (.slice A2 l2 c2) (.slice A3 l3 c3)
    have hgr := setE_grown w5 w.heap.size (.string sx) (.slice A1 l1 c1) (.slice A2 l2 c2) (.slice A3 l3 c3)
    obtain ⟨tb, htb⟩ : ∃ tb, tb = ((lr : Int) == 0) := ⟨_, rfl⟩
    have h1 := (hgr.block (w.heap.size + 1) (by omega) (fun e => by simp at e)).trans H5.out.2.1
    have he : EBox (((setE w5 w.heap.size (.string sx) (.slice A1 l1 c1) (.slice A2 l2 c2) (.slice A3 l3 c3)).setCell ⟨w.heap.size + 1, 0, none⟩ (.bool tb)).drew) w.heap.size sx (.slice A1 l1 c1) (.slice A2 l2 c2) (.slice A3 l3 c3) :=
      EBox.other (w := setE w5 w.heap.size (.string sx) (.slice A1 l1 c1) (.slice A2 l2 c2) (.slice A3 l3 c3)) he0 (p := ⟨w.heap.size + 1, 0, none⟩) (by show w.heap.size ≠ w.heap.size + 1; omega) (.bool tb)
    have ho : (((setE w5 w.heap.size (.string sx) (.slice A1 l1 c1) (.slice A2 l2 c2) (.slice A3 l3 c3)).setCell ⟨w.heap.size + 1, 0, none⟩ (.bool tb)).drew).heap[w.heap.size + 1]? = some (.cells #[.bool tb] 4 (0, 0)) := by
      obtain ⟨h2, h3⟩ := Array.getElem?_eq_some_iff.1 h1
      simp [World.drew, World.setCell, h2, Array.getElem_modify, h3]
    have hbel0 : Below w.heap.size w5 (((setE w5 w.heap.size (.string sx) (.slice A1 l1 c1) (.slice A2 l2 c2) (.slice A3 l3 c3)).setCell ⟨w.heap.size + 1, 0, none⟩ (.bool tb)).drew) :=
      (((Below.refl w.heap.size w5).grown hgr (by omega) (fun g e => by cases e; omega)).setCell (by show w.heap.size ≤ w.heap.size + 1; omega) _).drew
    have hrd : RdE (((setE w5 w.heap.size (.string sx) (.slice A1 l1 c1) (.slice A2 l2 c2) (.slice A3 l3 c3)).setCell ⟨w.heap.size + 1, 0, none⟩ (.bool tb)).drew) (fun b => w.heap.size ≤ b) x (.agg #[.string sx, .slice A1 l1 c1, .slice A2 l2 c2, .slice A3 l3 c3]) := by
      exact RdE.kept (fin_size _ _ _ _ _ _ _ _) (fun b hb hlt => fin_kept _ _ _ _ _ _ _ _ _ (by have : w.heap.size + 4 ≤ b := hb; omega) (by have : w.heap.size + 4 ≤ b := hb; omega) hlt) (fun b hb _ => by have : w.heap.size + 4 ≤ b := hb; omega) _ _ H5.out.2.2.2.1
    obtain ⟨wf, hwf⟩ : ∃ wf, wf = ((setE w5 w.heap.size (.string sx) (.slice A1 l1 c1) (.slice A2 l2 c2) (.slice A3 l3 c3)).setCell ⟨w.heap.size + 1, 0, none⟩ (.bool tb)).drew := ⟨_, rfl⟩
    rw [← hwf] at he ho hbel0 hrd
    have HF := Lib.hid (show OutT w (some (x, r)) (.returned (.tuple #[.agg #[.string sx, .slice A1 l1 c1, .slice A2 l2 c2, .slice A3 l3 c3], .bool tb])) wf by
      refine ⟨⟨_, tb, rfl, ?_⟩, H5.out.2.2.1.trans hbel0⟩
      cases r with
      | nil => exact ⟨by rw [htb, H5.out.2.2.2.2]; rfl, hrd⟩
      | cons t r => exact ⟨by rw [htb, H5.out.2.2.2.2, beq_eq_false_iff_ne]; simp; omega, _, _, _, _, _, _, _, _, _, _, rfl⟩)
    have HR2 := Lib.hid (And.intro he ho)
    have HWF := Lib.hid hwf
    rw [← htb]
    clear he ho hrd hbel0 h1 hgr he0 htb H5 HS hwf
    go_wp2
    show Leaves _ _ _ _ _ _ (((setE w5 w.heap.size (.string sx) (.slice A1 l1 c1) (.slice A2 l2 c2) (.slice A3 l3 c3)).setCell ⟨w.heap.size + 1, 0, none⟩ (.bool tb)).drew)
    rw [← HWF.out]
    clear HWF
    refine leaves_cons (f := 104) (args := #[.pointer (some ⟨w.heap.size, 0, none⟩), .pointer (some ⟨w.heap.size + 1, 0, none⟩)]) (by simp) (by simp [go_sem]) ?_
    refine (catch_idle _ _ _).mono ?_
    rintro e u' w'' ⟨rfl, rfl, rfl⟩
    exact ⟨_, ret_expr2 rfl rfl rfl HR2.out.1 HR2.out.2, HF.out⟩
end Go.Proofs.YtgmokojdlbdjeaaGreatDoor
