/-
  A REGION THAT DRAWS ITS ORDER: reads at given places, which may be taken first; then a tree of orders: a read that may be taken now, the one operation that is ready, or one of two.
-/
import Derived.Test.YtgmokojdlbdjeaaGreatDoorRegJ
namespace Go.Proofs.YtgmokojdlbdjeaaGreatDoor
open Go.RowKit
open Go
inductive OT where
  | nil
  | read (k : Nat) (t : OT)
  | one (k : Nat) (t : OT)
  | two (k : Nat) (t : OT) (k' : Nat) (t' : OT)
def OT.size : OT → Nat
  | .nil => 0
  | .read _ t => t.size + 1
  | .one _ t => t.size + 1
  | .two _ t _ _ => t.size + 1
/-- A chain. -/
def OT.seq : List Nat → OT
  | [] => .nil
  | k :: ks => .one k (OT.seq ks)
section
variable {P : Program} {md : Region.Mode} {C : World → Prop} {L : Act → World → Prop}
def treeS (P : Program) (l : List Oper) (C : World → Prop) (L : Act → World → Prop) : OT → Act → World → Prop
  | .nil, a, w => C w ∧ L a w
  | .read k t, a, w => C w ∧ atOp l k fun o => ∃ v, PureIn P l.toArray C o v a ∧ treeS P l C L t (a.put o.dst v) w
  | .one k t, a, w => C w ∧ atOp l k fun o => stepC P l.toArray o a (treeS P l C L t) w
  | .two k t k' t', a, w => C w ∧ (atOp l k fun o => stepC P l.toArray o a (treeS P l C L t) w) ∧ atOp l k' fun o => stepC P l.toArray o a (treeS P l C L t') w
def treeB (md : Region.Mode) (ops : Array Oper) : OT → Array Bool → Bool
  | .nil, listed => decide (Region.ready md ops listed = [])
  | .read k t, listed => (Region.ready md ops listed).contains k && Region.free md ops listed k && treeB md ops t (listed.setIfInBounds k true)
  | .one k t, listed => decide (Region.ready md ops listed = [k]) && treeB md ops t (listed.setIfInBounds k true)
  | .two k t k' t', listed => ((Region.ready md ops listed).all fun i => i == k || i == k') && !(Region.ready md ops listed).isEmpty && decide (t.size = t'.size) && treeB md ops t (listed.setIfInBounds k true) && treeB md ops t' (listed.setIfInBounds k' true)
theorem anyC_tree {l : List Oper} (hs : Region.noSelect l.toArray = true) : ∀ (t : OT) (listed : Array Bool) (a : Act) (w : World), treeB md l.toArray t listed = true → treeS P l C L t a w → anyC P md l.toArray C L t.size listed a w
  | .nil, listed, a, w, hB, h => ⟨h.1, by simpa [treeB] using hB, h.2⟩
  | .read k t, listed, a, w, hB, h => by
    simp only [treeB, Bool.and_eq_true] at hB
    obtain ⟨⟨hr, hf⟩, hB'⟩ := hB
    obtain ⟨hc, h⟩ := h
    obtain ⟨o, ho, v, hp, hs'⟩ := atOp_some' h
    have h0 : l.toArray[k]? = some o := by simpa using ho
    have hr' : k ∈ Region.ready md l.toArray listed := by simpa using hr
    exact anyC_first h0 (Region.noSelect_spec hs) t.size listed _ w (Region.free_spec h0 hf) hr' hp (anyC_tree hs t _ _ w hB' hs')
  | .one k t, listed, a, w, hB, h => by
    simp only [treeB, Bool.and_eq_true, decide_eq_true_eq] at hB
    obtain ⟨hc, h⟩ := h
    obtain ⟨o, ho, hp⟩ := atOp_some' h
    refine ⟨hc, fun h1 => (by rw [hB.1] at h1; cases h1), fun i hi o' ho' => ?_⟩
    rw [hB.1] at hi
    have hik : i = k := by simpa using hi
    subst hik
    obtain rfl : o' = o := Option.some.inj (ho'.symm.trans (by simpa using ho))
    exact stepC_mono (fun a' w' h' => anyC_tree hs t _ a' w' hB.2 h') hp
  | .two k t k' t', listed, a, w, hB, h => by
    simp only [treeB, Bool.and_eq_true, List.all_eq_true, Bool.or_eq_true, beq_iff_eq, decide_eq_true_eq] at hB
    obtain ⟨⟨⟨⟨hr, hne⟩, hsz⟩, hB1⟩, hB2⟩ := hB
    obtain ⟨hc, h, h'⟩ := h
    obtain ⟨o1, ho1, hp1⟩ := atOp_some' h
    obtain ⟨o2, ho2, hp2⟩ := atOp_some' h'
    refine ⟨hc, fun h1 => (by rw [h1] at hne; simp at hne), fun i hi o' ho' => ?_⟩
    by_cases hik : i = k
    · subst hik
      obtain rfl : o' = o1 := Option.some.inj (ho'.symm.trans (by simpa using ho1))
      exact stepC_mono (fun a' w' h' => anyC_tree hs t _ a' w' hB1 h') hp1
    · have hik' : i = k' := (hr i hi).resolve_left hik
      subst hik'
      obtain rfl : o' = o2 := Option.some.inj (ho'.symm.trans (by simpa using ho2))
      refine stepC_mono (fun a' w' h' => ?_) hp2
      have := anyC_tree hs t' (listed.setIfInBounds i true) a' w' hB2 h'
      rwa [← hsz] at this
def treeFB (md : Region.Mode) (ops : Array Oper) (is : List Nat) (t : OT) : Bool :=
  Region.noSelect ops && inL' ops.size is && decide (is.length + t.size = ops.size) && lexK md ops (treeB md ops t) is (Array.replicate ops.size false)
/-- THE REGION: the reads is, the tree t. -/
theorem region_tree {id : Nat} {Q : Exit → Act → World → Prop} {a : Act} {w : World} {l : List Oper} (is : List Nat) (t : OT) (hm : P.follows .mixedOrders = true) (hB : treeFB .any l.toArray is t = true) (hC : C { w with drawn := w.drawn + 1 })
    (h : wpQuiet P l.toArray C (fun a' => ∀ w', C w' → treeS P l C (fun a w => Q .normal a w) t a' w') (pickL l is) a) : (Code.region id l.toArray true).wp P Q a w := by
  simp only [treeFB, Bool.and_eq_true, decide_eq_true_eq] at hB
  obtain ⟨⟨⟨hsel, his⟩, hlen⟩, hlex⟩ := hB
  refine wp_region_any hm ?_
  have H := anyC_lexK (P := P) (C := C) (md := .any) (L := fun a w => Q .normal a w) (f := t.size) (B := treeB .any l.toArray t) (K := fun a' w' => treeS P l C (fun a w => Q .normal a w) t a' w') hsel (fun listed a w hb _ hk => anyC_tree hsel t listed a w hb hk) is _ a _ his hlex hC h
  rw [hlen] at H
  exact anyC_wpAny (fun _ _ h => h) _ _ _ _ H
/- The steps. -/
variable {ops : Array Oper} {o : Oper} {a : Act} {w : World} {K : Act → World → Prop}
theorem s_call (f : FuncId) (args : Array Value) (hw : Region.wanted o (yielded ops a.tmps) = true) (he : (execOp a.eval o).run P w = .ok (.enter f args) w)
    (h : Calls P f args w fun e w'' => ∃ v, e = .returned v ∧ K (a.put o.dst v) w'') : stepC P ops o a K w := by
  unfold stepC
  rw [if_pos hw, he]
  exact h
theorem s_val (v : Value) (w' : World) (hw : Region.wanted o (yielded ops a.tmps) = true) (he : (execOp a.eval o).run P w = .ok (.value v) w') (h : K (a.put o.dst v) w') : stepC P ops o a K w := by
  unfold stepC
  rw [if_pos hw, he]
  exact h
theorem s_skip (w' : World) (hw : Region.wanted o (yielded ops a.tmps) = true) (he : (execOp a.eval o).run P w = .ok .skip w') (h : K (a.put o.dst undef) w') : stepC P ops o a K w := by
  unfold stepC
  rw [if_pos hw, he]
  exact h
theorem s_assign (x : Operand) (ho : o.op = .assign x) (hw : Region.wanted o (yielded ops a.tmps) = true) (v : Value) (hv : a.eval x = v) (h : K (a.put o.dst v) w) : stepC P ops o a K w := by
  subst hv
  unfold stepC
  rw [if_pos hw]
  unfold execOp
  simp only [ho, Sem.run_pure]
  exact h
theorem s_read (v : Value) (hw : Region.wanted o (yielded ops a.tmps) = true) (he : ∀ w, C w → (execOp a.eval o).run P w = .ok (.value v) w) : PureIn P ops C o v a := .inl ⟨hw, fun w h => .inl (he w h)⟩
end
end Go.Proofs.YtgmokojdlbdjeaaGreatDoor
