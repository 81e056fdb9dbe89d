/-
  A REGION THAT DRAWS ITS ORDER, BY A SCRIPT: reads at given places, which may be taken first; then as the script says: a read that may be taken now; the one operation that is ready; or either of two.
-/
import Derived.Test.YtgmokojdlbdjeaaGreatDoorRegC
namespace Go.Proofs.YtgmokojdlbdjeaaGreatDoor
open Go.RowKit
open Go
inductive Scr where
  | fin
  | read (k : Nat) (s : Scr)
  | op (k : Nat) (s : Scr)
  | both (i : Nat) (s : Scr) (j : Nat) (t : Scr)
section
variable {P : Program} {ops : Array Oper} {md : Region.Mode} {C : World → Prop} {L : Act → World → Prop}
def scrB (md : Region.Mode) (ops : Array Oper) : Scr → Nat → Array Bool → Bool
  | .fin, 0, listed => decide (Region.ready md ops listed = [])
  | .read k s, f + 1, listed => decide (k < ops.size) && (Region.ready md ops listed).contains k && Region.free md ops listed k && scrB md ops s f (listed.setIfInBounds k true)
  | .op k s, f + 1, listed => decide (Region.ready md ops listed = [k]) && scrB md ops s f (listed.setIfInBounds k true)
  | .both i s j t, f + 1, listed => decide (Region.ready md ops listed = [i, j]) && scrB md ops s f (listed.setIfInBounds i true) && scrB md ops t f (listed.setIfInBounds j true)
  | _, _, _ => false
/-- An operation of the list, in a chain. -/
def atOp (l : List Oper) (k : Nat) (p : Oper → Prop) : Prop := match l[k]? with | some o => p o | none => False
def scrS (P : Program) (l : List Oper) (C : World → Prop) (L : Act → World → Prop) : Scr → Act → World → Prop
  | .fin, a, w => C w ∧ L a w
  | .read k s, a, w => atOp l k fun o => ∃ v, PureIn P l.toArray C o v a ∧ scrS P l C L s (a.put o.dst v) w
  | .op k s, a, w => C w ∧ atOp l k fun o => stepC P l.toArray o a (scrS P l C L s) w
  | .both i s j t, a, w => C w ∧ (atOp l i fun o => stepC P l.toArray o a (scrS P l C L s) w) ∧ (atOp l j fun o => stepC P l.toArray o a (scrS P l C L t) w)
theorem atOp_some {l : List Oper} {k : Nat} {p : Oper → Prop} (h : atOp l k p) : ∃ o, l.toArray[k]? = some o ∧ p o := by
  unfold atOp at h
  split at h
  · rename_i o ho
    exact ⟨o, by simpa using ho, h⟩
  · exact absurd h (fun h => h)
theorem anyC_scr {l : List Oper} (hsel : Region.noSelect l.toArray = true) : ∀ (s : Scr) (f : Nat) (listed : Array Bool) (a : Act) (w : World), scrB md l.toArray s f listed = true → scrS P l C L s a w → anyC P md l.toArray C L f listed a w
  | .fin, 0, listed, a, w, hB, h => ⟨h.1, by simpa [scrB] using hB, h.2⟩
  | .fin, f + 1, listed, a, w, hB, _ => by simp [scrB] at hB
  | .read k s, 0, listed, a, w, hB, _ => by simp [scrB] at hB
  | .op k s, 0, listed, a, w, hB, _ => by simp [scrB] at hB
  | .both i s j t, 0, listed, a, w, hB, _ => by simp [scrB] at hB
  | .read k s, f + 1, listed, a, w, hB, h => by
    simp only [scrB, Bool.and_eq_true, decide_eq_true_eq] at hB
    obtain ⟨⟨⟨-, hr⟩, hf⟩, hB'⟩ := hB
    obtain ⟨o, ho, v, hp, hs⟩ := atOp_some h
    have hr' : k ∈ Region.ready md l.toArray listed := by simpa using hr
    exact anyC_first ho (Region.noSelect_spec hsel) f listed a w (Region.free_spec ho hf) hr' hp (anyC_scr hsel s f _ _ w hB' hs)
  | .op k s, f + 1, listed, a, w, hB, h => by
    simp only [scrB, Bool.and_eq_true, decide_eq_true_eq] at hB
    obtain ⟨o, ho, hs⟩ := atOp_some h.2
    refine ⟨h.1, fun h1 => (by rw [hB.1] at h1; cases h1), fun i hi o' ho' => ?_⟩
    rw [hB.1] at hi
    obtain rfl : i = k := by simpa using hi
    obtain rfl : o' = o := Option.some.inj (ho'.symm.trans ho)
    exact stepC_mono (fun a' w' h' => anyC_scr hsel s f _ a' w' hB.2 h') hs
  | .both i s j t, f + 1, listed, a, w, hB, h => by
    simp only [scrB, Bool.and_eq_true, decide_eq_true_eq] at hB
    obtain ⟨o1, ho1, hs1⟩ := atOp_some h.2.1
    obtain ⟨o2, ho2, hs2⟩ := atOp_some h.2.2
    refine ⟨h.1, fun h1 => (by rw [hB.1.1] at h1; cases h1), fun k hk o' ho' => ?_⟩
    rw [hB.1.1] at hk
    have hk' : k = i ∨ k = j := by simpa using hk
    rcases hk' with rfl | rfl
    · obtain rfl : o' = o1 := Option.some.inj (ho'.symm.trans ho1)
      exact stepC_mono (fun a' w' h' => anyC_scr hsel s f _ a' w' hB.1.2 h') hs1
    · obtain rfl : o' = o2 := Option.some.inj (ho'.symm.trans ho2)
      exact stepC_mono (fun a' w' h' => anyC_scr hsel t f _ a' w' hB.2 h') hs2
def lexS (md : Region.Mode) (ops : Array Oper) (s : Scr) (f : Nat) : List Nat → Array Bool → Bool
  | [], listed => scrB md ops s f listed
  | k :: is, listed => (Region.ready md ops listed).contains k && Region.free md ops listed k && ((ops[k]?).map readsOnly).getD false && lexS md ops s f is (listed.setIfInBounds k true)
def lexSB (md : Region.Mode) (ops : Array Oper) (is : List Nat) (s : Scr) : Bool := Region.noSelect ops && inL' ops.size is && decide (is.length ≤ ops.size) && lexS md ops s (ops.size - is.length) is (Array.replicate ops.size false)
theorem anyC_lexS {l : List Oper} {s : Scr} {f : Nat} (hsel : Region.noSelect l.toArray = true) :
    ∀ (is : List Nat) (listed : Array Bool) (a : Act) (w : World), inL' l.toArray.size is = true → lexS md l.toArray s f is listed = true → C w →
      wpQuiet P l.toArray C (fun a' => ∀ w', C w' → scrS P l C L s a' w') (pickL l is) a → anyC P md l.toArray C L (is.length + f) listed a w
  | [], listed, a, w, _, hx, hw, h => by
    rw [List.length_nil, Nat.zero_add]
    exact anyC_scr hsel s f _ _ w (by simpa [lexS] using hx) (h w hw)
  | k :: is, listed, a, w, hl, hx, hw, h => by
    simp only [inL', List.all_cons, Bool.and_eq_true, decide_eq_true_eq] at hl
    have h0 : l.toArray[k]? = some l.toArray[k] := Array.getElem?_eq_getElem hl.1
    have h0' : l[k]? = some l.toArray[k] := by rw [← h0]; simp
    simp only [lexS, Bool.and_eq_true, h0, Option.map_some, Option.getD_some] at hx
    obtain ⟨⟨⟨hr, hf⟩, hro⟩, hx'⟩ := hx
    simp only [pickL, h0'] at h
    have hr' : k ∈ Region.ready md l.toArray listed := by simpa using hr
    have hst : qOp P l.toArray C k (wpQuiet P l.toArray C (fun a' => ∀ w', C w' → scrS P l C L s a' w') (pickL l is)) a := by unfold qOp; simp only [h0]; exact h
    obtain ⟨v, hy, hK⟩ := yieldsIn_of_qOp h0 hst
    have hp : PureIn P l.toArray C l.toArray[k] v a := by
      rcases hy with ⟨h1, h2⟩ | ⟨h1, h2⟩
      · exact .inl ⟨h1, fun w hw => pure_of_quiet hro (h2 w hw)⟩
      · exact .inr ⟨h1, h2⟩
    have e : (k :: is).length + f = (is.length + f) + 1 := by simp only [List.length_cons]; omega
    rw [e]
    exact anyC_first h0 (Region.noSelect_spec hsel) (is.length + f) listed a w (Region.free_spec h0 hf) hr' hp (anyC_lexS hsel is _ _ w hl.2 hx' hw hK)
/-- THE REGION: the reads at the places is, then the script. -/
theorem region_script {id : Nat} {Q : Exit → Act → World → Prop} {a : Act} {w : World} {l : List Oper} (is : List Nat) (s : Scr) (hm : P.follows .mixedOrders = true) (hB : lexSB .any l.toArray is s = true) (hC : C { w with drawn := w.drawn + 1 })
    (h : wpQuiet P l.toArray C (fun a' => ∀ w', C w' → scrS P l C (fun a w => Q .normal a w) s a' w') (pickL l is) a) : (Code.region id l.toArray true).wp P Q a w := by
  simp only [lexSB, Bool.and_eq_true, decide_eq_true_eq] at hB
  obtain ⟨⟨⟨hsel, his⟩, hlen⟩, hlex⟩ := hB
  refine wp_region_any hm ?_
  have H := anyC_lexS (P := P) (C := C) (L := fun a w => Q .normal a w) hsel is _ a _ his hlex hC h
  rw [Nat.add_sub_cancel' hlen] at H
  exact anyC_wpAny (fun _ _ h => h) _ _ _ _ H
/-! What an operation's step asks. -/
section
variable {l : List Oper} {a : Act} {w : World} {K : Act → World → Prop} {o : Oper}
theorem step_call (f : FuncId) (args : Array Value) (hw : Region.wanted o (yielded ops a.tmps) = true) (he : (execOp a.eval o).run P w = .ok (.enter f args) w)
    (h : Calls P f args w fun e w'' => ∃ v, e = .returned v ∧ K (a.put o.dst v) w'') : stepC P ops o a K w := by
  unfold stepC
  rw [if_pos hw, he]
  exact h
theorem step_val (v : Value) (w' : World) (hw : Region.wanted o (yielded ops a.tmps) = true) (he : (execOp a.eval o).run P w = .ok (.value v) w') (h : K (a.put o.dst v) w') : stepC P ops o a K w := by
  unfold stepC
  rw [if_pos hw, he]
  exact h
theorem step_skip (w' : World) (hw : Region.wanted o (yielded ops a.tmps) = true) (he : (execOp a.eval o).run P w = .ok .skip w') (h : K (a.put o.dst undef) w') : stepC P ops o a K w := by
  unfold stepC
  rw [if_pos hw, he]
  exact h
theorem pure_val (v : Value) (hw : Region.wanted o (yielded ops a.tmps) = true) (he : ∀ w, (execOp a.eval o).run P w = .ok (.value v) w) : PureIn P ops C o v a := .inl ⟨hw, fun w _ => .inl (he w)⟩
end
end
end Go.Proofs.YtgmokojdlbdjeaaGreatDoor
