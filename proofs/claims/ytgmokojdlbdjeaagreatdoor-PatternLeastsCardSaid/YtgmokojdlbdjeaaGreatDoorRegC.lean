/-
  A REGION THAT DRAWS ITS ORDER: reads at given places, which may be taken first, and a forced chain of all the other operations.
-/
import Derived.Test.YtgmokojdlbdjeaaGreatDoorRegB
namespace Go.Proofs.YtgmokojdlbdjeaaGreatDoor
open Go.RowKit
open Go
section
variable {P : Program} {ops : Array Oper} {md : Region.Mode} {C : World → Prop} {L : Act → World → Prop}
def seqL (md : Region.Mode) (ops : Array Oper) : List Nat → Array Bool → Bool
  | [], listed => decide (Region.ready md ops listed = [])
  | j :: js, listed => decide (Region.ready md ops listed = [j]) && seqL md ops js (listed.setIfInBounds j true)
def pickL (l : List Oper) : List Nat → List Oper
  | [] => []
  | i :: r => match l[i]? with | some o => o :: pickL l r | none => pickL l r
def inL' (n : Nat) (is : List Nat) : Bool := is.all fun i => decide (i < n)
theorem anyC_seqL : ∀ (js : List Nat) (listed : Array Bool) (a : Act) (w : World), inL' ops.size js = true → seqL md ops js listed = true → plainList P ops C L (pickL ops.toList js) a w → anyC P md ops C L js.length listed a w
  | [], _, _, _, _, hB, h => ⟨h.1, by simpa [seqL] using hB, h.2⟩
  | j :: js, listed, a, w, hl, hB, h => by
    simp only [inL', List.all_cons, Bool.and_eq_true, decide_eq_true_eq] at hl
    have h0 : ops[j]? = some ops[j] := Array.getElem?_eq_getElem hl.1
    have h0' : ops.toList[j]? = some ops[j] := by rw [Array.getElem?_toList, h0]
    simp only [seqL, Bool.and_eq_true, decide_eq_true_eq] at hB
    simp only [pickL, h0'] at h
    refine ⟨h.1, fun h1 => (by rw [hB.1] at h1; cases h1), fun i hi o' ho' => ?_⟩
    rw [hB.1] at hi
    have hik : i = j := by simpa using hi
    subst hik
    have : o' = ops[i] := Option.some.inj (ho'.symm.trans h0)
    subst this
    exact stepC_mono (fun a' w' h' => anyC_seqL js _ a' w' hl.2 hB.2 h') h.2
def lexL (md : Region.Mode) (ops : Array Oper) (js : List Nat) : List Nat → Array Bool → Bool
  | [], listed => seqL md ops js listed
  | k :: is, listed => (Region.ready md ops listed).contains k && Region.free md ops listed k && ((ops[k]?).map readsOnly).getD false && lexL md ops js is (listed.setIfInBounds k true)
def lexLB (md : Region.Mode) (ops : Array Oper) (is js : List Nat) : Bool := Region.noSelect ops && inL' ops.size is && inL' ops.size js && decide (is.length + js.length = ops.size) && lexL md ops js is (Array.replicate ops.size false)
theorem anyC_lexL {js : List Nat} (hsel : Region.noSelect ops = true) (hjs : inL' ops.size js = true) :
    ∀ (is : List Nat) (listed : Array Bool) (a : Act) (w : World), inL' ops.size is = true → lexL md ops js is listed = true → C w →
      wpQuiet P ops C (fun a' => ∀ w', C w' → plainList P ops C L (pickL ops.toList js) a' w') (pickL ops.toList is) a → anyC P md ops C L (is.length + js.length) listed a w
  | [], listed, a, w, _, hx, hw, h => by
    rw [List.length_nil, Nat.zero_add]
    exact anyC_seqL js _ _ _ hjs (by simpa [lexL] using hx) (h w hw)
  | k :: is, listed, a, w, hl, hx, hw, h => by
    simp only [inL', List.all_cons, Bool.and_eq_true, decide_eq_true_eq] at hl
    have h0 : ops[k]? = some ops[k] := Array.getElem?_eq_getElem hl.1
    have h0' : ops.toList[k]? = some ops[k] := by rw [Array.getElem?_toList, h0]
    simp only [lexL, Bool.and_eq_true, h0, Option.map_some, Option.getD_some] at hx
    obtain ⟨⟨⟨hr, hf⟩, hro⟩, hx'⟩ := hx
    simp only [pickL, h0'] at h
    have hr' : k ∈ Region.ready md ops listed := by simpa using hr
    have hst : qOp P ops C k (wpQuiet P ops C (fun a' => ∀ w', C w' → plainList P ops C L (pickL ops.toList js) a' w') (pickL ops.toList is)) a := by unfold qOp; simp only [h0]; exact h
    obtain ⟨v, hy, hK⟩ := yieldsIn_of_qOp h0 hst
    have hp : PureIn P ops C ops[k] v a := by
      rcases hy with ⟨h1, h2⟩ | ⟨h1, h2⟩
      · exact .inl ⟨h1, fun w hw => pure_of_quiet hro (h2 w hw)⟩
      · exact .inr ⟨h1, h2⟩
    have e : (k :: is).length + js.length = (is.length + js.length) + 1 := by simp only [List.length_cons]; omega
    rw [e]
    exact anyC_first h0 (Region.noSelect_spec hsel) (is.length + js.length) listed a w (Region.free_spec h0 hf) hr' hp (anyC_lexL hsel hjs is _ _ w hl.2 hx' hw hK)
/-- THE REGION: the reads at the places is, the chain at the places js. -/
theorem region_pick {id : Nat} {Q : Exit → Act → World → Prop} {a : Act} {w : World} {l : List Oper} (is js : List Nat) (hm : P.follows .mixedOrders = true) (hB : lexLB .any l.toArray is js = true) (hC : C { w with drawn := w.drawn + 1 })
    (h : wpQuiet P l.toArray C (fun a' => ∀ w', C w' → plainList P l.toArray C (fun a w => Q .normal a w) (pickL l js) a' w') (pickL l is) a) : (Code.region id l.toArray true).wp P Q a w := by
  simp only [lexLB, Bool.and_eq_true, decide_eq_true_eq] at hB
  obtain ⟨⟨⟨⟨hsel, his⟩, hjs⟩, hlen⟩, hlex⟩ := hB
  refine wp_region_any hm ?_
  have H := anyC_lexL (P := P) (C := C) (L := fun a w => Q .normal a w) hsel hjs is _ a _ his hlex hC h
  rw [hlen] at H
  exact anyC_wpAny (fun _ _ h => h) _ _ _ _ H
end
end Go.Proofs.YtgmokojdlbdjeaaGreatDoor
