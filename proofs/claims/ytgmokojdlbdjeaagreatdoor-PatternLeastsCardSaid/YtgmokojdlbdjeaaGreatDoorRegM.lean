/-
  XRegL's region law, with the chain in the very world in which the region begins.
-/
import Derived.Test.YtgmokojdlbdjeaaGreatDoorRegL
namespace Go.Proofs.YtgmokojdlbdjeaaGreatDoor
open Go.RowKit
open Go
section
variable {P : Program} {ops : Array Oper} {md : Region.Mode} {C : World → Prop} {L : Act → World → Prop}
theorem anyD_lexD1 {js : List Nat} {m : Nat} (hsel : Region.noSelect ops = true) (hjs : inL' ops.size js = true) :
    ∀ (is : List Nat) (listed : Array Bool) (a : Act) (w : World), inL' ops.size is = true → lexD md ops m js is listed = true → C w →
      wpQuiet P ops C (fun a' => plainD P ops C L (pickL ops.toList js) a' w) (pickL ops.toList is) a → anyD P md ops C L (is.length + js.length) listed a w
  | [], listed, a, w, _, hx, hw, h => by
    rw [List.length_nil, Nat.zero_add]
    exact anyD_seqD js _ _ _ hjs (by simpa [lexD] using hx) h
  | k :: is, listed, a, w, hl, hx, hw, h => by
    simp only [inL', List.all_cons, Bool.and_eq_true, decide_eq_true_eq] at hl
    have h0 : ops[k]? = some ops[k] := Array.getElem?_eq_getElem hl.1
    have h0' : ops.toList[k]? = some ops[k] := by rw [Array.getElem?_toList, h0]
    simp only [lexD, Bool.and_eq_true, h0, Option.map_some, Option.getD_some, Bool.not_eq_true'] at hx
    obtain ⟨⟨⟨⟨⟨hr, hf⟩, hro⟩, hbe⟩, hlm⟩, hx'⟩ := hx
    simp only [pickL, h0'] at h
    have hr' : k ∈ Region.ready md ops listed := by simpa using hr
    have hst : qOp P ops C k (wpQuiet P ops C (fun a' => plainD P ops C L (pickL ops.toList js) a' w) (pickL ops.toList is)) a := by unfold qOp; simp only [h0]; exact h
    obtain ⟨v, hy, hK⟩ := yieldsIn_of_qOp h0 hst
    have hp : PureIn P ops C ops[k] v a := by
      rcases hy with ⟨h1, h2⟩ | ⟨h1, h2⟩
      · exact .inl ⟨h1, fun w hw => pure_of_quiet hro (h2 w hw)⟩
      · exact .inr ⟨h1, h2⟩
    have e : (k :: is).length + js.length = (is.length + js.length) + 1 := by simp only [List.length_cons]; omega
    rw [e]
    exact anyD_first h0 (Region.noSelect_spec hsel) hbe (is.length + js.length) listed a w hlm (Region.free_spec h0 hf) hr' hp (anyD_lexD1 hsel hjs is _ _ w hl.2 hx' hw hK)
/-- THE REGION: the reads at the places is, the chain at the places js, whose last operation is m. -/
theorem region_last1 {id : Nat} {Q : Exit → Act → World → Prop} {a : Act} {w : World} {l : List Oper} (is js : List Nat) (m : Nat) (hm : P.follows .mixedOrders = true) (hB : lexDB .any l.toArray is js m = true) (hC : C { w with drawn := w.drawn + 1 })
    (h : wpQuiet P l.toArray C (fun a' => plainD P l.toArray C (fun a w => Q .normal a w) (pickL l js) a' { w with drawn := w.drawn + 1 }) (pickL l is) a) : (Code.region id l.toArray true).wp P Q a w := by
  simp only [lexDB, Bool.and_eq_true, decide_eq_true_eq] at hB
  obtain ⟨⟨⟨⟨hsel, his⟩, hjs⟩, hlen⟩, hlex⟩ := hB
  refine wp_region_any hm ?_
  have H := anyD_lexD1 (P := P) (C := C) (L := fun a w => Q .normal a w) hsel hjs is _ a _ his hlex hC h
  rw [hlen] at H
  exact anyD_wpAny (fun _ _ h => h) _ _ _ _ H
end
end Go.Proofs.YtgmokojdlbdjeaaGreatDoor
