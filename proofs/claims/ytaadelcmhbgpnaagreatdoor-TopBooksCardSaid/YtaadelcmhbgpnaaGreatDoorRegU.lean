/-
  A REGION THAT DRAWS ITS ORDER: as region_treeP, where slices and structs that are built count as reads.
-/
import Derived.Test.YtaadelcmhbgpnaaGreatDoorRegP
namespace Go.Proofs.YtaadelcmhbgpnaaGreatDoor.RP
open Go.RowKit
open Go
section
variable {P : Program} {ops : Array Oper} {md : Region.Mode} {C : World → Prop} {L : Act → World → Prop} {X : List PanicEntry → List Deferred → World → Prop} {z : Nat}
def readsOnlyS (o : Oper) : Bool := match o.op with | .move _ | .assign _ | .load .. | .fieldAddr .. | .indexAddr .. | .binOp .. | .pick .. | .extract .. | .slice .. | .build .. => true | _ => false
theorem pure_of_quietS {o : Oper} {a : Act} {v : Value} (hr : readsOnlyS o = true) {w : World} (h : o.quietAt P a C w v) : (execOp a.eval o).run P w = .ok (.value v) w ∨ ((execOp a.eval o).run P w = .ok .skip w ∧ v = undef) := by
  unfold Oper.quietAt at h
  have hne : ∀ f args w', (execOp a.eval o).run P w ≠ .ok (.enter f args) w' := by
    intro f args w' he
    unfold readsOnlyS at hr
    unfold execOp at he
    cases hop : o.op <;> rw [hop] at hr <;> simp only [Bool.false_eq_true] at hr <;> simp only [hop, Sem.run_bind, Sem.run_pure] at he <;> first | (cases he) | (revert he; generalize Sem.run P _ w = r; cases r <;> simp [Result.andThen] <;> (split <;> simp))
  generalize (execOp a.eval o).run P w = r at h hne
  cases r with
  | ok n w' =>
    cases n <;> simp only [Oper.quietUpon] at h
    case value u => obtain ⟨rfl, rfl⟩ := h; exact .inl rfl
    case skip => obtain ⟨rfl, rfl⟩ := h; exact .inr ⟨rfl, rfl⟩
    case enter f args => exact absurd rfl (hne f args w')
  | halt x w' => simp only [Oper.quietUpon] at h
def lexKS (md : Region.Mode) (ops : Array Oper) (K : Array Bool → Bool) : List Nat → Array Bool → Bool
  | [], listed => K listed
  | k :: is, listed => (Region.ready md ops listed).contains k && Region.free md ops listed k && ((ops[k]?).map readsOnlyS).getD false && lexKS md ops K is (listed.setIfInBounds k true)
theorem anyC_lexKS {l : List Oper} {f : Nat} {B : Array Bool → Bool} {K : Act → World → Prop} (hlast : lastB md l.toArray z = true) (hsel : Region.noSelect l.toArray = true) (hK : ∀ listed a w, B listed = true → C w → K a w → anyC P X md l.toArray C L z f listed a w) :
    ∀ (is : List Nat) (listed : Array Bool) (a : Act) (w : World), inL' l.toArray.size is = true → lexKS md l.toArray B is listed = true → C w →
      wpQuiet P l.toArray C (fun a' => K a' w) (pickL l is) a → anyC P X md l.toArray C L z (is.length + f) listed a w
  | [], listed, a, w, _, hx, hw, h => by
    rw [List.length_nil, Nat.zero_add]
    exact hK _ _ _ hx hw h
  | k :: is, listed, a, w, hl, hx, hw, h => by
    simp only [inL', List.all_cons, Bool.and_eq_true, decide_eq_true_eq] at hl
    have h0 : l.toArray[k]? = some l.toArray[k] := Array.getElem?_eq_getElem hl.1
    have h0' : l[k]? = some l.toArray[k] := by rw [← h0]; simp
    simp only [lexKS, Bool.and_eq_true, h0, Option.map_some, Option.getD_some] at hx
    obtain ⟨⟨⟨hr, hf⟩, hro⟩, hx'⟩ := hx
    simp only [pickL, h0'] at h
    have hr' : k ∈ Region.ready md l.toArray listed := by simpa using hr
    have hst : qOp P l.toArray C k (wpQuiet P l.toArray C (fun a' => K a' w) (pickL l is)) a := by unfold qOp; simp only [h0]; exact h
    obtain ⟨v, hy, hK'⟩ := yieldsIn_of_qOp h0 hst
    have hp : PureIn P l.toArray C l.toArray[k] v a := by
      rcases hy with ⟨h1, h2⟩ | ⟨h1, h2⟩
      · exact .inl ⟨h1, fun w hw => pure_of_quietS hro (h2 w hw)⟩
      · exact .inr ⟨h1, h2⟩
    have e : (k :: is).length + f = (is.length + f) + 1 := by simp only [List.length_cons]; omega
    rw [e]
    exact anyC_first hlast h0 (Region.noSelect_spec hsel) (is.length + f) listed a w (Region.free_spec h0 hf) hr' hp (anyC_lexKS hlast hsel hK is _ _ w hl.2 hx' hw hK')
def treeFZS (md : Region.Mode) (ops : Array Oper) (is : List Nat) (t : OT) (z : Nat) : Bool :=
  Region.noSelect ops && inL' ops.size is && decide (is.length + t.size + 1 = ops.size) && lastB md ops z && lexKS md ops (treeZ md ops z t) is (Array.replicate ops.size false)
/-- THE REGION: the reads is, the tree t, at last z; a call that panics leaves by X. -/
theorem region_treePS {id : Nat} {Q : Exit → Act → World → Prop} {a : Act} {w : World} {l : List Oper} (X : List PanicEntry → List Deferred → World → Prop) (is : List Nat) (t : OT) (z : Nat) (hX : ∀ ch a w, X ch a.defers w → Q (.panic ch) a w) (hm : P.follows .mixedOrders = true) (hB : treeFZS .any l.toArray is t z = true) (hC : C { w with drawn := w.drawn + 1 })
    (h : wpQuiet P l.toArray C (fun a' => treeS P X l C (fun a w => Q .normal a w) z t a' { w with drawn := w.drawn + 1 }) (pickL l is) a) : (Code.region id l.toArray true).wp P Q a w := by
  simp only [treeFZS, Bool.and_eq_true, decide_eq_true_eq] at hB
  obtain ⟨⟨⟨⟨hsel, his⟩, hlen⟩, hlast⟩, hlex⟩ := hB
  refine wp_region_any hm ?_
  have H := anyC_lexKS (P := P) (X := X) (C := C) (md := .any) (L := fun a w => Q .normal a w) (f := t.size) (B := treeZ .any l.toArray z t) (K := fun a' w' => treeS P X l C (fun a w => Q .normal a w) z t a' w') hlast hsel (fun listed a w hb _ hk => anyC_tree hlast hsel t listed a w hb hk) is _ a _ his hlex hC h
  have H2 := anyC_wpAny (fun _ _ h => h) hX _ _ _ _ H
  rwa [hlen] at H2
end
end Go.Proofs.YtaadelcmhbgpnaaGreatDoor.RP
