/-
  A REGION THAT DRAWS ITS ORDER: as region_treeP, where up to three operations may be ready at a time.
-/
import Derived.Test.YtgmokojdlbdjeaaGreatDoorRegP
namespace Go.Proofs.YtgmokojdlbdjeaaGreatDoor.RP
open Go.RowKit
open Go
inductive O3 where
  | nil
  | one (k : Nat) (t : O3)
  | two (k : Nat) (t : O3) (k' : Nat) (t' : O3)
  | three (k : Nat) (t : O3) (k' : Nat) (t' : O3) (k'' : Nat) (t'' : O3)
def O3.size : O3 → Nat
  | .nil => 0
  | .one _ t => t.size + 1
  | .two _ t _ _ => t.size + 1
  | .three _ t _ _ _ _ => t.size + 1
section
variable {md : Region.Mode} {P : Program} {X : List PanicEntry → List Deferred → World → Prop} {C : World → Prop} {L : Act → World → Prop} {z : Nat}
def tri (P : Program) (X : List PanicEntry → List Deferred → World → Prop) (l : List Oper) (C : World → Prop) (L : Act → World → Prop) (z : Nat) : O3 → Act → World → Prop
  | .nil, a, w => C w ∧ atOp l z fun o => stepC P X l.toArray o a L w
  | .one k t, a, w => C w ∧ atOp l k fun o => stepC P X l.toArray o a (tri P X l C L z t) w
  | .two k t k' t', a, w => C w ∧ (atOp l k fun o => stepC P X l.toArray o a (tri P X l C L z t) w) ∧ atOp l k' fun o => stepC P X l.toArray o a (tri P X l C L z t') w
  | .three k t k' t' k'' t'', a, w => C w ∧ (atOp l k fun o => stepC P X l.toArray o a (tri P X l C L z t) w) ∧ (atOp l k' fun o => stepC P X l.toArray o a (tri P X l C L z t') w) ∧ atOp l k'' fun o => stepC P X l.toArray o a (tri P X l C L z t'') w
def triB (md : Region.Mode) (ops : Array Oper) (z : Nat) : O3 → Array Bool → Bool
  | .nil, listed => decide (Region.ready md ops listed = [z]) && decide (Region.ready md ops (listed.setIfInBounds z true) = [])
  | .one k t, listed => decide (Region.ready md ops listed = [k]) && triB md ops z t (listed.setIfInBounds k true)
  | .two k t k' t', listed => ((Region.ready md ops listed).all fun i => i == k || i == k') && !(Region.ready md ops listed).isEmpty && decide (t.size = t'.size) && triB md ops z t (listed.setIfInBounds k true) && triB md ops z t' (listed.setIfInBounds k' true)
  | .three k t k' t' k'' t'', listed => ((Region.ready md ops listed).all fun i => i == k || i == k' || i == k'') && !(Region.ready md ops listed).isEmpty && decide (t.size = t'.size) && decide (t.size = t''.size) && triB md ops z t (listed.setIfInBounds k true) && triB md ops z t' (listed.setIfInBounds k' true) && triB md ops z t'' (listed.setIfInBounds k'' true)
theorem anyC_tri {l : List Oper} (hlast : lastB md l.toArray z = true) (hs : Region.noSelect l.toArray = true) : ∀ (t : O3) (listed : Array Bool) (a : Act) (w : World), triB md l.toArray z t listed = true → tri P X l C L z t a w → anyC P X md l.toArray C L z t.size listed a w
  | .nil, listed, a, w, hB, h => by
    simp only [triB, Bool.and_eq_true, decide_eq_true_eq] at hB
    obtain ⟨o, ho, hp⟩ := atOp_some' h.2
    exact ⟨h.1, hB.1, hB.2, fun o' ho' => by
      obtain rfl : o' = o := Option.some.inj (ho'.symm.trans (by simpa using ho))
      exact hp⟩
  | .one k t, listed, a, w, hB, h => by
    simp only [triB, Bool.and_eq_true, decide_eq_true_eq] at hB
    obtain ⟨hc, h⟩ := h
    obtain ⟨o, ho, hp⟩ := atOp_some' h
    refine ⟨hc, fun h1 => (by rw [hB.1] at h1; cases h1), fun i hi o' ho' => ?_⟩
    rw [hB.1] at hi
    have hik : i = k := by simpa using hi
    subst hik
    obtain rfl : o' = o := Option.some.inj (ho'.symm.trans (by simpa using ho))
    exact stepC_mono (fun a' w' h' => anyC_tri hlast hs t _ a' w' hB.2 h') hp
  | .two k t k' t', listed, a, w, hB, h => by
    simp only [triB, Bool.and_eq_true, List.all_eq_true, Bool.or_eq_true, beq_iff_eq, decide_eq_true_eq] at hB
    obtain ⟨⟨⟨⟨hr, hne⟩, hsz⟩, hB1⟩, hB2⟩ := hB
    obtain ⟨hc, h, h'⟩ := h
    obtain ⟨o1, ho1, hp1⟩ := atOp_some' h
    obtain ⟨o2, ho2, hp2⟩ := atOp_some' h'
    refine ⟨hc, fun h1 => (by rw [h1] at hne; simp at hne), fun i hi o' ho' => ?_⟩
    rcases hr i hi with hik | hik
    · subst hik
      obtain rfl : o' = o1 := Option.some.inj (ho'.symm.trans (by simpa using ho1))
      exact stepC_mono (fun a' w' h' => anyC_tri hlast hs t _ a' w' hB1 h') hp1
    · subst hik
      obtain rfl : o' = o2 := Option.some.inj (ho'.symm.trans (by simpa using ho2))
      refine stepC_mono (fun a' w' h' => ?_) hp2
      have := anyC_tri hlast hs t' (listed.setIfInBounds i true) a' w' hB2 h'
      rwa [← hsz] at this
  | .three k t k' t' k'' t'', listed, a, w, hB, h => by
    simp only [triB, Bool.and_eq_true, List.all_eq_true, Bool.or_eq_true, beq_iff_eq, decide_eq_true_eq] at hB
    obtain ⟨⟨⟨⟨⟨⟨hr, hne⟩, hsz⟩, hsz2⟩, hB1⟩, hB2⟩, hB3⟩ := hB
    obtain ⟨hc, h, h', h''⟩ := h
    obtain ⟨o1, ho1, hp1⟩ := atOp_some' h
    obtain ⟨o2, ho2, hp2⟩ := atOp_some' h'
    obtain ⟨o3, ho3, hp3⟩ := atOp_some' h''
    refine ⟨hc, fun h1 => (by rw [h1] at hne; simp at hne), fun i hi o' ho' => ?_⟩
    rcases hr i hi with (hik | hik) | hik
    · subst hik
      obtain rfl : o' = o1 := Option.some.inj (ho'.symm.trans (by simpa using ho1))
      exact stepC_mono (fun a' w' h' => anyC_tri hlast hs t _ a' w' hB1 h') hp1
    · subst hik
      obtain rfl : o' = o2 := Option.some.inj (ho'.symm.trans (by simpa using ho2))
      refine stepC_mono (fun a' w' h' => ?_) hp2
      have := anyC_tri hlast hs t' (listed.setIfInBounds i true) a' w' hB2 h'
      rwa [← hsz] at this
    · subst hik
      obtain rfl : o' = o3 := Option.some.inj (ho'.symm.trans (by simpa using ho3))
      refine stepC_mono (fun a' w' h' => ?_) hp3
      have := anyC_tri hlast hs t'' (listed.setIfInBounds i true) a' w' hB3 h'
      rwa [← hsz2] at this
def triFZ (md : Region.Mode) (ops : Array Oper) (is : List Nat) (t : O3) (z : Nat) : Bool :=
  Region.noSelect ops && inL' ops.size is && decide (is.length + t.size + 1 = ops.size) && lastB md ops z && lexK md ops (triB md ops z t) is (Array.replicate ops.size false)
/-- THE REGION: the reads is, the tree t, at last z; a call that panics leaves by X. -/
theorem region_tri {id : Nat} {Q : Exit → Act → World → Prop} {a : Act} {w : World} {l : List Oper} (X : List PanicEntry → List Deferred → World → Prop) (is : List Nat) (t : O3) (z : Nat) (hX : ∀ ch a w, X ch a.defers w → Q (.panic ch) a w) (hm : P.follows .mixedOrders = true) (hB : triFZ .any l.toArray is t z = true) (hC : C { w with drawn := w.drawn + 1 })
    (h : wpQuiet P l.toArray C (fun a' => tri P X l C (fun a w => Q .normal a w) z t a' { w with drawn := w.drawn + 1 }) (pickL l is) a) : (Code.region id l.toArray true).wp P Q a w := by
  simp only [triFZ, Bool.and_eq_true, decide_eq_true_eq] at hB
  obtain ⟨⟨⟨⟨hsel, his⟩, hlen⟩, hlast⟩, hlex⟩ := hB
  refine wp_region_any hm ?_
  have H := anyC_lexK (P := P) (X := X) (C := C) (md := .any) (L := fun a w => Q .normal a w) (f := t.size) (B := triB .any l.toArray z t) (K := fun a' w' => tri P X l C (fun a w => Q .normal a w) z t a' w') hlast hsel (fun listed a w hb _ hk => anyC_tri hlast hsel t listed a w hb hk) is _ a _ his hlex hC h
  have H2 := anyC_wpAny (fun _ _ h => h) hX _ _ _ _ H
  rwa [hlen] at H2
end
end Go.Proofs.YtgmokojdlbdjeaaGreatDoor.RP
