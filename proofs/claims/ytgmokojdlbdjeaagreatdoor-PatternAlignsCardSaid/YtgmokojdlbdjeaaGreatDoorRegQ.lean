/-
  A REGION THAT DRAWS ITS ORDER, IN SEGMENTS: reads that may be taken first (walked as a quiet region is), then an operation that alone is ready, then reads again, and so on; at last one operation. As region_treeP.
-/
import Derived.Test.YtgmokojdlbdjeaaGreatDoorRegP
namespace Go.Proofs.YtgmokojdlbdjeaaGreatDoor.RP
open Go.RowKit
open Go
inductive Seg where
  | reads (is : List Nat)
  | one (k : Nat)
def segsLen : List Seg → Nat
  | [] => 0
  | .reads is :: ss => is.length + segsLen ss
  | .one _ :: ss => segsLen ss + 1
section
variable {md : Region.Mode} {P : Program} {X : List PanicEntry → List Deferred → World → Prop} {C : World → Prop} {L : Act → World → Prop} {z : Nat}
def segS (P : Program) (X : List PanicEntry → List Deferred → World → Prop) (l : List Oper) (C : World → Prop) (L : Act → World → Prop) (z : Nat) : List Seg → Act → World → Prop
  | [], a, w => C w ∧ atOp l z fun o => stepC P X l.toArray o a L w
  | .reads is :: ss, a, w => C w ∧ wpQuiet P l.toArray C (fun a' => segS P X l C L z ss a' w) (pickL l is) a
  | .one k :: ss, a, w => C w ∧ atOp l k fun o => stepC P X l.toArray o a (segS P X l C L z ss) w
def segB (md : Region.Mode) (ops : Array Oper) (z : Nat) : List Seg → Array Bool → Bool
  | [], listed => decide (Region.ready md ops listed = [z]) && decide (Region.ready md ops (listed.setIfInBounds z true) = [])
  | .reads is :: ss, listed => inL' ops.size is && lexK md ops (segB md ops z ss) is listed
  | .one k :: ss, listed => decide (Region.ready md ops listed = [k]) && segB md ops z ss (listed.setIfInBounds k true)
theorem anyC_seg {l : List Oper} (hlast : lastB md l.toArray z = true) (hs : Region.noSelect l.toArray = true) : ∀ (ss : List Seg) (listed : Array Bool) (a : Act) (w : World), segB md l.toArray z ss listed = true → segS P X l C L z ss a w → anyC P X md l.toArray C L z (segsLen ss) listed a w
  | [], listed, a, w, hB, h => by
    simp only [segB, Bool.and_eq_true, decide_eq_true_eq] at hB
    obtain ⟨o, ho, hp⟩ := atOp_some' h.2
    exact ⟨h.1, hB.1, hB.2, fun o' ho' => by
      obtain rfl : o' = o := Option.some.inj (ho'.symm.trans (by simpa using ho))
      exact hp⟩
  | .reads is :: ss, listed, a, w, hB, h => by
    simp only [segB, Bool.and_eq_true] at hB
    exact anyC_lexK (B := segB md l.toArray z ss) (K := fun a' w' => segS P X l C L z ss a' w') (f := segsLen ss) hlast hs (fun listed a w hb _ hk => anyC_seg hlast hs ss listed a w hb hk) is listed a w hB.1 hB.2 h.1 h.2
  | .one k :: ss, listed, a, w, hB, h => by
    simp only [segB, Bool.and_eq_true, decide_eq_true_eq] at hB
    obtain ⟨hc, h⟩ := h
    obtain ⟨o, ho, hp⟩ := atOp_some' h
    refine ⟨hc, fun h1 => (by rw [hB.1] at h1; cases h1), fun i hi o' ho' => ?_⟩
    rw [hB.1] at hi
    have hik : i = k := by simpa using hi
    subst hik
    obtain rfl : o' = o := Option.some.inj (ho'.symm.trans (by simpa using ho))
    exact stepC_mono (fun a' w' h' => anyC_seg hlast hs ss _ a' w' hB.2 h') hp
def segFB (md : Region.Mode) (ops : Array Oper) (ss : List Seg) (z : Nat) : Bool :=
  Region.noSelect ops && decide (segsLen ss + 1 = ops.size) && lastB md ops z && segB md ops z ss (Array.replicate ops.size false)
/-- THE REGION: the segments ss, at last z; a call that panics leaves by X. -/
theorem region_seg {id : Nat} {Q : Exit → Act → World → Prop} {a : Act} {w : World} {l : List Oper} (X : List PanicEntry → List Deferred → World → Prop) (ss : List Seg) (z : Nat) (hX : ∀ ch a w, X ch a.defers w → Q (.panic ch) a w) (hm : P.follows .mixedOrders = true) (hB : segFB .any l.toArray ss z = true)
    (h : segS P X l C (fun a w => Q .normal a w) z ss a { w with drawn := w.drawn + 1 }) : (Code.region id l.toArray true).wp P Q a w := by
  simp only [segFB, Bool.and_eq_true, decide_eq_true_eq] at hB
  obtain ⟨⟨⟨hsel, hlen⟩, hlast⟩, hseg⟩ := hB
  refine wp_region_any hm ?_
  have H := anyC_seg (P := P) (X := X) (C := C) (md := .any) (L := fun a w => Q .normal a w) hlast hsel ss _ a _ hseg h
  have H2 := anyC_wpAny (fun _ _ h => h) hX _ _ _ _ H
  rwa [hlen] at H2
end
end Go.Proofs.YtgmokojdlbdjeaaGreatDoor.RP
