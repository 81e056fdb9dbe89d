/-
  A REGION THAT DRAWS ITS ORDER, IN SEGMENTS: reads that may be taken first (walked as a quiet region is), then an operation that alone is ready, then reads again, and so on; at last one operation. As region_treeP.
-/
import Derived.Test.YtlinldbbhdpgcaaGreatDoorRegP
namespace Go.Proofs.YtlinldbbhdpgcaaGreatDoor.RP
open Go.RowKit
open Go
inductive Seg where
  | reads (is : List Nat)
  | one (k : Nat)
def segsLen : List Seg → Nat
  | [] => 0
  | .reads is :: ss => is.length + segsLen ss
  | .one _ :: ss => segsLen ss + 1
section
variable {md : Region.Mode} {P : Program} {X : List PanicEntry → List Deferred → World → Prop} {C : World → Prop} {L : Act → World → Prop} {z : Nat}
def segS (P : Program) (X : List PanicEntry → List Deferred → World → Prop) (l : List Oper) (C : World → Prop) (L : Act → World → Prop) (z : Nat) : List Seg → Act → World → Prop
  | [], a, w => C w ∧ atOp l z fun o => stepC P X l.toArray o a L w
  | .reads is :: ss, a, w => C w ∧ wpQuiet P l.toArray C (fun a' => segS P X l C L z ss a' w) (pickL l is) a
  | .one k :: ss, a, w => C w ∧ atOp l k fun o => stepC P X l.toArray o a (segS P X l C L z ss) w
def segB (md : Region.Mode) (ops : Array Oper) (z : Nat) : List Seg → Array Bool → Bool
  | [], listed => decide (Region.ready md ops listed = [z]) && decide (Region.ready md ops (listed.setIfInBounds z true) = [])
  | .reads is :: ss, listed => inL' ops.size is && lexK md ops (segB md ops z ss) is listed
  | .one k :: ss, listed => decide (Region.ready md ops listed = [k]) && segB md ops z ss (listed.setIfInBounds k true)
theorem anyC_seg {l : List Oper} (hlast : lastB md l.toArray z = true) (hs : Region.noSelect l.toArray = true) : ∀ (ss : List Seg) (listed : Array Bool) (a : Act) (w : World), segB md l.toArray z ss listed = true → segS P X l C L z ss a w → anyC P X md l.toArray C L z (segsLen ss) listed a w
  | [], listed, a, w, hB, h => by
    simp only [segB, Bool.and_eq_true, decide_eq_true_eq] at hB
    obtain ⟨o, ho, hp⟩ := atOp_some' h.2
    exact ⟨h.1, hB.1, hB.2, fun o' ho' => by
      obtain rfl : o' = o := Option.some.inj (ho'.symm.trans (by simpa using ho))
      exact hp⟩
  | .reads is :: ss, listed, a, w, hB, h => by
    simp only [segB, Bool.and_eq_true] at hB
    exact anyC_lexK (B := segB md l.toArray z ss) (K := fun a' w' => segS P X l C L z ss a' w') (f := segsLen ss) hlast hs (fun listed a w hb _ hk => anyC_seg hlast hs ss listed a w hb hk) is listed a w hB.1 hB.2 h.1 h.2
  | .one k :: ss, listed, a, w, hB, h => by
    simp only [segB, Bool.and_eq_true, decide_eq_true_eq] at hB
    obtain ⟨hc, h⟩ := h
    obtain ⟨o, ho, hp⟩ := atOp_some' h
    refine ⟨hc, fun h1 => (by rw [hB.1] at h1; cases h1), fun i hi o' ho' => ?_⟩
    rw [hB.1] at hi
    have hik : i = k := by simpa using hi
    subst hik
    obtain rfl : o' = o := Option.some.inj (ho'.symm.trans (by simpa using ho))
    exact stepC_mono (fun a' w' h' => anyC_seg hlast hs ss _ a' w' hB.2 h') hp
def segFB (md : Region.Mode) (ops : Array Oper) (ss : List Seg) (z : Nat) : Bool :=
  Region.noSelect ops && decide (segsLen ss + 1 = ops.size) && lastB md ops z && segB md ops z ss (Array.replicate ops.size false)
/-- THE REGION: the segments ss, at last z; a call that panics leaves by X. -/
theorem region_seg {id : Nat} {Q : Exit → Act → World → Prop} {a : Act} {w : World} {l : List Oper} (X : List PanicEntry → List Deferred → World → Prop) (ss : List Seg) (z : Nat) (hX : ∀ ch a w, X ch a.defers w → Q (.panic ch) a w) (hm : P.follows .mixedOrders = true) (hB : segFB .any l.toArray ss z = true)
    (h : segS P X l C (fun a w => Q .normal a w) z ss a { w with drawn := w.drawn + 1 }) : (Code.region id l.toArray true).wp P Q a w := by
  simp only [segFB, Bool.and_eq_true, decide_eq_true_eq] at hB
  obtain ⟨⟨⟨hsel, hlen⟩, hlast⟩, hseg⟩ := hB
  refine wp_region_any hm ?_
  have H := anyC_seg (P := P) (X := X) (C := C) (md := .any) (L := fun a w => Q .normal a w) hlast hsel ss _ a _ hseg h
  have H2 := anyC_wpAny (fun _ _ h => h) hX _ _ _ _ H
  rwa [hlen] at H2
end
end Go.Proofs.YtlinldbbhdpgcaaGreatDoor.RP
/-
  A REGION THAT DRAWS ITS ORDER AND WHOSE LAST OPERATION COMES BEHIND THE READS (not, as in region_treeP, behind every other one by name).
-/
namespace Go.Proofs.YtlinldbbhdpgcaaGreatDoor.RP
open Go.RowKit
open Go
section
variable {P : Program} {ops : Array Oper} {md : Region.Mode} {C : World → Prop} {L : Act → World → Prop} {X : List PanicEntry → List Deferred → World → Prop} {z : Nat}
/-- The operation z comes behind the operation i. -/
def lastOne (md : Region.Mode) (ops : Array Oper) (z i : Nat) : Bool := match ops[z]? with
  | some o => i == z || o.after.any fun e => Region.binds md e && e.on == i
  | none => false
theorem last_one {listed : Array Bool} {i : Nat} (hlast : lastOne md ops z i = true) (hz : z ∈ Region.ready md ops listed) (hne : i ≠ z) : listed.getD i false = true := by
  obtain ⟨_, o, ho, hall⟩ := mem_ready.1 hz
  unfold lastOne at hlast
  rw [ho] at hlast
  simp only [Bool.or_eq_true, beq_iff_eq] at hlast
  have h1 := hlast.resolve_left hne
  rw [Array.any_eq_true'] at h1
  obtain ⟨e, he, h2⟩ := h1
  simp only [Bool.and_eq_true, beq_iff_eq] at h2
  have := hall e he h2.1
  rwa [h2.2] at this
def treads : OT → List Nat
  | .nil => []
  | .read k t => k :: treads t
  | .one _ t => treads t
  | .two _ t _ t' => treads t ++ treads t'
theorem anyC_firstV {i : Nat} {oi : Oper} {v : Value} (hlast : lastOne md ops z i = true) (hi : ops[i]? = some oi) (hsel : ∀ (j : Nat) (o : Oper) cs b, ops[j]? = some o → o.op ≠ .select cs b) :
    ∀ (f : Nat) (listed : Array Bool) (a : Act) (w : World),
      (∀ j oj, ops[j]? = some oj → j ≠ i → listed.getD j true = false → (∀ e ∈ oj.after, Region.binds md e = true → e.on ≠ i) → oi.apart ops oj = true) →
      i ∈ Region.ready md ops listed → PureIn P ops C oi v a →
      anyC P X md ops C L z f (listed.setIfInBounds i true) (a.put oi.dst v) w → anyC P X md ops C L z (f + 1) listed a w := by
  intro f
  induction f with
  | zero =>
    intro listed a w _ hr hy H
    refine ⟨H.1, fun h => (by rw [h] at hr; cases hr), fun j hj o ho => ?_⟩
    rcases Nat.decEq j i with hji | hji
    · have h2 := ready_mono hj hji
      rw [H.2.1] at h2
      have hjz : j = z := by simpa using h2
      subst hjz
      have h3 := last_one hlast hj (Ne.symm hji)
      rw [getD_both (mem_ready.1 hr).1] at h3
      cases h3
    · subst hji
      have : o = oi := Option.some.inj (ho.symm.trans hi)
      subst this
      exact step_pure hy H.1 H
  | succ f ih =>
    intro listed a w hfree hr hy H
    have hun := (mem_ready.1 hr).1
    refine ⟨H.1, fun h => (by rw [h] at hr; cases hr), fun j hj o ho => ?_⟩
    rcases Nat.decEq j i with hji | hji
    · have h1 := H.2.2 j (ready_mono hj hji) o ho
      obtain ⟨hjun, oj, hoj, hall⟩ := mem_ready.1 hj
      have : o = oj := Option.some.inj (ho.symm.trans hoj)
      subst this
      have hnot : ∀ e ∈ o.after, Region.binds md e = true → e.on ≠ i := by
        intro e he hb heq
        have h2 := hall e he hb
        rw [heq, getD_both hun] at h2
        cases h2
      have h2 := stepC_put (hfree j o ho hji hjun hnot) (fun cs b => hsel i oi cs b hi) (fun cs b => hsel j o cs b ho) hy h1
      refine stepC_mono (fun a' w' h3 => ih (listed.setIfInBounds j true) a' w' ?_ (ready_mono hr (Ne.symm hji)) h3.1 ?_) h2
      · intro k ok hk hki hun' hno
        refine hfree k ok hk hki ?_ hno
        rcases Nat.decEq j k with hjk | hjk
        · rw [getD_set_ne true hjk] at hun'; exact hun'
        · subst hjk; exact hjun
      · rw [Array.setIfInBounds_comm _ _ hji]
        exact h3.2
    · subst hji
      have : o = oi := Option.some.inj (ho.symm.trans hi)
      subst this
      exact step_pure hy H.1 H
theorem anyC_lexKV {l : List Oper} {f : Nat} {B : Array Bool → Bool} {K : Act → World → Prop} (hsel : Region.noSelect l.toArray = true) (hK : ∀ listed a w, B listed = true → C w → K a w → anyC P X md l.toArray C L z f listed a w) :
    ∀ (is : List Nat) (_ : ∀ i ∈ is, lastOne md l.toArray z i = true) (listed : Array Bool) (a : Act) (w : World), inL' l.toArray.size is = true → lexK md l.toArray B is listed = true → C w →
      wpQuiet P l.toArray C (fun a' => K a' w) (pickL l is) a → anyC P X md l.toArray C L z (is.length + f) listed a w
  | [], _, listed, a, w, _, hx, hw, h => by
    rw [List.length_nil, Nat.zero_add]
    exact hK _ _ _ hx hw h
  | k :: is, hlast, listed, a, w, hl, hx, hw, h => by
    simp only [inL', List.all_cons, Bool.and_eq_true, decide_eq_true_eq] at hl
    have h0 : l.toArray[k]? = some l.toArray[k] := Array.getElem?_eq_getElem hl.1
    have h0' : l[k]? = some l.toArray[k] := by rw [← h0]; simp
    simp only [lexK, Bool.and_eq_true, h0, Option.map_some, Option.getD_some] at hx
    obtain ⟨⟨⟨hr, hf⟩, hro⟩, hx'⟩ := hx
    simp only [pickL, h0'] at h
    have hr' : k ∈ Region.ready md l.toArray listed := by simpa using hr
    have hst : qOp P l.toArray C k (wpQuiet P l.toArray C (fun a' => K a' w) (pickL l is)) a := by unfold qOp; simp only [h0]; exact h
    obtain ⟨v, hy, hK'⟩ := yieldsIn_of_qOp h0 hst
    have hp : PureIn P l.toArray C l.toArray[k] v a := by
      rcases hy with ⟨h1, h2⟩ | ⟨h1, h2⟩
      · exact .inl ⟨h1, fun w hw => pure_of_quiet hro (h2 w hw)⟩
      · exact .inr ⟨h1, h2⟩
    have e : (k :: is).length + f = (is.length + f) + 1 := by simp only [List.length_cons]; omega
    rw [e]
    exact anyC_firstV (hlast k (by simp)) h0 (Region.noSelect_spec hsel) (is.length + f) listed a w (Region.free_spec h0 hf) hr' hp (anyC_lexKV hsel hK is (fun i hi => hlast i (by simp [hi])) _ _ w hl.2 hx' hw hK')
theorem anyC_treeV {l : List Oper} (hs : Region.noSelect l.toArray = true) : ∀ (t : OT) (_ : ∀ i ∈ treads t, lastOne md l.toArray z i = true) (listed : Array Bool) (a : Act) (w : World), treeZ md l.toArray z t listed = true → treeS P X l C L z t a w → anyC P X md l.toArray C L z t.size listed a w
  | .nil, _, listed, a, w, hB, h => by
    simp only [treeZ, Bool.and_eq_true, decide_eq_true_eq] at hB
    obtain ⟨o, ho, hp⟩ := atOp_some' h.2
    exact ⟨h.1, hB.1, hB.2, fun o' ho' => by
      obtain rfl : o' = o := Option.some.inj (ho'.symm.trans (by simpa using ho))
      exact hp⟩
  | .read k t, hlast, listed, a, w, hB, h => by
    simp only [treeZ, Bool.and_eq_true] at hB
    obtain ⟨⟨hr, hf⟩, hB'⟩ := hB
    obtain ⟨hc, h⟩ := h
    obtain ⟨o, ho, v, hp, hs'⟩ := atOp_some' h
    have h0 : l.toArray[k]? = some o := by simpa using ho
    have hr' : k ∈ Region.ready md l.toArray listed := by simpa using hr
    exact anyC_firstV (hlast k (by simp [treads])) h0 (Region.noSelect_spec hs) t.size listed _ w (Region.free_spec h0 hf) hr' hp (anyC_treeV hs t (fun i hi => hlast i (by simp [treads, hi])) _ _ w hB' hs')
  | .one k t, hlast, listed, a, w, hB, h => by
    simp only [treeZ, Bool.and_eq_true, decide_eq_true_eq] at hB
    obtain ⟨hc, h⟩ := h
    obtain ⟨o, ho, hp⟩ := atOp_some' h
    refine ⟨hc, fun h1 => (by rw [hB.1] at h1; cases h1), fun i hi o' ho' => ?_⟩
    rw [hB.1] at hi
    have hik : i = k := by simpa using hi
    subst hik
    obtain rfl : o' = o := Option.some.inj (ho'.symm.trans (by simpa using ho))
    exact stepC_mono (fun a' w' h' => anyC_treeV hs t hlast _ a' w' hB.2 h') hp
  | .two k t k' t', hlast, listed, a, w, hB, h => by
    simp only [treeZ, Bool.and_eq_true, List.all_eq_true, Bool.or_eq_true, beq_iff_eq, decide_eq_true_eq] at hB
    obtain ⟨⟨⟨⟨hr, hne⟩, hsz⟩, hB1⟩, hB2⟩ := hB
    obtain ⟨hc, h, h'⟩ := h
    obtain ⟨o1, ho1, hp1⟩ := atOp_some' h
    obtain ⟨o2, ho2, hp2⟩ := atOp_some' h'
    refine ⟨hc, fun h1 => (by rw [h1] at hne; simp at hne), fun i hi o' ho' => ?_⟩
    by_cases hik : i = k
    · subst hik
      obtain rfl : o' = o1 := Option.some.inj (ho'.symm.trans (by simpa using ho1))
      exact stepC_mono (fun a' w' h' => anyC_treeV hs t (fun i hi => hlast i (by simp [treads, hi])) _ a' w' hB1 h') hp1
    · have hik' : i = k' := (hr i hi).resolve_left hik
      subst hik'
      obtain rfl : o' = o2 := Option.some.inj (ho'.symm.trans (by simpa using ho2))
      refine stepC_mono (fun a' w' h' => ?_) hp2
      have := anyC_treeV hs t' (fun i hi => hlast i (by simp [treads, hi])) (listed.setIfInBounds i true) a' w' hB2 h'
      rwa [← hsz] at this
def treeFZV (md : Region.Mode) (ops : Array Oper) (is : List Nat) (t : OT) (z : Nat) : Bool :=
  Region.noSelect ops && inL' ops.size is && decide (is.length + t.size + 1 = ops.size) && (is ++ treads t).all (lastOne md ops z) && lexK md ops (treeZ md ops z t) is (Array.replicate ops.size false)
/-- THE REGION. -/
theorem region_treeV {id : Nat} {Q : Exit → Act → World → Prop} {a : Act} {w : World} {l : List Oper} (X : List PanicEntry → List Deferred → World → Prop) (is : List Nat) (t : OT) (z : Nat) (hX : ∀ ch a w, X ch a.defers w → Q (.panic ch) a w) (hm : P.follows .mixedOrders = true) (hB : treeFZV .any l.toArray is t z = true) (hC : C { w with drawn := w.drawn + 1 })
    (h : wpQuiet P l.toArray C (fun a' => treeS P X l C (fun a w => Q .normal a w) z t a' { w with drawn := w.drawn + 1 }) (pickL l is) a) : (Code.region id l.toArray true).wp P Q a w := by
  simp only [treeFZV, List.all_append, List.all_eq_true, Bool.and_eq_true, decide_eq_true_eq] at hB
  obtain ⟨⟨⟨⟨hsel, his⟩, hlen⟩, hlast1, hlast2⟩, hlex⟩ := hB
  refine wp_region_any hm ?_
  have H := anyC_lexKV (P := P) (X := X) (C := C) (md := .any) (L := fun a w => Q .normal a w) (f := t.size) (B := treeZ .any l.toArray z t) (K := fun a' w' => treeS P X l C (fun a w => Q .normal a w) z t a' w') hsel (fun listed a w hb _ hk => anyC_treeV hsel t hlast2 listed a w hb hk) is hlast1 _ a _ his hlex hC h
  have H2 := anyC_wpAny (fun _ _ h => h) hX _ _ _ _ H
  rwa [hlen] at H2
end
end Go.Proofs.YtlinldbbhdpgcaaGreatDoor.RP
/-
  A REGION THAT DRAWS ITS ORDER AND WHOSE LAST OPERATION COMES BEHIND THE READS, BY WAY OF OTHERS.
-/
namespace Go.Proofs.YtlinldbbhdpgcaaGreatDoor.RP
open Go.RowKit
open Go
section
variable {P : Program} {ops : Array Oper} {md : Region.Mode} {C : World → Prop} {L : Act → World → Prop} {X : List PanicEntry → List Deferred → World → Prop} {z : Nat}
/-- The operation z comes behind the operation i, by way of others. -/
def reach (md : Region.Mode) (ops : Array Oper) : Nat → Nat → Nat → Bool
  | 0, _, _ => false
  | f + 1, z, i => match ops[z]? with
    | some o => o.after.any fun e => Region.binds md e && (e.on == i || reach md ops f e.on i)
    | none => false
def lastTr (md : Region.Mode) (ops : Array Oper) (z i : Nat) : Bool := i == z || reach md ops ops.size z i
def Aft (md : Region.Mode) (ops : Array Oper) (listed : Array Bool) (z : Nat) : Prop := ∀ o, ops[z]? = some o → ∀ e ∈ o.after, Region.binds md e = true → listed.getD e.on false = true
def Closed (md : Region.Mode) (ops : Array Oper) (listed : Array Bool) : Prop := ∀ j, listed.getD j false = true → Aft md ops listed j
theorem reach_listed {listed : Array Bool} (hc : Closed md ops listed) {i : Nat} : ∀ (f z : Nat), Aft md ops listed z → reach md ops f z i = true → listed.getD i false = true
  | 0, z, _, h => by cases h
  | f + 1, z, ha, h => by
    simp only [reach] at h
    cases ho : ops[z]? with
    | none => rw [ho] at h; cases h
    | some o =>
      rw [ho] at h
      simp only at h
      rw [Array.any_eq_true'] at h
      obtain ⟨e, he, h2⟩ := h
      simp only [Bool.and_eq_true, Bool.or_eq_true, beq_iff_eq] at h2
      have h3 := ha o ho e he h2.1
      rcases h2.2 with h4 | h4
      · rw [← h4]; exact h3
      · exact reach_listed hc f e.on (hc _ h3) h4
theorem ready_aft {listed : Array Bool} {z : Nat} (hz : z ∈ Region.ready md ops listed) : Aft md ops listed z := by
  obtain ⟨_, o, ho, hall⟩ := mem_ready.1 hz
  intro o' ho'
  obtain rfl : o' = o := Option.some.inj (ho'.symm.trans ho)
  exact hall
theorem last_tr {listed : Array Bool} {i : Nat} (hc : Closed md ops listed) (hlast : lastTr md ops z i = true) (hz : z ∈ Region.ready md ops listed) (hne : i ≠ z) : listed.getD i false = true := by
  simp only [lastTr, Bool.or_eq_true, beq_iff_eq] at hlast
  exact reach_listed hc _ z (ready_aft hz) (hlast.resolve_left hne)
theorem getD_set_mono {listed : Array Bool} {i j : Nat} (h : listed.getD i false = true) : (listed.setIfInBounds j true).getD i false = true := by
  rcases Nat.decEq j i with hji | hji
  · rw [getD_set_ne false hji]; exact h
  · subst hji
    have hl : j < listed.size := by
      rcases Nat.lt_or_ge j listed.size with h1 | h1
      · exact h1
      · simp [Array.getD, Nat.not_lt.2 h1] at h
    simp [Array.getD, hl]
theorem Closed.set {listed : Array Bool} {j : Nat} (hc : Closed md ops listed) (hj : j ∈ Region.ready md ops listed) : Closed md ops (listed.setIfInBounds j true) := by
  intro k hk o ho e he hb
  refine getD_set_mono ?_
  rcases Nat.decEq j k with hjk | hjk
  · rw [getD_set_ne false hjk] at hk
    exact hc k hk o ho e he hb
  · subst hjk
    exact ready_aft hj o ho e he hb
theorem closed_start (n : Nat) : Closed md ops (Array.replicate n false) := by
  intro j hj
  exfalso
  simp only [Array.getD_eq_getD_getElem?, Array.getElem?_replicate] at hj
  split at hj <;> simp at hj
def treadsW : OT → List Nat
  | .nil => []
  | .read k t => k :: treadsW t
  | .one _ t => treadsW t
  | .two _ t _ t' => treadsW t ++ treadsW t'
theorem anyC_firstW {i : Nat} {oi : Oper} {v : Value} (hlast : lastTr md ops z i = true) (hi : ops[i]? = some oi) (hsel : ∀ (j : Nat) (o : Oper) cs b, ops[j]? = some o → o.op ≠ .select cs b) :
    ∀ (f : Nat) (listed : Array Bool) (a : Act) (w : World), Closed md ops listed →
      (∀ j oj, ops[j]? = some oj → j ≠ i → listed.getD j true = false → (∀ e ∈ oj.after, Region.binds md e = true → e.on ≠ i) → oi.apart ops oj = true) →
      i ∈ Region.ready md ops listed → PureIn P ops C oi v a →
      anyC P X md ops C L z f (listed.setIfInBounds i true) (a.put oi.dst v) w → anyC P X md ops C L z (f + 1) listed a w := by
  intro f
  induction f with
  | zero =>
    intro listed a w hcl _ hr hy H
    refine ⟨H.1, fun h => (by rw [h] at hr; cases hr), fun j hj o ho => ?_⟩
    rcases Nat.decEq j i with hji | hji
    · have h2 := ready_mono hj hji
      rw [H.2.1] at h2
      have hjz : j = z := by simpa using h2
      subst hjz
      have h3 := last_tr hcl hlast hj (Ne.symm hji)
      rw [getD_both (mem_ready.1 hr).1] at h3
      cases h3
    · subst hji
      have : o = oi := Option.some.inj (ho.symm.trans hi)
      subst this
      exact step_pure hy H.1 H
  | succ f ih =>
    intro listed a w hcl hfree hr hy H
    have hun := (mem_ready.1 hr).1
    refine ⟨H.1, fun h => (by rw [h] at hr; cases hr), fun j hj o ho => ?_⟩
    rcases Nat.decEq j i with hji | hji
    · have h1 := H.2.2 j (ready_mono hj hji) o ho
      obtain ⟨hjun, oj, hoj, hall⟩ := mem_ready.1 hj
      have : o = oj := Option.some.inj (ho.symm.trans hoj)
      subst this
      have hnot : ∀ e ∈ o.after, Region.binds md e = true → e.on ≠ i := by
        intro e he hb heq
        have h2 := hall e he hb
        rw [heq, getD_both hun] at h2
        cases h2
      have h2 := stepC_put (hfree j o ho hji hjun hnot) (fun cs b => hsel i oi cs b hi) (fun cs b => hsel j o cs b ho) hy h1
      refine stepC_mono (fun a' w' h3 => ih (listed.setIfInBounds j true) a' w' (hcl.set hj) ?_ (ready_mono hr (Ne.symm hji)) h3.1 ?_) h2
      · intro k ok hk hki hun' hno
        refine hfree k ok hk hki ?_ hno
        rcases Nat.decEq j k with hjk | hjk
        · rw [getD_set_ne true hjk] at hun'; exact hun'
        · subst hjk; exact hjun
      · rw [Array.setIfInBounds_comm _ _ hji]
        exact h3.2
    · subst hji
      have : o = oi := Option.some.inj (ho.symm.trans hi)
      subst this
      exact step_pure hy H.1 H
theorem anyC_lexKW {l : List Oper} {f : Nat} {B : Array Bool → Bool} {K : Act → World → Prop} (hsel : Region.noSelect l.toArray = true) (hK : ∀ listed a w, Closed md l.toArray listed → B listed = true → C w → K a w → anyC P X md l.toArray C L z f listed a w) :
    ∀ (is : List Nat) (_ : ∀ i ∈ is, lastTr md l.toArray z i = true) (listed : Array Bool) (a : Act) (w : World), Closed md l.toArray listed → inL' l.toArray.size is = true → lexK md l.toArray B is listed = true → C w →
      wpQuiet P l.toArray C (fun a' => K a' w) (pickL l is) a → anyC P X md l.toArray C L z (is.length + f) listed a w
  | [], _, listed, a, w, hcl, _, hx, hw, h => by
    rw [List.length_nil, Nat.zero_add]
    exact hK _ _ _ hcl hx hw h
  | k :: is, hlast, listed, a, w, hcl, hl, hx, hw, h => by
    simp only [inL', List.all_cons, Bool.and_eq_true, decide_eq_true_eq] at hl
    have h0 : l.toArray[k]? = some l.toArray[k] := Array.getElem?_eq_getElem hl.1
    have h0' : l[k]? = some l.toArray[k] := by rw [← h0]; simp
    simp only [lexK, Bool.and_eq_true, h0, Option.map_some, Option.getD_some] at hx
    obtain ⟨⟨⟨hr, hf⟩, hro⟩, hx'⟩ := hx
    simp only [pickL, h0'] at h
    have hr' : k ∈ Region.ready md l.toArray listed := by simpa using hr
    have hst : qOp P l.toArray C k (wpQuiet P l.toArray C (fun a' => K a' w) (pickL l is)) a := by unfold qOp; simp only [h0]; exact h
    obtain ⟨v, hy, hK'⟩ := yieldsIn_of_qOp h0 hst
    have hp : PureIn P l.toArray C l.toArray[k] v a := by
      rcases hy with ⟨h1, h2⟩ | ⟨h1, h2⟩
      · exact .inl ⟨h1, fun w hw => pure_of_quiet hro (h2 w hw)⟩
      · exact .inr ⟨h1, h2⟩
    have e : (k :: is).length + f = (is.length + f) + 1 := by simp only [List.length_cons]; omega
    rw [e]
    exact anyC_firstW (hlast k (by simp)) h0 (Region.noSelect_spec hsel) (is.length + f) listed a w hcl (Region.free_spec h0 hf) hr' hp (anyC_lexKW hsel hK is (fun i hi => hlast i (by simp [hi])) _ _ w (hcl.set hr') hl.2 hx' hw hK')
theorem anyC_treeW {l : List Oper} (hs : Region.noSelect l.toArray = true) : ∀ (t : OT) (_ : ∀ i ∈ treadsW t, lastTr md l.toArray z i = true) (listed : Array Bool) (a : Act) (w : World), Closed md l.toArray listed → treeZ md l.toArray z t listed = true → treeS P X l C L z t a w → anyC P X md l.toArray C L z t.size listed a w
  | .nil, _, listed, a, w, hcl, hB, h => by
    simp only [treeZ, Bool.and_eq_true, decide_eq_true_eq] at hB
    obtain ⟨o, ho, hp⟩ := atOp_some' h.2
    exact ⟨h.1, hB.1, hB.2, fun o' ho' => by
      obtain rfl : o' = o := Option.some.inj (ho'.symm.trans (by simpa using ho))
      exact hp⟩
  | .read k t, hlast, listed, a, w, hcl, hB, h => by
    simp only [treeZ, Bool.and_eq_true] at hB
    obtain ⟨⟨hr, hf⟩, hB'⟩ := hB
    obtain ⟨hc, h⟩ := h
    obtain ⟨o, ho, v, hp, hs'⟩ := atOp_some' h
    have h0 : l.toArray[k]? = some o := by simpa using ho
    have hr' : k ∈ Region.ready md l.toArray listed := by simpa using hr
    exact anyC_firstW (hlast k (by simp [treadsW])) h0 (Region.noSelect_spec hs) t.size listed _ w hcl (Region.free_spec h0 hf) hr' hp (anyC_treeW hs t (fun i hi => hlast i (by simp [treadsW, hi])) _ _ w (hcl.set hr') hB' hs')
  | .one k t, hlast, listed, a, w, hcl, hB, h => by
    simp only [treeZ, Bool.and_eq_true, decide_eq_true_eq] at hB
    obtain ⟨hc, h⟩ := h
    obtain ⟨o, ho, hp⟩ := atOp_some' h
    refine ⟨hc, fun h1 => (by rw [hB.1] at h1; cases h1), fun i hi o' ho' => ?_⟩
    rw [hB.1] at hi
    have hik : i = k := by simpa using hi
    subst hik
    obtain rfl : o' = o := Option.some.inj (ho'.symm.trans (by simpa using ho))
    exact stepC_mono (fun a' w' h' => anyC_treeW hs t hlast _ a' w' (hcl.set (by rw [hB.1]; simp)) hB.2 h') hp
  | .two k t k' t', hlast, listed, a, w, hcl, hB, h => by
    simp only [treeZ, Bool.and_eq_true, List.all_eq_true, Bool.or_eq_true, beq_iff_eq, decide_eq_true_eq] at hB
    obtain ⟨⟨⟨⟨hr, hne⟩, hsz⟩, hB1⟩, hB2⟩ := hB
    obtain ⟨hc, h, h'⟩ := h
    obtain ⟨o1, ho1, hp1⟩ := atOp_some' h
    obtain ⟨o2, ho2, hp2⟩ := atOp_some' h'
    refine ⟨hc, fun h1 => (by rw [h1] at hne; simp at hne), fun i hi o' ho' => ?_⟩
    by_cases hik : i = k
    · subst hik
      obtain rfl : o' = o1 := Option.some.inj (ho'.symm.trans (by simpa using ho1))
      exact stepC_mono (fun a' w' h' => anyC_treeW hs t (fun i hi => hlast i (by simp [treadsW, hi])) _ a' w' (hcl.set hi) hB1 h') hp1
    · have hik' : i = k' := (hr i hi).resolve_left hik
      subst hik'
      obtain rfl : o' = o2 := Option.some.inj (ho'.symm.trans (by simpa using ho2))
      refine stepC_mono (fun a' w' h' => ?_) hp2
      have := anyC_treeW hs t' (fun i hi => hlast i (by simp [treadsW, hi])) (listed.setIfInBounds i true) a' w' (hcl.set hi) hB2 h'
      rwa [← hsz] at this
def treeFZW (md : Region.Mode) (ops : Array Oper) (is : List Nat) (t : OT) (z : Nat) : Bool :=
  Region.noSelect ops && inL' ops.size is && decide (is.length + t.size + 1 = ops.size) && (is ++ treadsW t).all (lastTr md ops z) && lexK md ops (treeZ md ops z t) is (Array.replicate ops.size false)
/-- THE REGION. -/
theorem region_treeW {id : Nat} {Q : Exit → Act → World → Prop} {a : Act} {w : World} {l : List Oper} (X : List PanicEntry → List Deferred → World → Prop) (is : List Nat) (t : OT) (z : Nat) (hX : ∀ ch a w, X ch a.defers w → Q (.panic ch) a w) (hm : P.follows .mixedOrders = true) (hB : treeFZW .any l.toArray is t z = true) (hC : C { w with drawn := w.drawn + 1 })
    (h : wpQuiet P l.toArray C (fun a' => treeS P X l C (fun a w => Q .normal a w) z t a' { w with drawn := w.drawn + 1 }) (pickL l is) a) : (Code.region id l.toArray true).wp P Q a w := by
  simp only [treeFZW, List.all_append, List.all_eq_true, Bool.and_eq_true, decide_eq_true_eq] at hB
  obtain ⟨⟨⟨⟨hsel, his⟩, hlen⟩, hlast1, hlast2⟩, hlex⟩ := hB
  refine wp_region_any hm ?_
  have H := anyC_lexKW (P := P) (X := X) (C := C) (md := .any) (L := fun a w => Q .normal a w) (f := t.size) (B := treeZ .any l.toArray z t) (K := fun a' w' => treeS P X l C (fun a w => Q .normal a w) z t a' w') hsel (fun listed a w hcl hb _ hk => anyC_treeW hsel t hlast2 listed a w hcl hb hk) is hlast1 _ a _ (closed_start _) his hlex hC h
  have H2 := anyC_wpAny (fun _ _ h => h) hX _ _ _ _ H
  rwa [hlen] at H2
end
end Go.Proofs.YtlinldbbhdpgcaaGreatDoor.RP
