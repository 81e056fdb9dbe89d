/-
  A REGION THAT DRAWS ITS ORDER, WHOSE CALLS MAY PANIC: reads at given places, which may be taken first; then a tree of orders; at last one operation, which may write old memory. As region_tree, with a way out for panics.
-/
import Derived.Test.YtgmokojdlbdjeaaGreatDoorRegT
namespace Go.Proofs.YtgmokojdlbdjeaaGreatDoor.RP
open Go.RowKit
open Go
section
variable {P : Program} {ops : Array Oper} {md : Region.Mode} {C : World → Prop} {L : Act → World → Prop} {X : List PanicEntry → List Deferred → World → Prop} {z : Nat}
/-- What is asked of an operation's outcome: it yields, and goes on, or a call of it panics. -/
def plainUpon (P : Program) (X : List PanicEntry → List Deferred → World → Prop) (o : Oper) (a : Act) (next : Act → World → Prop) : Result Next → Prop
  | .ok (.value v) w' => next (a.put o.dst v) w'
  | .ok .skip w' => next (a.put o.dst undef) w'
  | .ok (.enter f args) w' => Calls P f args w' fun e w'' => (∃ v, e = .returned v ∧ next (a.put o.dst v) w'') ∨ (∃ ch, e = .panicked ch ∧ X ch a.defers w'')
  | _ => False
def stepC (P : Program) (X : List PanicEntry → List Deferred → World → Prop) (ops : Array Oper) (o : Oper) (a : Act) (next : Act → World → Prop) (w : World) : Prop :=
  if Region.wanted o (yielded ops a.tmps) then plainUpon P X o a next ((execOp a.eval o).run P w) else next (a.put o.dst undef) w
def anyC (P : Program) (X : List PanicEntry → List Deferred → World → Prop) (md : Region.Mode) (ops : Array Oper) (C : World → Prop) (L : Act → World → Prop) (z : Nat) : Nat → Array Bool → Act → World → Prop
  | 0, listed, a, w => C w ∧ Region.ready md ops listed = [z] ∧ Region.ready md ops (listed.setIfInBounds z true) = [] ∧ ∀ o, ops[z]? = some o → stepC P X ops o a L w
  | f + 1, listed, a, w => C w ∧ Region.ready md ops listed ≠ [] ∧ ∀ i ∈ Region.ready md ops listed, ∀ o, ops[i]? = some o → stepC P X ops o a (anyC P X md ops C L z f (listed.setIfInBounds i true)) w
theorem put_defers (a : Act) (d : Option Tmp) (v : Value) : (a.put d v).defers = a.defers := by cases d <;> rfl
theorem anyC.c {f : Nat} {listed : Array Bool} {a : Act} {w : World} (h : anyC P X md ops C L z f listed a w) : C w := by
  cases f with
  | zero => exact h.1
  | succ f => exact h.1
theorem plainUpon_mono {o : Oper} {a : Act} {K K' : Act → World → Prop} (h : ∀ a w, K a w → K' a w) {r : Result Next} (hr : plainUpon P X o a K r) : plainUpon P X o a K' r := by
  cases r with
  | ok n w' =>
    cases n <;> simp only [plainUpon] at hr ⊢
    case value => exact h _ _ hr
    case skip => exact h _ _ hr
    case enter => exact hr.mono fun e w'' hh => hh.imp (fun ⟨v, he, hk⟩ => ⟨v, he, h _ _ hk⟩) id
  | halt x w' => exact hr
theorem step_wpOp {Q : Exit → Act → World → Prop} {o : Oper} {i : Nat} {a : Act} {w : World} {K K' : Act → World → Prop} (ho : ops[i]? = some o) (hK : ∀ a w, K a w → K' a w) (hX : ∀ ch a w, X ch a.defers w → Q (.panic ch) a w) (h1 : stepC P X ops o a K w) : wpOp P ops Q i K' a w := by
  unfold wpOp
  simp only [ho]
  unfold stepC at h1
  split
  · rename_i hw
    rw [if_pos hw] at h1
    refine .inl ?_
    unfold Oper.wp
    generalize (execOp a.eval o).run P w = r at h1
    cases r with
    | ok n w' =>
      cases n <;> simp only [plainUpon] at h1 <;> simp only [Oper.upon]
      case value => exact hK _ _ h1
      case skip => exact hK _ _ h1
      case enter => exact h1.mono (fun e w'' hh => hh.elim (fun ⟨v, he, hk⟩ => by subst he; exact hK _ _ hk) (fun ⟨ch, he, hk⟩ => by subst he; exact hX _ _ _ hk))
    | halt x w' => exact absurd h1 (by simp [plainUpon])
  · rename_i hw
    rw [if_neg hw] at h1
    exact hK _ _ h1
theorem anyC_wpAny {Q : Exit → Act → World → Prop} (hL : ∀ a w, L a w → Q .normal a w) (hX : ∀ ch a w, X ch a.defers w → Q (.panic ch) a w) : ∀ (f : Nat) (listed : Array Bool) (a : Act) (w : World), anyC P X md ops C L z f listed a w → wpAny P md ops Q (f + 1) listed a w
  | 0, listed, a, w, h => by
    obtain ⟨hc, h1, h2, h3⟩ := h
    refine ⟨fun h0 => absurd h0 (by rw [h1]; simp), fun i hi => ?_⟩
    obtain ⟨_, o, ho, _⟩ := mem_ready.1 hi
    rw [h1] at hi
    have hik : i = z := by simpa using hi
    subst hik
    exact step_wpOp (K' := wpAny P md ops Q 0 (listed.setIfInBounds i true)) ho (fun a w hl => ⟨h2, hL _ _ hl⟩) hX (h3 o ho)
  | f + 1, listed, a, w, h => ⟨fun h0 => absurd h0 h.2.1, fun i hi => by
    obtain ⟨_, o, ho, _⟩ := mem_ready.1 hi
    exact step_wpOp ho (fun a w hl => anyC_wpAny hL hX f _ _ _ hl) hX (h.2.2 i hi o ho)⟩
theorem step_pure {o : Oper} {v : Value} {a : Act} {w : World} (h : PureIn P ops C o v a) (hw : C w) {K : Act → World → Prop} (hk : K (a.put o.dst v) w) : stepC P X ops o a K w := by
  unfold stepC
  rcases h with ⟨h1, h2⟩ | ⟨h1, h2⟩
  · rw [if_pos h1]
    rcases h2 w hw with h3 | ⟨h3, h4⟩
    · rw [h3]; exact hk
    · rw [h3]; subst h4; exact hk
  · rw [if_neg (by rw [h1]; decide)]; subst h2; exact hk
theorem stepC_put {oi oj : Oper} {v : Value} (hap : oi.apart ops oj = true) (hsi : ∀ cs b, oi.op ≠ .select cs b) (hsj : ∀ cs b, oj.op ≠ .select cs b) {K : Act → World → Prop} {a : Act} {w : World}
    (hy : PureIn P ops C oi v a) (h : stepC P X ops oj (a.put oi.dst v) K w) : stepC P X ops oj a (fun a' w' => PureIn P ops C oi v a' ∧ K (a'.put oi.dst v) w') w := by
  obtain ⟨h1, h2, h3⟩ := Oper.apart_spec hap
  have keep : ∀ u, PureIn P ops C oi v (a.put oj.dst u) := fun u => hy.of_same (execOp_put oi hsi a oj.dst u h3) (wanted_put oi a oj.dst u h3)
  unfold stepC at *
  rw [wanted_put oj a oi.dst v h1, execOp_put oj hsj a oi.dst v h1] at h
  split
  · rename_i hw
    rw [if_pos hw] at h
    generalize (execOp a.eval oj).run P w = r at h
    cases r with
    | ok n w' =>
      cases n <;> simp only [plainUpon] at h ⊢
      case value u => exact ⟨keep u, by rw [← Act.put_comm a v u h2]; exact h⟩
      case skip => exact ⟨keep _, by rw [← Act.put_comm a v undef h2]; exact h⟩
      case enter => exact h.mono (fun e w'' hh => hh.elim (fun ⟨u, he, hk⟩ => .inl ⟨u, he, keep u, by rw [← Act.put_comm a v u h2]; exact hk⟩) (fun ⟨ch, he, hk⟩ => .inr ⟨ch, he, by rwa [put_defers] at hk⟩))
    | halt x w' => exact absurd h (by simp [plainUpon])
  · rename_i hw
    rw [if_neg hw] at h
    exact ⟨keep _, by rw [← Act.put_comm a v undef h2]; exact h⟩
theorem stepC_mono {o : Oper} {a : Act} {w : World} {K K' : Act → World → Prop} (h : ∀ a w, K a w → K' a w) (hr : stepC P X ops o a K w) : stepC P X ops o a K' w := by
  unfold stepC at *
  split
  · rename_i hw; rw [if_pos hw] at hr; exact plainUpon_mono h hr
  · rename_i hw; rw [if_neg hw] at hr; exact h _ _ hr
/-- The operation z comes behind all others. -/
def lastB (md : Region.Mode) (ops : Array Oper) (z : Nat) : Bool := match ops[z]? with
  | some o => (List.range ops.size).all fun i => i == z || o.after.any fun e => Region.binds md e && e.on == i
  | none => false
theorem last_all {listed : Array Bool} {i : Nat} (hlast : lastB md ops z = true) (hz : z ∈ Region.ready md ops listed) (hi : i < ops.size) (hne : i ≠ z) : listed.getD i false = true := by
  obtain ⟨_, o, ho, hall⟩ := mem_ready.1 hz
  unfold lastB at hlast
  rw [ho] at hlast
  simp only [List.all_eq_true, List.mem_range, Bool.or_eq_true, beq_iff_eq] at hlast
  have h1 := (hlast i hi).resolve_left hne
  rw [Array.any_eq_true'] at h1
  obtain ⟨e, he, h2⟩ := h1
  simp only [Bool.and_eq_true, beq_iff_eq] at h2
  have := hall e he h2.1
  rwa [h2.2] at this
theorem anyC_first {i : Nat} {oi : Oper} {v : Value} (hlast : lastB md ops z = true) (hi : ops[i]? = some oi) (hsel : ∀ (j : Nat) (o : Oper) cs b, ops[j]? = some o → o.op ≠ .select cs b) :
    ∀ (f : Nat) (listed : Array Bool) (a : Act) (w : World),
      (∀ j oj, ops[j]? = some oj → j ≠ i → listed.getD j true = false → (∀ e ∈ oj.after, Region.binds md e = true → e.on ≠ i) → oi.apart ops oj = true) →
      i ∈ Region.ready md ops listed → PureIn P ops C oi v a →
      anyC P X md ops C L z f (listed.setIfInBounds i true) (a.put oi.dst v) w → anyC P X md ops C L z (f + 1) listed a w := by
  intro f
  induction f with
  | zero =>
    intro listed a w _ hr hy H
    refine ⟨H.1, fun h => (by rw [h] at hr; cases hr), fun j hj o ho => ?_⟩
    rcases Nat.decEq j i with hji | hji
    · have h2 := ready_mono hj hji
      rw [H.2.1] at h2
      have hjz : j = z := by simpa using h2
      subst hjz
      have h3 := last_all hlast hj (Array.getElem?_eq_some_iff.1 hi).1 (Ne.symm hji)
      rw [getD_both (mem_ready.1 hr).1] at h3
      cases h3
    · subst hji
      have : o = oi := Option.some.inj (ho.symm.trans hi)
      subst this
      exact step_pure hy H.1 H
  | succ f ih =>
    intro listed a w hfree hr hy H
    have hun := (mem_ready.1 hr).1
    refine ⟨H.1, fun h => (by rw [h] at hr; cases hr), fun j hj o ho => ?_⟩
    rcases Nat.decEq j i with hji | hji
    · have h1 := H.2.2 j (ready_mono hj hji) o ho
      obtain ⟨hjun, oj, hoj, hall⟩ := mem_ready.1 hj
      have : o = oj := Option.some.inj (ho.symm.trans hoj)
      subst this
      have hnot : ∀ e ∈ o.after, Region.binds md e = true → e.on ≠ i := by
        intro e he hb heq
        have h2 := hall e he hb
        rw [heq, getD_both hun] at h2
        cases h2
      have h2 := stepC_put (hfree j o ho hji hjun hnot) (fun cs b => hsel i oi cs b hi) (fun cs b => hsel j o cs b ho) hy h1
      refine stepC_mono (fun a' w' h3 => ih (listed.setIfInBounds j true) a' w' ?_ (ready_mono hr (Ne.symm hji)) h3.1 ?_) h2
      · intro k ok hk hki hun' hno
        refine hfree k ok hk hki ?_ hno
        rcases Nat.decEq j k with hjk | hjk
        · rw [getD_set_ne true hjk] at hun'; exact hun'
        · subst hjk; exact hjun
      · rw [Array.setIfInBounds_comm _ _ hji]
        exact h3.2
    · subst hji
      have : o = oi := Option.some.inj (ho.symm.trans hi)
      subst this
      exact step_pure hy H.1 H
theorem anyC_lexK {l : List Oper} {f : Nat} {B : Array Bool → Bool} {K : Act → World → Prop} (hlast : lastB md l.toArray z = true) (hsel : Region.noSelect l.toArray = true) (hK : ∀ listed a w, B listed = true → C w → K a w → anyC P X md l.toArray C L z f listed a w) :
    ∀ (is : List Nat) (listed : Array Bool) (a : Act) (w : World), inL' l.toArray.size is = true → lexK md l.toArray B is listed = true → C w →
      wpQuiet P l.toArray C (fun a' => K a' w) (pickL l is) a → anyC P X md l.toArray C L z (is.length + f) listed a w
  | [], listed, a, w, _, hx, hw, h => by
    rw [List.length_nil, Nat.zero_add]
    exact hK _ _ _ hx hw h
  | k :: is, listed, a, w, hl, hx, hw, h => by
    simp only [inL', List.all_cons, Bool.and_eq_true, decide_eq_true_eq] at hl
    have h0 : l.toArray[k]? = some l.toArray[k] := Array.getElem?_eq_getElem hl.1
    have h0' : l[k]? = some l.toArray[k] := by rw [← h0]; simp
    simp only [lexK, Bool.and_eq_true, h0, Option.map_some, Option.getD_some] at hx
    obtain ⟨⟨⟨hr, hf⟩, hro⟩, hx'⟩ := hx
    simp only [pickL, h0'] at h
    have hr' : k ∈ Region.ready md l.toArray listed := by simpa using hr
    have hst : qOp P l.toArray C k (wpQuiet P l.toArray C (fun a' => K a' w) (pickL l is)) a := by unfold qOp; simp only [h0]; exact h
    obtain ⟨v, hy, hK'⟩ := yieldsIn_of_qOp h0 hst
    have hp : PureIn P l.toArray C l.toArray[k] v a := by
      rcases hy with ⟨h1, h2⟩ | ⟨h1, h2⟩
      · exact .inl ⟨h1, fun w hw => pure_of_quiet hro (h2 w hw)⟩
      · exact .inr ⟨h1, h2⟩
    have e : (k :: is).length + f = (is.length + f) + 1 := by simp only [List.length_cons]; omega
    rw [e]
    exact anyC_first hlast h0 (Region.noSelect_spec hsel) (is.length + f) listed a w (Region.free_spec h0 hf) hr' hp (anyC_lexK hlast hsel hK is _ _ w hl.2 hx' hw hK')
def treeS (P : Program) (X : List PanicEntry → List Deferred → World → Prop) (l : List Oper) (C : World → Prop) (L : Act → World → Prop) (z : Nat) : OT → Act → World → Prop
  | .nil, a, w => C w ∧ atOp l z fun o => stepC P X l.toArray o a L w
  | .read k t, a, w => C w ∧ atOp l k fun o => ∃ v, PureIn P l.toArray C o v a ∧ treeS P X l C L z t (a.put o.dst v) w
  | .one k t, a, w => C w ∧ atOp l k fun o => stepC P X l.toArray o a (treeS P X l C L z t) w
  | .two k t k' t', a, w => C w ∧ (atOp l k fun o => stepC P X l.toArray o a (treeS P X l C L z t) w) ∧ atOp l k' fun o => stepC P X l.toArray o a (treeS P X l C L z t') w
def treeZ (md : Region.Mode) (ops : Array Oper) (z : Nat) : OT → Array Bool → Bool
  | .nil, listed => decide (Region.ready md ops listed = [z]) && decide (Region.ready md ops (listed.setIfInBounds z true) = [])
  | .read k t, listed => (Region.ready md ops listed).contains k && Region.free md ops listed k && treeZ md ops z t (listed.setIfInBounds k true)
  | .one k t, listed => decide (Region.ready md ops listed = [k]) && treeZ md ops z t (listed.setIfInBounds k true)
  | .two k t k' t', listed => ((Region.ready md ops listed).all fun i => i == k || i == k') && !(Region.ready md ops listed).isEmpty && decide (t.size = t'.size) && treeZ md ops z t (listed.setIfInBounds k true) && treeZ md ops z t' (listed.setIfInBounds k' true)
theorem anyC_tree {l : List Oper} (hlast : lastB md l.toArray z = true) (hs : Region.noSelect l.toArray = true) : ∀ (t : OT) (listed : Array Bool) (a : Act) (w : World), treeZ md l.toArray z t listed = true → treeS P X l C L z t a w → anyC P X md l.toArray C L z t.size listed a w
  | .nil, listed, a, w, hB, h => by
    simp only [treeZ, Bool.and_eq_true, decide_eq_true_eq] at hB
    obtain ⟨o, ho, hp⟩ := atOp_some' h.2
    exact ⟨h.1, hB.1, hB.2, fun o' ho' => by
      obtain rfl : o' = o := Option.some.inj (ho'.symm.trans (by simpa using ho))
      exact hp⟩
  | .read k t, listed, a, w, hB, h => by
    simp only [treeZ, Bool.and_eq_true] at hB
    obtain ⟨⟨hr, hf⟩, hB'⟩ := hB
    obtain ⟨hc, h⟩ := h
    obtain ⟨o, ho, v, hp, hs'⟩ := atOp_some' h
    have h0 : l.toArray[k]? = some o := by simpa using ho
    have hr' : k ∈ Region.ready md l.toArray listed := by simpa using hr
    exact anyC_first hlast h0 (Region.noSelect_spec hs) t.size listed _ w (Region.free_spec h0 hf) hr' hp (anyC_tree hlast hs t _ _ w hB' hs')
  | .one k t, listed, a, w, hB, h => by
    simp only [treeZ, Bool.and_eq_true, decide_eq_true_eq] at hB
    obtain ⟨hc, h⟩ := h
    obtain ⟨o, ho, hp⟩ := atOp_some' h
    refine ⟨hc, fun h1 => (by rw [hB.1] at h1; cases h1), fun i hi o' ho' => ?_⟩
    rw [hB.1] at hi
    have hik : i = k := by simpa using hi
    subst hik
    obtain rfl : o' = o := Option.some.inj (ho'.symm.trans (by simpa using ho))
    exact stepC_mono (fun a' w' h' => anyC_tree hlast hs t _ a' w' hB.2 h') hp
  | .two k t k' t', listed, a, w, hB, h => by
    simp only [treeZ, Bool.and_eq_true, List.all_eq_true, Bool.or_eq_true, beq_iff_eq, decide_eq_true_eq] at hB
    obtain ⟨⟨⟨⟨hr, hne⟩, hsz⟩, hB1⟩, hB2⟩ := hB
    obtain ⟨hc, h, h'⟩ := h
    obtain ⟨o1, ho1, hp1⟩ := atOp_some' h
    obtain ⟨o2, ho2, hp2⟩ := atOp_some' h'
    refine ⟨hc, fun h1 => (by rw [h1] at hne; simp at hne), fun i hi o' ho' => ?_⟩
    by_cases hik : i = k
    · subst hik
      obtain rfl : o' = o1 := Option.some.inj (ho'.symm.trans (by simpa using ho1))
      exact stepC_mono (fun a' w' h' => anyC_tree hlast hs t _ a' w' hB1 h') hp1
    · have hik' : i = k' := (hr i hi).resolve_left hik
      subst hik'
      obtain rfl : o' = o2 := Option.some.inj (ho'.symm.trans (by simpa using ho2))
      refine stepC_mono (fun a' w' h' => ?_) hp2
      have := anyC_tree hlast hs t' (listed.setIfInBounds i true) a' w' hB2 h'
      rwa [← hsz] at this
def treeFZ (md : Region.Mode) (ops : Array Oper) (is : List Nat) (t : OT) (z : Nat) : Bool :=
  Region.noSelect ops && inL' ops.size is && decide (is.length + t.size + 1 = ops.size) && lastB md ops z && lexK md ops (treeZ md ops z t) is (Array.replicate ops.size false)
/-- THE REGION: the reads is, the tree t, at last z; a call that panics leaves by X. -/
theorem region_treeP {id : Nat} {Q : Exit → Act → World → Prop} {a : Act} {w : World} {l : List Oper} (X : List PanicEntry → List Deferred → World → Prop) (is : List Nat) (t : OT) (z : Nat) (hX : ∀ ch a w, X ch a.defers w → Q (.panic ch) a w) (hm : P.follows .mixedOrders = true) (hB : treeFZ .any l.toArray is t z = true) (hC : C { w with drawn := w.drawn + 1 })
    (h : wpQuiet P l.toArray C (fun a' => treeS P X l C (fun a w => Q .normal a w) z t a' { w with drawn := w.drawn + 1 }) (pickL l is) a) : (Code.region id l.toArray true).wp P Q a w := by
  simp only [treeFZ, Bool.and_eq_true, decide_eq_true_eq] at hB
  obtain ⟨⟨⟨⟨hsel, his⟩, hlen⟩, hlast⟩, hlex⟩ := hB
  refine wp_region_any hm ?_
  have H := anyC_lexK (P := P) (X := X) (C := C) (md := .any) (L := fun a w => Q .normal a w) (f := t.size) (B := treeZ .any l.toArray z t) (K := fun a' w' => treeS P X l C (fun a w => Q .normal a w) z t a' w') hlast hsel (fun listed a w hb _ hk => anyC_tree hlast hsel t listed a w hb hk) is _ a _ his hlex hC h
  have H2 := anyC_wpAny (fun _ _ h => h) hX _ _ _ _ H
  rwa [hlen] at H2
variable {o : Oper} {a : Act} {w : World} {K : Act → World → Prop}
theorem p_call (f : FuncId) (args : Array Value) (hw : Region.wanted o (yielded ops a.tmps) = true) (he : (execOp a.eval o).run P w = .ok (.enter f args) w)
    (h : Calls P f args w fun e w'' => (∃ v, e = .returned v ∧ K (a.put o.dst v) w'') ∨ (∃ ch, e = .panicked ch ∧ X ch a.defers w'')) : stepC P X ops o a K w := by
  unfold stepC
  rw [if_pos hw, he]
  exact h
theorem p_val (v : Value) (w' : World) (hw : Region.wanted o (yielded ops a.tmps) = true) (he : (execOp a.eval o).run P w = .ok (.value v) w') (h : K (a.put o.dst v) w') : stepC P X ops o a K w := by
  unfold stepC
  rw [if_pos hw, he]
  exact h
theorem p_skip (w' : World) (hw : Region.wanted o (yielded ops a.tmps) = true) (he : (execOp a.eval o).run P w = .ok .skip w') (h : K (a.put o.dst undef) w') : stepC P X ops o a K w := by
  unfold stepC
  rw [if_pos hw, he]
  exact h
theorem p_assign (x : Operand) (ho : o.op = .assign x) (hw : Region.wanted o (yielded ops a.tmps) = true) (v : Value) (hv : a.eval x = v) (h : K (a.put o.dst v) w) : stepC P X ops o a K w := by
  subst hv
  unfold stepC
  rw [if_pos hw]
  unfold execOp
  simp only [ho, Sem.run_pure]
  exact h
end
end Go.Proofs.YtgmokojdlbdjeaaGreatDoor.RP
