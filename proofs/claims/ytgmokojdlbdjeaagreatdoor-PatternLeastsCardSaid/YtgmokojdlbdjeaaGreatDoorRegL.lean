/-
  A REGION THAT DRAWS ITS ORDER AND ENDS WITH A STORE TO OLD MEMORY: reads at given places, which may be taken first; then a forced chain of all the other operations; the last of these comes behind every read, and the class of worlds is left by it.
-/
import Derived.Test.YtgmokojdlbdjeaaGreatDoorRegC
namespace Go.Proofs.YtgmokojdlbdjeaaGreatDoor
open Go.RowKit
open Go
section
variable {P : Program} {ops : Array Oper} {md : Region.Mode} {C : World → Prop} {L : Act → World → Prop}
def anyD (P : Program) (md : Region.Mode) (ops : Array Oper) (C : World → Prop) (L : Act → World → Prop) : Nat → Array Bool → Act → World → Prop
  | 0, listed, a, w => (∀ k, k < ops.size → listed.getD k true = true) ∧ L a w
  | f + 1, listed, a, w => C w ∧ Region.ready md ops listed ≠ [] ∧ ∀ i ∈ Region.ready md ops listed, ∀ o, ops[i]? = some o → stepC P ops o a (anyD P md ops C L f (listed.setIfInBounds i true)) w
theorem ready_done {listed : Array Bool} (h : ∀ k, k < ops.size → listed.getD k true = true) : Region.ready md ops listed = [] := by
  cases hr : Region.ready md ops listed with
  | nil => rfl
  | cons i r =>
    obtain ⟨hun, o, ho, -⟩ := mem_ready.1 (show i ∈ Region.ready md ops listed by rw [hr]; simp)
    have h1 := h i (Array.getElem?_eq_some_iff.1 ho).1
    rw [hun] at h1
    cases h1
theorem anyD_wpAny {Q : Exit → Act → World → Prop} (hL : ∀ a w, L a w → Q .normal a w) : ∀ (f : Nat) (listed : Array Bool) (a : Act) (w : World), anyD P md ops C L f listed a w → wpAny P md ops Q f listed a w
  | 0, _, _, _, h => ⟨ready_done h.1, hL _ _ h.2⟩
  | f + 1, listed, a, w, h => ⟨fun h0 => absurd h0 h.2.1, fun i hi => by
    obtain ⟨_, o, ho, _⟩ := mem_ready.1 hi
    have h1 := h.2.2 i hi o ho
    unfold wpOp
    simp only [ho]
    unfold stepC at h1
    split
    · rename_i hw
      rw [if_pos hw] at h1
      refine .inl ?_
      unfold Oper.wp
      generalize (execOp a.eval o).run P w = r at h1
      cases r with
      | ok n w' =>
        cases n <;> simp only [plainUpon] at h1 <;> simp only [Oper.upon]
        case value => exact anyD_wpAny hL f _ _ _ h1
        case skip => exact anyD_wpAny hL f _ _ _ h1
        case enter => exact h1.mono fun e w'' ⟨v, he, hk⟩ => by subst he; exact anyD_wpAny hL f _ _ _ hk
      | halt x w' => exact absurd h1 (by simp [plainUpon])
    · rename_i hw
      rw [if_neg hw] at h1
      exact anyD_wpAny hL f _ _ _ h1⟩
/-- Operation m comes behind operation i. -/
def behind (md : Region.Mode) (ops : Array Oper) (m i : Nat) : Bool := decide (m ≠ i) && ((ops[m]?).map fun o => o.after.any fun e => Region.binds md e && e.on == i).getD false
theorem behind_spec {m i : Nat} (h : behind md ops m i = true) : m ≠ i ∧ m < ops.size ∧ ∀ listed, listed.getD i true = false → m ∉ Region.ready md ops listed := by
  simp only [behind, Bool.and_eq_true, decide_eq_true_eq] at h
  obtain ⟨h1, h2⟩ := h
  cases ho : ops[m]? with
  | none => rw [ho] at h2; cases h2
  | some o =>
    rw [ho] at h2
    simp only [Option.map_some, Option.getD_some] at h2
    refine ⟨h1, (Array.getElem?_eq_some_iff.1 ho).1, fun listed hun hr => ?_⟩
    obtain ⟨-, o', ho', hall⟩ := mem_ready.1 hr
    obtain rfl : o' = o := Option.some.inj (ho'.symm.trans ho)
    obtain ⟨e, he, h3⟩ := Array.any_eq_true'.1 h2
    simp only [Bool.and_eq_true, beq_iff_eq] at h3
    have h4 := hall e he h3.1
    rw [h3.2, getD_both hun] at h4
    cases h4
/-- A pure operation that may come up now may be taken first. -/
theorem anyD_first {i m : Nat} {oi : Oper} {v : Value} (hi : ops[i]? = some oi) (hsel : ∀ (j : Nat) (o : Oper) cs b, ops[j]? = some o → o.op ≠ .select cs b) (hm : behind md ops m i = true) :
    ∀ (f : Nat) (listed : Array Bool) (a : Act) (w : World), listed.getD m true = false →
      (∀ j oj, ops[j]? = some oj → j ≠ i → listed.getD j true = false → (∀ e ∈ oj.after, Region.binds md e = true → e.on ≠ i) → oi.apart ops oj = true) →
      i ∈ Region.ready md ops listed → PureIn P ops C oi v a →
      anyD P md ops C L f (listed.setIfInBounds i true) (a.put oi.dst v) w → anyD P md ops C L (f + 1) listed a w := by
  obtain ⟨hmi, hms, hmr⟩ := behind_spec hm
  intro f
  induction f with
  | zero =>
    intro listed a w hlm _ hr hy H
    have h1 := H.1 m hms
    rw [getD_set_ne true (Ne.symm hmi), hlm] at h1
    cases h1
  | succ f ih =>
    intro listed a w hlm hfree hr hy H
    have hun := (mem_ready.1 hr).1
    refine ⟨H.1, fun h => (by rw [h] at hr; cases hr), fun j hj o ho => ?_⟩
    rcases Nat.decEq j i with hji | hji
    · have h1 := H.2.2 j (ready_mono hj hji) o ho
      obtain ⟨hjun, oj, hoj, hall⟩ := mem_ready.1 hj
      have : o = oj := Option.some.inj (ho.symm.trans hoj)
      subst this
      have hjm : j ≠ m := fun e => hmr listed hun (e ▸ hj)
      have hnot : ∀ e ∈ o.after, Region.binds md e = true → e.on ≠ i := by
        intro e he hb heq
        have h2 := hall e he hb
        rw [heq, getD_both hun] at h2
        cases h2
      have h2 := stepC_put (hfree j o ho hji hjun hnot) (fun cs b => hsel i oi cs b hi) (fun cs b => hsel j o cs b ho) hy h1
      refine stepC_mono (fun a' w' h3 => ih (listed.setIfInBounds j true) a' w' ?_ ?_ (ready_mono hr (Ne.symm hji)) h3.1 ?_) h2
      · rw [getD_set_ne true hjm]; exact hlm
      · intro k ok hk hki hun' hno
        refine hfree k ok hk hki ?_ hno
        rcases Nat.decEq j k with hjk | hjk
        · rw [getD_set_ne true hjk] at hun'; exact hun'
        · subst hjk; exact hjun
      · rw [Array.setIfInBounds_comm _ _ hji]
        exact h3.2
    · subst hji
      have : o = oi := Option.some.inj (ho.symm.trans hi)
      subst this
      exact hy.step H.1 H
/-- The chain at the end. -/
def plainD (P : Program) (ops : Array Oper) (C : World → Prop) (L : Act → World → Prop) : List Oper → Act → World → Prop
  | [], a, w => L a w
  | o :: r, a, w => C w ∧ stepC P ops o a (plainD P ops C L r) w
def seqD (md : Region.Mode) (ops : Array Oper) : List Nat → Array Bool → Bool
  | [], listed => (List.range ops.size).all fun k => listed.getD k true
  | j :: js, listed => decide (Region.ready md ops listed = [j]) && seqD md ops js (listed.setIfInBounds j true)
theorem anyD_seqD : ∀ (js : List Nat) (listed : Array Bool) (a : Act) (w : World), inL' ops.size js = true → seqD md ops js listed = true → plainD P ops C L (pickL ops.toList js) a w → anyD P md ops C L js.length listed a w
  | [], _, _, _, _, hB, h => ⟨fun k hk => by
    simp only [seqD, List.all_eq_true] at hB
    exact hB k (by simpa using hk), h⟩
  | j :: js, listed, a, w, hl, hB, h => by
    simp only [inL', List.all_cons, Bool.and_eq_true, decide_eq_true_eq] at hl
    have h0 : ops[j]? = some ops[j] := Array.getElem?_eq_getElem hl.1
    have h0' : ops.toList[j]? = some ops[j] := by rw [Array.getElem?_toList, h0]
    simp only [seqD, Bool.and_eq_true, decide_eq_true_eq] at hB
    simp only [pickL, h0'] at h
    refine ⟨h.1, fun h1 => (by rw [hB.1] at h1; cases h1), fun i hi o' ho' => ?_⟩
    rw [hB.1] at hi
    have hik : i = j := by simpa using hi
    subst hik
    have : o' = ops[i] := Option.some.inj (ho'.symm.trans h0)
    subst this
    exact stepC_mono (fun a' w' h' => anyD_seqD js _ a' w' hl.2 hB.2 h') h.2
def lexD (md : Region.Mode) (ops : Array Oper) (m : Nat) (js : List Nat) : List Nat → Array Bool → Bool
  | [], listed => seqD md ops js listed
  | k :: is, listed => (Region.ready md ops listed).contains k && Region.free md ops listed k && ((ops[k]?).map readsOnly).getD false && behind md ops m k && !(listed.getD m true) && lexD md ops m js is (listed.setIfInBounds k true)
def lexDB (md : Region.Mode) (ops : Array Oper) (is js : List Nat) (m : Nat) : Bool := Region.noSelect ops && inL' ops.size is && inL' ops.size js && decide (is.length + js.length = ops.size) && lexD md ops m js is (Array.replicate ops.size false)
theorem anyD_lexD {js : List Nat} {m : Nat} (hsel : Region.noSelect ops = true) (hjs : inL' ops.size js = true) :
    ∀ (is : List Nat) (listed : Array Bool) (a : Act) (w : World), inL' ops.size is = true → lexD md ops m js is listed = true → C w →
      wpQuiet P ops C (fun a' => ∀ w', C w' → plainD P ops C L (pickL ops.toList js) a' w') (pickL ops.toList is) a → anyD P md ops C L (is.length + js.length) listed a w
  | [], listed, a, w, _, hx, hw, h => by
    rw [List.length_nil, Nat.zero_add]
    exact anyD_seqD js _ _ _ hjs (by simpa [lexD] using hx) (h w hw)
  | k :: is, listed, a, w, hl, hx, hw, h => by
    simp only [inL', List.all_cons, Bool.and_eq_true, decide_eq_true_eq] at hl
    have h0 : ops[k]? = some ops[k] := Array.getElem?_eq_getElem hl.1
    have h0' : ops.toList[k]? = some ops[k] := by rw [Array.getElem?_toList, h0]
    simp only [lexD, Bool.and_eq_true, h0, Option.map_some, Option.getD_some, Bool.not_eq_true'] at hx
    obtain ⟨⟨⟨⟨⟨hr, hf⟩, hro⟩, hbe⟩, hlm⟩, hx'⟩ := hx
    simp only [pickL, h0'] at h
    have hr' : k ∈ Region.ready md ops listed := by simpa using hr
    have hst : qOp P ops C k (wpQuiet P ops C (fun a' => ∀ w', C w' → plainD P ops C L (pickL ops.toList js) a' w') (pickL ops.toList is)) a := by unfold qOp; simp only [h0]; exact h
    obtain ⟨v, hy, hK⟩ := yieldsIn_of_qOp h0 hst
    have hp : PureIn P ops C ops[k] v a := by
      rcases hy with ⟨h1, h2⟩ | ⟨h1, h2⟩
      · exact .inl ⟨h1, fun w hw => pure_of_quiet hro (h2 w hw)⟩
      · exact .inr ⟨h1, h2⟩
    have e : (k :: is).length + js.length = (is.length + js.length) + 1 := by simp only [List.length_cons]; omega
    rw [e]
    exact anyD_first h0 (Region.noSelect_spec hsel) hbe (is.length + js.length) listed a w hlm (Region.free_spec h0 hf) hr' hp (anyD_lexD hsel hjs is _ _ w hl.2 hx' hw hK)
/-- THE REGION: the reads at the places is, the chain at the places js, whose last operation is m. -/
theorem region_last {id : Nat} {Q : Exit → Act → World → Prop} {a : Act} {w : World} {l : List Oper} (is js : List Nat) (m : Nat) (hm : P.follows .mixedOrders = true) (hB : lexDB .any l.toArray is js m = true) (hC : C { w with drawn := w.drawn + 1 })
    (h : wpQuiet P l.toArray C (fun a' => ∀ w', C w' → plainD P l.toArray C (fun a w => Q .normal a w) (pickL l js) a' w') (pickL l is) a) : (Code.region id l.toArray true).wp P Q a w := by
  simp only [lexDB, Bool.and_eq_true, decide_eq_true_eq] at hB
  obtain ⟨⟨⟨⟨hsel, his⟩, hjs⟩, hlen⟩, hlex⟩ := hB
  refine wp_region_any hm ?_
  have H := anyD_lexD (P := P) (C := C) (L := fun a w => Q .normal a w) hsel hjs is _ a _ his hlex hC h
  rw [hlen] at H
  exact anyD_wpAny (fun _ _ h => h) _ _ _ _ H
/- The steps of the chain. -/
variable {rest : List Oper} {o : Oper} {a : Act} {w : World}
theorem d_call (f : FuncId) (args : Array Value) (hw : Region.wanted o (yielded ops a.tmps) = true) (he : (execOp a.eval o).run P w = .ok (.enter f args) w) (hC : C w)
    (h : Calls P f args w fun e w'' => ∃ v, e = .returned v ∧ plainD P ops C L rest (a.put o.dst v) w'') : plainD P ops C L (o :: rest) a w := by
  refine ⟨hC, ?_⟩
  unfold stepC
  rw [if_pos hw, he]
  exact h
theorem d_val (v : Value) (w' : World) (hw : Region.wanted o (yielded ops a.tmps) = true) (he : (execOp a.eval o).run P w = .ok (.value v) w') (hC : C w) (h : plainD P ops C L rest (a.put o.dst v) w') : plainD P ops C L (o :: rest) a w := by
  refine ⟨hC, ?_⟩
  unfold stepC
  rw [if_pos hw, he]
  exact h
theorem d_skip (w' : World) (hw : Region.wanted o (yielded ops a.tmps) = true) (he : (execOp a.eval o).run P w = .ok .skip w') (hC : C w) (h : plainD P ops C L rest (a.put o.dst undef) w') : plainD P ops C L (o :: rest) a w := by
  refine ⟨hC, ?_⟩
  unfold stepC
  rw [if_pos hw, he]
  exact h
end
end Go.Proofs.YtgmokojdlbdjeaaGreatDoor
