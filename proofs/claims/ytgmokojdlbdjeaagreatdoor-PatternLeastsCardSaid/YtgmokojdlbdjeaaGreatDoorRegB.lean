/-
  A REGION THAT DRAWS ITS ORDER: reads of old memory, then a forced chain of calls that make memory and hand it back, WHERE SOME OF THE READS MAY COME LATER THAN THE FIRST CALLS. Every operation keeps the class C of worlds; the reads yield one value in all of C.
-/
import Derived.Test.YtgmokojdlbdjeaaGreatDoorReg
namespace Go.Proofs.YtgmokojdlbdjeaaGreatDoor
open Go.RowKit
open Go
section
variable {P : Program} {ops : Array Oper} {md : Region.Mode} {C : World → Prop} {L : Act → World → Prop}
/-- What is asked of an operation's outcome: it yields, and goes on; nothing else. -/
def plainUpon (P : Program) (o : Oper) (a : Act) (next : Act → World → Prop) : Result Next → Prop
  | .ok (.value v) w' => next (a.put o.dst v) w'
  | .ok .skip w' => next (a.put o.dst undef) w'
  | .ok (.enter f args) w' => Calls P f args w' fun e w'' => ∃ v, e = .returned v ∧ next (a.put o.dst v) w''
  | _ => False
def stepC (P : Program) (ops : Array Oper) (o : Oper) (a : Act) (next : Act → World → Prop) (w : World) : Prop :=
  if Region.wanted o (yielded ops a.tmps) then plainUpon P o a next ((execOp a.eval o).run P w) else next (a.put o.dst undef) w
def anyC (P : Program) (md : Region.Mode) (ops : Array Oper) (C : World → Prop) (L : Act → World → Prop) : Nat → Array Bool → Act → World → Prop
  | 0, listed, a, w => C w ∧ Region.ready md ops listed = [] ∧ L a w
  | f + 1, listed, a, w => C w ∧ Region.ready md ops listed ≠ [] ∧ ∀ i ∈ Region.ready md ops listed, ∀ o, ops[i]? = some o → stepC P ops o a (anyC P md ops C L f (listed.setIfInBounds i true)) w
theorem anyC.c {f : Nat} {listed : Array Bool} {a : Act} {w : World} (h : anyC P md ops C L f listed a w) : C w := by
  cases f with
  | zero => exact h.1
  | succ f => exact h.1
theorem plainUpon_mono {o : Oper} {a : Act} {K K' : Act → World → Prop} (h : ∀ a w, K a w → K' a w) {r : Result Next} (hr : plainUpon P o a K r) : plainUpon P o a K' r := by
  cases r with
  | ok n w' =>
    cases n <;> simp only [plainUpon] at hr ⊢
    case value => exact h _ _ hr
    case skip => exact h _ _ hr
    case enter => exact hr.mono fun e w'' ⟨v, he, hk⟩ => ⟨v, he, h _ _ hk⟩
  | halt x w' => exact hr
theorem anyC_wpAny {Q : Exit → Act → World → Prop} (hL : ∀ a w, L a w → Q .normal a w) : ∀ (f : Nat) (listed : Array Bool) (a : Act) (w : World), anyC P md ops C L f listed a w → wpAny P md ops Q f listed a w
  | 0, _, _, _, h => ⟨h.2.1, hL _ _ h.2.2⟩
  | f + 1, listed, a, w, h => ⟨fun h0 => absurd h0 h.2.1, fun i hi => by
    obtain ⟨_, o, ho, _⟩ := mem_ready.1 hi
    have h1 := h.2.2 i hi o ho
    unfold wpOp
    simp only [ho]
    unfold stepC at h1
    split
    · rename_i hw
      rw [if_pos hw] at h1
      refine .inl ?_
      unfold Oper.wp
      generalize (execOp a.eval o).run P w = r at h1
      cases r with
      | ok n w' =>
        cases n <;> simp only [plainUpon] at h1 <;> simp only [Oper.upon]
        case value => exact anyC_wpAny hL f _ _ _ h1
        case skip => exact anyC_wpAny hL f _ _ _ h1
        case enter => exact h1.mono fun e w'' ⟨v, he, hk⟩ => by subst he; exact anyC_wpAny hL f _ _ _ hk
      | halt x w' => exact absurd h1 (by simp [plainUpon])
    · rename_i hw
      rw [if_neg hw] at h1
      exact anyC_wpAny hL f _ _ _ h1⟩
/-- In state a operation o yields v in every world of C, which it leaves as it is. -/
def PureIn (P : Program) (ops : Array Oper) (C : World → Prop) (o : Oper) (v : Value) (a : Act) : Prop :=
  (Region.wanted o (yielded ops a.tmps) = true ∧ ∀ w, C w → ((execOp a.eval o).run P w = .ok (.value v) w ∨ ((execOp a.eval o).run P w = .ok .skip w ∧ v = undef))) ∨ (Region.wanted o (yielded ops a.tmps) = false ∧ v = undef)
theorem PureIn.step {o : Oper} {v : Value} {a : Act} {w : World} (h : PureIn P ops C o v a) (hw : C w) {K : Act → World → Prop} (hk : K (a.put o.dst v) w) : stepC P ops o a K w := by
  unfold stepC
  rcases h with ⟨h1, h2⟩ | ⟨h1, h2⟩
  · rw [if_pos h1]
    rcases h2 w hw with h3 | ⟨h3, h4⟩
    · rw [h3]; exact hk
    · rw [h3]; subst h4; exact hk
  · rw [if_neg (by rw [h1]; decide)]; subst h2; exact hk
theorem PureIn.of_same {o : Oper} {v : Value} {a a' : Act} (hy : PureIn P ops C o v a) (he : execOp a'.eval o = execOp a.eval o) (hw : Region.wanted o (yielded ops a'.tmps) = Region.wanted o (yielded ops a.tmps)) : PureIn P ops C o v a' := by
  unfold PureIn at *
  rw [he, hw]
  exact hy
theorem stepC_put {oi oj : Oper} {v : Value} (hap : oi.apart ops oj = true) (hsi : ∀ cs b, oi.op ≠ .select cs b) (hsj : ∀ cs b, oj.op ≠ .select cs b) {K : Act → World → Prop} {a : Act} {w : World}
    (hy : PureIn P ops C oi v a) (h : stepC P ops oj (a.put oi.dst v) K w) : stepC P ops oj a (fun a' w' => PureIn P ops C oi v a' ∧ K (a'.put oi.dst v) w') w := by
  obtain ⟨h1, h2, h3⟩ := Oper.apart_spec hap
  have keep : ∀ u, PureIn P ops C oi v (a.put oj.dst u) := fun u => hy.of_same (execOp_put oi hsi a oj.dst u h3) (wanted_put oi a oj.dst u h3)
  unfold stepC at *
  rw [wanted_put oj a oi.dst v h1, execOp_put oj hsj a oi.dst v h1] at h
  split
  · rename_i hw
    rw [if_pos hw] at h
    generalize (execOp a.eval oj).run P w = r at h
    cases r with
    | ok n w' =>
      cases n <;> simp only [plainUpon] at h ⊢
      case value u => exact ⟨keep u, by rw [← Act.put_comm a v u h2]; exact h⟩
      case skip => exact ⟨keep _, by rw [← Act.put_comm a v undef h2]; exact h⟩
      case enter => exact h.mono fun e w'' ⟨u, he, hk⟩ => ⟨u, he, keep u, by rw [← Act.put_comm a v u h2]; exact hk⟩
    | halt x w' => exact absurd h (by simp [plainUpon])
  · rename_i hw
    rw [if_neg hw] at h
    exact ⟨keep _, by rw [← Act.put_comm a v undef h2]; exact h⟩
theorem stepC_mono {o : Oper} {a : Act} {w : World} {K K' : Act → World → Prop} (h : ∀ a w, K a w → K' a w) (hr : stepC P ops o a K w) : stepC P ops o a K' w := by
  unfold stepC at *
  split
  · rename_i hw; rw [if_pos hw] at hr; exact plainUpon_mono h hr
  · rename_i hw; rw [if_neg hw] at hr; exact h _ _ hr
/-- A pure operation that may come up now may be taken first. -/
theorem anyC_first {i : Nat} {oi : Oper} {v : Value} (hi : ops[i]? = some oi) (hsel : ∀ (j : Nat) (o : Oper) cs b, ops[j]? = some o → o.op ≠ .select cs b) :
    ∀ (f : Nat) (listed : Array Bool) (a : Act) (w : World),
      (∀ j oj, ops[j]? = some oj → j ≠ i → listed.getD j true = false → (∀ e ∈ oj.after, Region.binds md e = true → e.on ≠ i) → oi.apart ops oj = true) →
      i ∈ Region.ready md ops listed → PureIn P ops C oi v a →
      anyC P md ops C L f (listed.setIfInBounds i true) (a.put oi.dst v) w → anyC P md ops C L (f + 1) listed a w := by
  intro f
  induction f with
  | zero =>
    intro listed a w _ hr hy H
    refine ⟨H.1, fun h => (by rw [h] at hr; cases hr), fun j hj o ho => ?_⟩
    rcases Nat.decEq j i with hji | hji
    · have := ready_mono hj hji
      rw [H.2.1] at this
      cases this
    · subst hji
      have : o = oi := Option.some.inj (ho.symm.trans hi)
      subst this
      exact hy.step H.1 H
  | succ f ih =>
    intro listed a w hfree hr hy H
    have hun := (mem_ready.1 hr).1
    refine ⟨H.1, fun h => (by rw [h] at hr; cases hr), fun j hj o ho => ?_⟩
    rcases Nat.decEq j i with hji | hji
    · have h1 := H.2.2 j (ready_mono hj hji) o ho
      obtain ⟨hjun, oj, hoj, hall⟩ := mem_ready.1 hj
      have : o = oj := Option.some.inj (ho.symm.trans hoj)
      subst this
      have hnot : ∀ e ∈ o.after, Region.binds md e = true → e.on ≠ i := by
        intro e he hb heq
        have h2 := hall e he hb
        rw [heq, getD_both hun] at h2
        cases h2
      have h2 := stepC_put (hfree j o ho hji hjun hnot) (fun cs b => hsel i oi cs b hi) (fun cs b => hsel j o cs b ho) hy h1
      refine stepC_mono (fun a' w' h3 => ih (listed.setIfInBounds j true) a' w' ?_ (ready_mono hr (Ne.symm hji)) h3.1 ?_) h2
      · intro k ok hk hki hun' hno
        refine hfree k ok hk hki ?_ hno
        rcases Nat.decEq j k with hjk | hjk
        · rw [getD_set_ne true hjk] at hun'; exact hun'
        · subst hjk; exact hjun
      · rw [Array.setIfInBounds_comm _ _ hji]
        exact h3.2
    · subst hji
      have : o = oi := Option.some.inj (ho.symm.trans hi)
      subst this
      exact hy.step H.1 H
/-- The chain at the end. -/
def plainList (P : Program) (ops : Array Oper) (C : World → Prop) (L : Act → World → Prop) : List Oper → Act → World → Prop
  | [], a, w => C w ∧ L a w
  | o :: r, a, w => C w ∧ stepC P ops o a (plainList P ops C L r) w
theorem anyC_seq : ∀ (l : List Oper) (k : Nat) (listed : Array Bool) (a : Act) (w : World), (∀ j, l[j]? = ops[k + j]?) → Region.seqB md ops l.length k listed = true → plainList P ops C L l a w → anyC P md ops C L l.length listed a w
  | [], _, _, _, _, _, hB, h => ⟨h.1, by simpa [Region.seqB] using hB, h.2⟩
  | o :: l, k, listed, a, w, hl, hB, h => by
    have h0 : ops[k]? = some o := by simpa using (hl 0).symm
    simp only [List.length_cons, Region.seqB, Bool.and_eq_true, decide_eq_true_eq] at hB
    refine ⟨h.1, fun h1 => (by rw [hB.1] at h1; cases h1), fun i hi o' ho' => ?_⟩
    rw [hB.1] at hi
    have hik : i = k := by simpa using hi
    subst hik
    have : o' = o := Option.some.inj (ho'.symm.trans h0)
    subst this
    exact stepC_mono (fun a' w' h' => anyC_seq l (i + 1) _ a' w' (fun j => by have := hl (j + 1); simpa [Nat.add_assoc, Nat.add_comm 1 j] using this) hB.2 h') h.2
/-- An operation that calls nothing. -/
def readsOnly (o : Oper) : Bool := match o.op with | .move _ | .assign _ | .load .. | .fieldAddr .. | .indexAddr .. | .binOp .. | .pick .. | .extract .. => true | _ => false
theorem pure_of_quiet {o : Oper} {a : Act} {v : Value} (hr : readsOnly o = true) {w : World} (h : o.quietAt P a C w v) : (execOp a.eval o).run P w = .ok (.value v) w ∨ ((execOp a.eval o).run P w = .ok .skip w ∧ v = undef) := by
  unfold Oper.quietAt at h
  have hne : ∀ f args w', (execOp a.eval o).run P w ≠ .ok (.enter f args) w' := by
    intro f args w' he
    unfold readsOnly at hr
    unfold execOp at he
    cases hop : o.op <;> rw [hop] at hr <;> simp only [Bool.false_eq_true] at hr <;> simp only [hop, Sem.run_bind, Sem.run_pure] at he <;> first | (cases he) | (revert he; generalize Sem.run P _ w = r; cases r <;> simp [Result.andThen] <;> (split <;> simp))
  generalize (execOp a.eval o).run P w = r at h hne
  cases r with
  | ok n w' =>
    cases n <;> simp only [Oper.quietUpon] at h
    case value u => obtain ⟨rfl, rfl⟩ := h; exact .inl rfl
    case skip => obtain ⟨rfl, rfl⟩ := h; exact .inr ⟨rfl, rfl⟩
    case enter f args => exact absurd rfl (hne f args w')
  | halt x w' => simp only [Oper.quietUpon] at h
def lexMix (md : Region.Mode) (ops : Array Oper) (g : Nat) : Nat → Nat → Array Bool → Bool
  | 0, k, listed => Region.seqB md ops g k listed
  | f + 1, k, listed => (Region.ready md ops listed).contains k && Region.free md ops listed k && ((ops[k]?).map readsOnly).getD false && lexMix md ops g f (k + 1) (listed.setIfInBounds k true)
def lexMixB (md : Region.Mode) (ops : Array Oper) (n : Nat) : Bool := Region.noSelect ops && decide (n ≤ ops.size) && lexMix md ops (ops.size - n) n 0 (Array.replicate ops.size false)
theorem anyC_lex {g : Nat} {B : Act → World → Prop} (hsel : Region.noSelect ops = true) (hB : ∀ listed a w, Region.seqB md ops g (ops.size - g) listed = true → B a w → anyC P md ops C L g listed a w) :
    ∀ (l : List Oper) (k : Nat) (listed : Array Bool) (a : Act) (w : World), (∀ j, j < l.length → l[j]? = ops[k + j]?) → k + l.length = ops.size - g → lexMix md ops g l.length k listed = true → C w →
      wpQuiet P ops C (fun a' => ∀ w', C w' → B a' w') l a → anyC P md ops C L (l.length + g) listed a w
  | [], k, listed, a, w, _, hk, hx, hw, h => by
    have hkn : k = ops.size - g := by simpa using hk
    rw [List.length_nil, Nat.zero_add]
    exact hB _ _ _ (by rw [← hkn]; simpa [lexMix] using hx) (h w hw)
  | o :: l, k, listed, a, w, hl, hk, hx, hw, h => by
    have h0 : ops[k]? = some o := by simpa using (hl 0 (by simp)).symm
    simp only [List.length_cons, lexMix, Bool.and_eq_true, h0, Option.map_some, Option.getD_some] at hx
    obtain ⟨⟨⟨hr, hf⟩, hro⟩, hx'⟩ := hx
    have hr' : k ∈ Region.ready md ops listed := by simpa using hr
    have hst : qOp P ops C k (wpQuiet P ops C (fun a' => ∀ w', C w' → B a' w') l) a := by unfold qOp; simp only [h0]; exact h
    obtain ⟨v, hy, hK⟩ := yieldsIn_of_qOp h0 hst
    have hp : PureIn P ops C o v a := by
      rcases hy with ⟨h1, h2⟩ | ⟨h1, h2⟩
      · exact .inl ⟨h1, fun w hw => pure_of_quiet hro (h2 w hw)⟩
      · exact .inr ⟨h1, h2⟩
    have e : (o :: l).length + g = (l.length + g) + 1 := by simp only [List.length_cons]; omega
    rw [e]
    exact anyC_first h0 (Region.noSelect_spec hsel) (l.length + g) listed a w (Region.free_spec h0 hf) hr' hp (anyC_lex hsel hB l (k + 1) _ _ w (fun j hj => by
      have := hl (j + 1) (by simp; omega)
      simpa [Nat.add_assoc, Nat.add_comm 1 j] using this) (by simp only [List.length_cons] at hk; omega) hx' hw hK)
/-- THE REGION. -/
theorem region_mix {id : Nat} {Q : Exit → Act → World → Prop} {a : Act} {w : World} {l : List Oper} (n : Nat) (hm : P.follows .mixedOrders = true) (hB : lexMixB .any l.toArray n = true) (hC : C { w with drawn := w.drawn + 1 })
    (h : wpQuiet P l.toArray C (fun a' => ∀ w', C w' → plainList P l.toArray C (fun a w => Q .normal a w) (l.drop n) a' w') (l.take n) a) : (Code.region id l.toArray true).wp P Q a w := by
  simp only [lexMixB, Bool.and_eq_true, decide_eq_true_eq] at hB
  obtain ⟨⟨hsel, hn⟩, hlex⟩ := hB
  have hn' : n ≤ l.length := by simpa using hn
  have htl : (l.take n).length = n := by simp; omega
  have hdl : (l.drop n).length = l.toArray.size - n := by simp
  refine wp_region_any hm ?_
  have hg : l.toArray.size - (l.toArray.size - n) = n := by omega
  have H := anyC_lex (md := .any) (L := fun a w => Q .normal a w) (g := l.toArray.size - n) (B := fun a' w' => plainList P l.toArray C (fun a w => Q .normal a w) (l.drop n) a' w') hsel (fun listed a w hs hb => by
    rw [hg, ← hdl] at hs
    have := anyC_seq (md := .any) (l.drop n) n listed a w (fun j => by simp [List.getElem?_drop]) hs hb
    rwa [hdl] at this) (l.take n) 0 (Array.replicate l.toArray.size false) a _ (fun j hj => by
    rw [htl] at hj
    simp [hj]) (by rw [hg, Nat.zero_add]; exact htl) (by rw [htl]; exact hlex) hC h
  have e : (l.take n).length + (l.toArray.size - n) = l.toArray.size := by rw [htl]; omega
  rw [e] at H
  exact anyC_wpAny (fun _ _ h => h) _ _ _ _ H
end
end Go.Proofs.YtgmokojdlbdjeaaGreatDoor
