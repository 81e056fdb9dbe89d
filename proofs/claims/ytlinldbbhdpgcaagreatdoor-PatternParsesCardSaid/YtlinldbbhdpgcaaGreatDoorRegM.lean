/-
  A REGION THAT DRAWS ITS ORDER, READS OLD MEMORY AND CALLS FUNCTIONS THAT MAKE NEW MEMORY: one walk in the order of the text; behind it, if need be, a forced tail (a store of the result).
  The class of worlds: 'w with new blocks behind and some draws' (World.grow).
-/
import Derived.WalkKit
import Derived.WalkLawsBesides
import Derived.Handy
import Derived.Lib.Hide
import Derived.Deep.QuietTactic
import Derived.BigQuiet
import Derived.StillTail
namespace Go.Proofs.YtlinldbbhdpgcaaGreatDoor
open Go.RowKit
open Go

/-- New blocks, and the count of draws. -/
structure Ext where
  objs : Array Obj
  drawn : Nat
instance extNonempty : Nonempty Ext := ⟨⟨#[], 0⟩⟩

/-- The world with new blocks behind, and another count of draws. -/
def grow (w : World) (x : Ext) : World := { w with heap := w.heap ++ x.objs, drawn := x.drawn }

theorem grow_block {w : World} {x : Ext} {b : Nat} (h : b < w.heap.size) : (grow w x).heap[b]? = w.heap[b]? := by
  show (w.heap ++ x.objs)[b]? = _
  rw [Array.getElem?_append_left h]
theorem grow_cell {w : World} {x : Ext} {b i : Nat} (h : b < w.heap.size) : (grow w x).cell? ⟨b, i, none⟩ = w.cell? ⟨b, i, none⟩ := World.cell?_of_block (a := ⟨b, i, none⟩) (grow_block h)
theorem grow_frozen {w : World} {x : Ext} {b i : Nat} (h : b < w.heap.size) : (grow w x).frozen? ⟨b, i, none⟩ = w.frozen? ⟨b, i, none⟩ := World.frozen?_of_block (a := ⟨b, i, none⟩) (grow_block h)
theorem below_grow (w : World) (x : Ext) : Below w.heap.size w (grow w x) :=
  ⟨rfl, rfl, rfl, by show w.heap.size ≤ (w.heap ++ x.objs).size; rw [Array.size_append]; omega, fun _ h => grow_block h⟩
theorem grow_of_below {w w' : World} (h : Below w.heap.size w w') : ∃ x, w' = grow w x := by
  refine ⟨⟨w'.heap.extract w.heap.size w'.heap.size, w'.drawn⟩, ?_⟩
  obtain ⟨heap, tape, drawn, os, output⟩ := w'
  obtain ⟨h1, h2, h3, h4, h5⟩ := h
  simp only at h1 h2 h3 h4 h5
  subst h1; subst h2; subst h3
  simp only [grow, World.mk.injEq, and_true]
  apply Array.ext_getElem?
  intro i
  by_cases hi : i < w.heap.size
  · rw [Array.getElem?_append_left hi]; exact h5 i hi
  · rw [Array.getElem?_append_right (by omega)]
    simp only [Array.getElem?_extract]
    by_cases hj : i < heap.size
    · rw [if_pos (by omega)]
      congr 1
      omega
    · rw [if_neg (by omega), Array.getElem?_eq_none (by omega)]
theorem grow_call {P : Program} {f : FuncId} {args : Array Value} {w : World} {x : Ext} {v : Value}
    (h : Calls P f args (grow w x) fun e w' => e = .returned v ∧ Below (grow w x).heap.size (grow w x) w') : Calls P f args (grow w x) fun e w'' => e = .returned v ∧ ∃ y, w'' = grow w y :=
  h.mono fun _ _ ⟨he, hb⟩ => ⟨he, grow_of_below ((below_grow w x).trans (hb.mono (below_grow w x).size))⟩
theorem grow_call_same {P : Program} {f : FuncId} {args : Array Value} {w : World} {x : Ext} {v : Value}
    (h : Calls P f args (grow w x) fun e w' => e = .returned v ∧ grow w x = w') : Calls P f args (grow w x) fun e w'' => e = .returned v ∧ ∃ y, w'' = grow w y :=
  h.mono fun _ _ ⟨he, hb⟩ => ⟨he, x, hb.symm⟩
theorem grow_call_drew {P : Program} {f : FuncId} {args : Array Value} {w : World} {x : Ext} {v : Value}
    (h : Calls P f args (grow w x) fun e w' => e = .returned v ∧ ∃ m, w' = (grow w x).drewN m) : Calls P f args (grow w x) fun e w'' => e = .returned v ∧ ∃ y, w'' = grow w y :=
  h.mono fun _ _ ⟨he, m, hb⟩ => ⟨he, ⟨x.objs, ((grow w x).drewN m).drawn⟩, hb⟩

section
variable {P : Program} {ops : Array Oper} {md : Region.Mode} {C : World → Prop}

/-- Whatever order is picked among the first n operations, each of them quiet in C; L behind f of them. -/
def headQ (P : Program) (md : Region.Mode) (ops : Array Oper) (C : World → Prop) (n : Nat) (L : Array Bool → Act → Prop) : Nat → Array Bool → Act → Prop
  | 0, listed, a => L listed a
  | f + 1, listed, a => Region.ready md ops listed ≠ [] ∧ ∀ i ∈ Region.ready md ops listed, i < n ∧ qOp P ops C i (headQ P md ops C n L f (listed.setIfInBounds i true)) a

theorem any_of_headQ {n g : Nat} {L : Array Bool → Act → Prop} {Q' : Exit → Act → World → Prop} (hL : ∀ listed a w, C w → L listed a → wpAny P md ops Q' g listed a w) :
    ∀ (f : Nat) (listed : Array Bool) (a : Act) (w : World), C w → headQ P md ops C n L f listed a → wpAny P md ops Q' (f + g) listed a w := by
  intro f
  induction f with
  | zero => intro listed a w hw h; rw [Nat.zero_add]; exact hL _ _ _ hw h
  | succ f ih =>
    intro listed a w hw h
    have e : f + 1 + g = (f + g) + 1 := by omega
    rw [e]
    exact ⟨fun h0 => absurd h0 h.1, fun i hi => wpOp_of_qOp hw (fun a' w' hw' h' => ih _ a' w' hw' h') (h.2 i hi).2⟩

theorem headQ_first {n i : Nat} {oi : Oper} {v : Value} {L : Array Bool → Act → Prop} (hi : ops[i]? = some oi) (hsel : ∀ (j : Nat) (o : Oper) cs b, ops[j]? = some o → o.op ≠ .select cs b)
    (hs : Region.sinkB md ops n = true) (hc : Region.chainB md ops n = true) (hn : n < ops.size) (hin : i < n)
    (hdone : ∀ listed a, L listed a → ∀ j ∈ Region.ready md ops listed, n ≤ j) :
    ∀ (f : Nat) (listed : Array Bool) (a : Act), HeadInv md ops n listed →
      (∀ j oj, ops[j]? = some oj → j ≠ i → listed.getD j true = false → (∀ e ∈ oj.after, Region.binds md e = true → e.on ≠ i) → oi.apart ops oj = true) →
      i ∈ Region.ready md ops listed → YieldsIn P ops C oi v a →
      headQ P md ops C n L f (listed.setIfInBounds i true) (a.put oi.dst v) → headQ P md ops C n L (f + 1) listed a := by
  intro f
  induction f with
  | zero =>
    intro listed a inv _ hr hy H
    have hun := (mem_ready.1 hr).1
    refine ⟨fun h => (by rw [h] at hr; cases hr), fun j hj => ?_⟩
    have hjn : j < n := Nat.lt_of_not_le fun h => tail_waits hs hc hn inv _ i rfl hin hun j h hj
    refine ⟨hjn, ?_⟩
    rcases Nat.decEq j i with hji | hji
    · have := hdone _ _ H j (ready_mono hj hji)
      omega
    · subst hji; exact hy.qOp hi H
  | succ f ih =>
    intro listed a inv hfree hr hy H
    have hun := (mem_ready.1 hr).1
    refine ⟨fun h => (by rw [h] at hr; cases hr), fun j hj => ?_⟩
    have hjn : j < n := Nat.lt_of_not_le fun h => tail_waits hs hc hn inv _ i rfl hin hun j h hj
    refine ⟨hjn, ?_⟩
    rcases Nat.decEq j i with hji | hji
    · have h1 := (H.2 j (ready_mono hj hji)).2
      obtain ⟨hjun, oj, hoj, hall⟩ := mem_ready.1 hj
      have hnot : ∀ e ∈ oj.after, Region.binds md e = true → e.on ≠ i := by
        intro e he hb heq
        have h2 := hall e he hb
        rw [heq, getD_both hun] at h2
        cases h2
      have h2 := qOp_put hoj (hfree j oj hoj hji hjun hnot) (fun cs b => hsel i oi cs b hi) (fun cs b => hsel j oj cs b hoj) hy h1
      refine qOp_mono (fun a' h3 => ih (listed.setIfInBounds j true) a' (inv.set hj hjn) ?_ (ready_mono hr (Ne.symm hji)) h3.1 ?_) h2
      · intro k ok hk hki hun' hno
        refine hfree k ok hk hki ?_ hno
        rcases Nat.decEq j k with hjk | hjk
        · rw [getD_set_ne true hjk] at hun'; exact hun'
        · subst hjk; exact hjun
      · rw [Array.setIfInBounds_comm _ _ hji]
        exact h3.2
    · subst hji; exact hy.qOp hi H

theorem headQ_lex {n g : Nat} {Lq : Act → Prop} (hsel : Region.noSelect ops = true) (hs : Region.sinkB md ops n = true) (hc : Region.chainB md ops n = true) (hn : n < ops.size) :
    ∀ (l : List Oper) (k : Nat) (listed : Array Bool) (a : Act), (∀ j, j < l.length → l[j]? = ops[k + j]?) → k + l.length = n → HeadInv md ops n listed →
    Region.lexHead md ops g l.length k listed = true → wpQuiet P ops C Lq l a →
    headQ P md ops C n (fun listed' a' => Region.seqB md ops g n listed' = true ∧ Lq a') l.length listed a := by
  intro l
  induction l with
  | nil =>
    intro k listed a _ hk _ hB h
    have hkn : k = n := by simpa using hk
    rw [hkn] at hB
    exact ⟨by simpa [Region.lexHead] using hB, h⟩
  | cons o l ih =>
    intro k listed a hl hk inv hB h
    have h0 : ops[k]? = some o := by simpa using (hl 0 (by simp)).symm
    simp only [List.length_cons, Region.lexHead, Bool.and_eq_true] at hB
    obtain ⟨⟨hr, hf⟩, hB'⟩ := hB
    have hkn : k < n := by simp only [List.length_cons] at hk; omega
    have hr' : k ∈ Region.ready md ops listed := by simpa using hr
    have hst : qOp P ops C k (wpQuiet P ops C Lq l) a := by unfold qOp; simp only [h0]; exact h
    obtain ⟨v, hy, hK⟩ := yieldsIn_of_qOp h0 hst
    refine headQ_first h0 (Region.noSelect_spec hsel) hs hc hn hkn (fun listed' a' hL => seqB_ready hL.1) l.length listed a inv (Region.free_spec h0 hf) hr' hy (ih (k + 1) _ _ (fun j hj => ?_) ?_ (inv.set hr' hkn) hB' hK)
    · have := hl (j + 1) (by simp; omega)
      simpa [Nat.add_assoc, Nat.add_comm 1 j] using this
    · simp only [List.length_cons] at hk; omega

/-- THE REGION: its first n operations quiet in C, in the order of the text; its tail forced, from every world of C. -/
theorem region_tail {id : Nat} {Q : Exit → Act → World → Prop} {a : Act} {w : World} {l : List Oper} (n : Nat) (hm : P.follows .mixedOrders = true) (hB : Region.lexTailB .any l.toArray n = true) (hC : C { w with drawn := w.drawn + 1 })
    (h : wpQuiet P l.toArray C (fun a' => ∀ w', C w' → wpList P l.toArray Q (l.drop n) a' w') (l.take n) a) : (Code.region id l.toArray true).wp P Q a w := by
  simp only [Region.lexTailB, Bool.and_eq_true, decide_eq_true_eq] at hB
  obtain ⟨⟨⟨⟨hsel, hn⟩, hs⟩, hc⟩, hlex⟩ := hB
  have hn' : n < l.length := by simpa using hn
  have htl : (l.take n).length = n := by simp; omega
  have hdl : (l.drop n).length = l.toArray.size - n := by simp
  have inv0 : HeadInv .any l.toArray n (Array.replicate l.toArray.size false) :=
    ⟨by simp, fun j oj _ hl => (by rw [getD_replicate_false] at hl; cases hl), fun t _ ht => getD_in (by simpa using ht) (getD_replicate_false _ _)⟩
  have H := headQ_lex (md := .any) (g := l.toArray.size - n) hsel hs hc hn (l.take n) 0 (Array.replicate l.toArray.size false) a (fun j hj => by
    rw [htl] at hj
    simp [hj]) (by simpa using htl) inv0 (by rw [htl]; exact hlex) h
  refine wp_region_any hm ?_
  have hfin := any_of_headQ (Q' := Q) (g := l.toArray.size - n) (fun listed a' w' hw' hL => by
    have := wpAny_of_seq (md := .any) (Q' := Q) (l.drop n) n listed a' w' (fun j => by simp [List.getElem?_drop]) (by rw [hdl]; exact hL.1) (hL.2 w' hw')
    rwa [hdl] at this) _ _ _ _ hC H
  have e : n + (l.toArray.size - n) = l.toArray.size := by omega
  rw [htl, e] at hfin
  exact hfin
end

theorem grow_start (w : World) : ∃ x, { w with drawn := w.drawn + 1 } = grow w x := ⟨⟨#[], w.drawn + 1⟩, by simp [grow]⟩

/-- A region whose operations read old memory and make new memory by calls alone. -/
theorem region_grow {P : Program} {id : Nat} {Q : Exit → Act → World → Prop} {a : Act} {w : World} {l : List Oper} (hm : P.follows .mixedOrders = true) (hB : Region.lexB .any l.toArray = true)
    (h : wpQuiet P l.toArray (fun w' => ∃ x, w' = grow w x) (fun a' => ∀ w', (∃ x, w' = grow w x) → Q .normal a' w') l a) : (Code.region id l.toArray true).wp P Q a w :=
  wp_region_quiet (C := fun w' => ∃ x, w' = grow w x) hm hB (grow_start w) (by simpa using h)
/-- The same with a forced tail from operation n on. -/
theorem region_grow_tail {P : Program} {id : Nat} {Q : Exit → Act → World → Prop} {a : Act} {w : World} {l : List Oper} (n : Nat) (hm : P.follows .mixedOrders = true) (hB : Region.lexTailB .any l.toArray n = true)
    (h : wpQuiet P l.toArray (fun w' => ∃ x, w' = grow w x) (fun a' => ∀ w', (∃ x, w' = grow w x) → wpList P l.toArray Q (l.drop n) a' w') (l.take n) a) : (Code.region id l.toArray true).wp P Q a w :=
  region_tail (C := fun w' => ∃ x, w' = grow w x) n hm hB (grow_start w) h
end Go.Proofs.YtlinldbbhdpgcaaGreatDoor
/-
  A REGION THAT DRAWS ITS ORDER: reads of old memory, then a forced chain of calls that make memory and hand it back, WHERE SOME OF THE READS MAY COME LATER THAN THE FIRST CALLS. Every operation keeps the class C of worlds; the reads yield one value in all of C.
-/
namespace Go.Proofs.YtlinldbbhdpgcaaGreatDoor
open Go.RowKit
open Go
section
variable {P : Program} {ops : Array Oper} {md : Region.Mode} {C : World → Prop} {L : Act → World → Prop}
/-- What is asked of an operation's outcome: it yields, and goes on; nothing else. -/
def plainUpon (P : Program) (o : Oper) (a : Act) (next : Act → World → Prop) : Result Next → Prop
  | .ok (.value v) w' => next (a.put o.dst v) w'
  | .ok .skip w' => next (a.put o.dst undef) w'
  | .ok (.enter f args) w' => Calls P f args w' fun e w'' => ∃ v, e = .returned v ∧ next (a.put o.dst v) w''
  | _ => False
def stepC (P : Program) (ops : Array Oper) (o : Oper) (a : Act) (next : Act → World → Prop) (w : World) : Prop :=
  if Region.wanted o (yielded ops a.tmps) then plainUpon P o a next ((execOp a.eval o).run P w) else next (a.put o.dst undef) w
def anyC (P : Program) (md : Region.Mode) (ops : Array Oper) (C : World → Prop) (L : Act → World → Prop) : Nat → Array Bool → Act → World → Prop
  | 0, listed, a, w => C w ∧ Region.ready md ops listed = [] ∧ L a w
  | f + 1, listed, a, w => C w ∧ Region.ready md ops listed ≠ [] ∧ ∀ i ∈ Region.ready md ops listed, ∀ o, ops[i]? = some o → stepC P ops o a (anyC P md ops C L f (listed.setIfInBounds i true)) w
theorem anyC.c {f : Nat} {listed : Array Bool} {a : Act} {w : World} (h : anyC P md ops C L f listed a w) : C w := by
  cases f with
  | zero => exact h.1
  | succ f => exact h.1
theorem plainUpon_mono {o : Oper} {a : Act} {K K' : Act → World → Prop} (h : ∀ a w, K a w → K' a w) {r : Result Next} (hr : plainUpon P o a K r) : plainUpon P o a K' r := by
  cases r with
  | ok n w' =>
    cases n <;> simp only [plainUpon] at hr ⊢
    case value => exact h _ _ hr
    case skip => exact h _ _ hr
    case enter => exact hr.mono fun e w'' ⟨v, he, hk⟩ => ⟨v, he, h _ _ hk⟩
  | halt x w' => exact hr
theorem anyC_wpAny {Q : Exit → Act → World → Prop} (hL : ∀ a w, L a w → Q .normal a w) : ∀ (f : Nat) (listed : Array Bool) (a : Act) (w : World), anyC P md ops C L f listed a w → wpAny P md ops Q f listed a w
  | 0, _, _, _, h => ⟨h.2.1, hL _ _ h.2.2⟩
  | f + 1, listed, a, w, h => ⟨fun h0 => absurd h0 h.2.1, fun i hi => by
    obtain ⟨_, o, ho, _⟩ := mem_ready.1 hi
    have h1 := h.2.2 i hi o ho
    unfold wpOp
    simp only [ho]
    unfold stepC at h1
    split
    · rename_i hw
      rw [if_pos hw] at h1
      refine .inl ?_
      unfold Oper.wp
      generalize (execOp a.eval o).run P w = r at h1
      cases r with
      | ok n w' =>
        cases n <;> simp only [plainUpon] at h1 <;> simp only [Oper.upon]
        case value => exact anyC_wpAny hL f _ _ _ h1
        case skip => exact anyC_wpAny hL f _ _ _ h1
        case enter => exact h1.mono fun e w'' ⟨v, he, hk⟩ => by subst he; exact anyC_wpAny hL f _ _ _ hk
      | halt x w' => exact absurd h1 (by simp [plainUpon])
    · rename_i hw
      rw [if_neg hw] at h1
      exact anyC_wpAny hL f _ _ _ h1⟩
/-- In state a operation o yields v in every world of C, which it leaves as it is. -/
def PureIn (P : Program) (ops : Array Oper) (C : World → Prop) (o : Oper) (v : Value) (a : Act) : Prop :=
  (Region.wanted o (yielded ops a.tmps) = true ∧ ∀ w, C w → ((execOp a.eval o).run P w = .ok (.value v) w ∨ ((execOp a.eval o).run P w = .ok .skip w ∧ v = undef))) ∨ (Region.wanted o (yielded ops a.tmps) = false ∧ v = undef)
theorem PureIn.step {o : Oper} {v : Value} {a : Act} {w : World} (h : PureIn P ops C o v a) (hw : C w) {K : Act → World → Prop} (hk : K (a.put o.dst v) w) : stepC P ops o a K w := by
  unfold stepC
  rcases h with ⟨h1, h2⟩ | ⟨h1, h2⟩
  · rw [if_pos h1]
    rcases h2 w hw with h3 | ⟨h3, h4⟩
    · rw [h3]; exact hk
    · rw [h3]; subst h4; exact hk
  · rw [if_neg (by rw [h1]; decide)]; subst h2; exact hk
theorem PureIn.of_same {o : Oper} {v : Value} {a a' : Act} (hy : PureIn P ops C o v a) (he : execOp a'.eval o = execOp a.eval o) (hw : Region.wanted o (yielded ops a'.tmps) = Region.wanted o (yielded ops a.tmps)) : PureIn P ops C o v a' := by
  unfold PureIn at *
  rw [he, hw]
  exact hy
theorem stepC_put {oi oj : Oper} {v : Value} (hap : oi.apart ops oj = true) (hsi : ∀ cs b, oi.op ≠ .select cs b) (hsj : ∀ cs b, oj.op ≠ .select cs b) {K : Act → World → Prop} {a : Act} {w : World}
    (hy : PureIn P ops C oi v a) (h : stepC P ops oj (a.put oi.dst v) K w) : stepC P ops oj a (fun a' w' => PureIn P ops C oi v a' ∧ K (a'.put oi.dst v) w') w := by
  obtain ⟨h1, h2, h3⟩ := Oper.apart_spec hap
  have keep : ∀ u, PureIn P ops C oi v (a.put oj.dst u) := fun u => hy.of_same (execOp_put oi hsi a oj.dst u h3) (wanted_put oi a oj.dst u h3)
  unfold stepC at *
  rw [wanted_put oj a oi.dst v h1, execOp_put oj hsj a oi.dst v h1] at h
  split
  · rename_i hw
    rw [if_pos hw] at h
    generalize (execOp a.eval oj).run P w = r at h
    cases r with
    | ok n w' =>
      cases n <;> simp only [plainUpon] at h ⊢
      case value u => exact ⟨keep u, by rw [← Act.put_comm a v u h2]; exact h⟩
      case skip => exact ⟨keep _, by rw [← Act.put_comm a v undef h2]; exact h⟩
      case enter => exact h.mono fun e w'' ⟨u, he, hk⟩ => ⟨u, he, keep u, by rw [← Act.put_comm a v u h2]; exact hk⟩
    | halt x w' => exact absurd h (by simp [plainUpon])
  · rename_i hw
    rw [if_neg hw] at h
    exact ⟨keep _, by rw [← Act.put_comm a v undef h2]; exact h⟩
theorem stepC_mono {o : Oper} {a : Act} {w : World} {K K' : Act → World → Prop} (h : ∀ a w, K a w → K' a w) (hr : stepC P ops o a K w) : stepC P ops o a K' w := by
  unfold stepC at *
  split
  · rename_i hw; rw [if_pos hw] at hr; exact plainUpon_mono h hr
  · rename_i hw; rw [if_neg hw] at hr; exact h _ _ hr
/-- A pure operation that may come up now may be taken first. -/
theorem anyC_first {i : Nat} {oi : Oper} {v : Value} (hi : ops[i]? = some oi) (hsel : ∀ (j : Nat) (o : Oper) cs b, ops[j]? = some o → o.op ≠ .select cs b) :
    ∀ (f : Nat) (listed : Array Bool) (a : Act) (w : World),
      (∀ j oj, ops[j]? = some oj → j ≠ i → listed.getD j true = false → (∀ e ∈ oj.after, Region.binds md e = true → e.on ≠ i) → oi.apart ops oj = true) →
      i ∈ Region.ready md ops listed → PureIn P ops C oi v a →
      anyC P md ops C L f (listed.setIfInBounds i true) (a.put oi.dst v) w → anyC P md ops C L (f + 1) listed a w := by
  intro f
  induction f with
  | zero =>
    intro listed a w _ hr hy H
    refine ⟨H.1, fun h => (by rw [h] at hr; cases hr), fun j hj o ho => ?_⟩
    rcases Nat.decEq j i with hji | hji
    · have := ready_mono hj hji
      rw [H.2.1] at this
      cases this
    · subst hji
      have : o = oi := Option.some.inj (ho.symm.trans hi)
      subst this
      exact hy.step H.1 H
  | succ f ih =>
    intro listed a w hfree hr hy H
    have hun := (mem_ready.1 hr).1
    refine ⟨H.1, fun h => (by rw [h] at hr; cases hr), fun j hj o ho => ?_⟩
    rcases Nat.decEq j i with hji | hji
    · have h1 := H.2.2 j (ready_mono hj hji) o ho
      obtain ⟨hjun, oj, hoj, hall⟩ := mem_ready.1 hj
      have : o = oj := Option.some.inj (ho.symm.trans hoj)
      subst this
      have hnot : ∀ e ∈ o.after, Region.binds md e = true → e.on ≠ i := by
        intro e he hb heq
        have h2 := hall e he hb
        rw [heq, getD_both hun] at h2
        cases h2
      have h2 := stepC_put (hfree j o ho hji hjun hnot) (fun cs b => hsel i oi cs b hi) (fun cs b => hsel j o cs b ho) hy h1
      refine stepC_mono (fun a' w' h3 => ih (listed.setIfInBounds j true) a' w' ?_ (ready_mono hr (Ne.symm hji)) h3.1 ?_) h2
      · intro k ok hk hki hun' hno
        refine hfree k ok hk hki ?_ hno
        rcases Nat.decEq j k with hjk | hjk
        · rw [getD_set_ne true hjk] at hun'; exact hun'
        · subst hjk; exact hjun
      · rw [Array.setIfInBounds_comm _ _ hji]
        exact h3.2
    · subst hji
      have : o = oi := Option.some.inj (ho.symm.trans hi)
      subst this
      exact hy.step H.1 H
/-- The chain at the end. -/
def plainList (P : Program) (ops : Array Oper) (C : World → Prop) (L : Act → World → Prop) : List Oper → Act → World → Prop
  | [], a, w => C w ∧ L a w
  | o :: r, a, w => C w ∧ stepC P ops o a (plainList P ops C L r) w
theorem anyC_seq : ∀ (l : List Oper) (k : Nat) (listed : Array Bool) (a : Act) (w : World), (∀ j, l[j]? = ops[k + j]?) → Region.seqB md ops l.length k listed = true → plainList P ops C L l a w → anyC P md ops C L l.length listed a w
  | [], _, _, _, _, _, hB, h => ⟨h.1, by simpa [Region.seqB] using hB, h.2⟩
  | o :: l, k, listed, a, w, hl, hB, h => by
    have h0 : ops[k]? = some o := by simpa using (hl 0).symm
    simp only [List.length_cons, Region.seqB, Bool.and_eq_true, decide_eq_true_eq] at hB
    refine ⟨h.1, fun h1 => (by rw [hB.1] at h1; cases h1), fun i hi o' ho' => ?_⟩
    rw [hB.1] at hi
    have hik : i = k := by simpa using hi
    subst hik
    have : o' = o := Option.some.inj (ho'.symm.trans h0)
    subst this
    exact stepC_mono (fun a' w' h' => anyC_seq l (i + 1) _ a' w' (fun j => by have := hl (j + 1); simpa [Nat.add_assoc, Nat.add_comm 1 j] using this) hB.2 h') h.2
/-- An operation that calls nothing. -/
def readsOnly (o : Oper) : Bool := match o.op with | .move _ | .assign _ | .load .. | .fieldAddr .. | .indexAddr .. | .binOp .. | .pick .. | .extract .. => true | _ => false
theorem pure_of_quiet {o : Oper} {a : Act} {v : Value} (hr : readsOnly o = true) {w : World} (h : o.quietAt P a C w v) : (execOp a.eval o).run P w = .ok (.value v) w ∨ ((execOp a.eval o).run P w = .ok .skip w ∧ v = undef) := by
  unfold Oper.quietAt at h
  have hne : ∀ f args w', (execOp a.eval o).run P w ≠ .ok (.enter f args) w' := by
    intro f args w' he
    unfold readsOnly at hr
    unfold execOp at he
    cases hop : o.op <;> rw [hop] at hr <;> simp only [Bool.false_eq_true] at hr <;> simp only [hop, Sem.run_bind, Sem.run_pure] at he <;> first | (cases he) | (revert he; generalize Sem.run P _ w = r; cases r <;> simp [Result.andThen] <;> (split <;> simp))
  generalize (execOp a.eval o).run P w = r at h hne
  cases r with
  | ok n w' =>
    cases n <;> simp only [Oper.quietUpon] at h
    case value u => obtain ⟨rfl, rfl⟩ := h; exact .inl rfl
    case skip => obtain ⟨rfl, rfl⟩ := h; exact .inr ⟨rfl, rfl⟩
    case enter f args => exact absurd rfl (hne f args w')
  | halt x w' => simp only [Oper.quietUpon] at h
def lexMix (md : Region.Mode) (ops : Array Oper) (g : Nat) : Nat → Nat → Array Bool → Bool
  | 0, k, listed => Region.seqB md ops g k listed
  | f + 1, k, listed => (Region.ready md ops listed).contains k && Region.free md ops listed k && ((ops[k]?).map readsOnly).getD false && lexMix md ops g f (k + 1) (listed.setIfInBounds k true)
def lexMixB (md : Region.Mode) (ops : Array Oper) (n : Nat) : Bool := Region.noSelect ops && decide (n ≤ ops.size) && lexMix md ops (ops.size - n) n 0 (Array.replicate ops.size false)
theorem anyC_lex {g : Nat} {B : Act → World → Prop} (hsel : Region.noSelect ops = true) (hB : ∀ listed a w, Region.seqB md ops g (ops.size - g) listed = true → B a w → anyC P md ops C L g listed a w) :
    ∀ (l : List Oper) (k : Nat) (listed : Array Bool) (a : Act) (w : World), (∀ j, j < l.length → l[j]? = ops[k + j]?) → k + l.length = ops.size - g → lexMix md ops g l.length k listed = true → C w →
      wpQuiet P ops C (fun a' => ∀ w', C w' → B a' w') l a → anyC P md ops C L (l.length + g) listed a w
  | [], k, listed, a, w, _, hk, hx, hw, h => by
    have hkn : k = ops.size - g := by simpa using hk
    rw [List.length_nil, Nat.zero_add]
    exact hB _ _ _ (by rw [← hkn]; simpa [lexMix] using hx) (h w hw)
  | o :: l, k, listed, a, w, hl, hk, hx, hw, h => by
    have h0 : ops[k]? = some o := by simpa using (hl 0 (by simp)).symm
    simp only [List.length_cons, lexMix, Bool.and_eq_true, h0, Option.map_some, Option.getD_some] at hx
    obtain ⟨⟨⟨hr, hf⟩, hro⟩, hx'⟩ := hx
    have hr' : k ∈ Region.ready md ops listed := by simpa using hr
    have hst : qOp P ops C k (wpQuiet P ops C (fun a' => ∀ w', C w' → B a' w') l) a := by unfold qOp; simp only [h0]; exact h
    obtain ⟨v, hy, hK⟩ := yieldsIn_of_qOp h0 hst
    have hp : PureIn P ops C o v a := by
      rcases hy with ⟨h1, h2⟩ | ⟨h1, h2⟩
      · exact .inl ⟨h1, fun w hw => pure_of_quiet hro (h2 w hw)⟩
      · exact .inr ⟨h1, h2⟩
    have e : (o :: l).length + g = (l.length + g) + 1 := by simp only [List.length_cons]; omega
    rw [e]
    exact anyC_first h0 (Region.noSelect_spec hsel) (l.length + g) listed a w (Region.free_spec h0 hf) hr' hp (anyC_lex hsel hB l (k + 1) _ _ w (fun j hj => by
      have := hl (j + 1) (by simp; omega)
      simpa [Nat.add_assoc, Nat.add_comm 1 j] using this) (by simp only [List.length_cons] at hk; omega) hx' hw hK)
/-- THE REGION. -/
theorem region_mix {id : Nat} {Q : Exit → Act → World → Prop} {a : Act} {w : World} {l : List Oper} (n : Nat) (hm : P.follows .mixedOrders = true) (hB : lexMixB .any l.toArray n = true) (hC : C { w with drawn := w.drawn + 1 })
    (h : wpQuiet P l.toArray C (fun a' => ∀ w', C w' → plainList P l.toArray C (fun a w => Q .normal a w) (l.drop n) a' w') (l.take n) a) : (Code.region id l.toArray true).wp P Q a w := by
  simp only [lexMixB, Bool.and_eq_true, decide_eq_true_eq] at hB
  obtain ⟨⟨hsel, hn⟩, hlex⟩ := hB
  have hn' : n ≤ l.length := by simpa using hn
  have htl : (l.take n).length = n := by simp; omega
  have hdl : (l.drop n).length = l.toArray.size - n := by simp
  refine wp_region_any hm ?_
  have hg : l.toArray.size - (l.toArray.size - n) = n := by omega
  have H := anyC_lex (md := .any) (L := fun a w => Q .normal a w) (g := l.toArray.size - n) (B := fun a' w' => plainList P l.toArray C (fun a w => Q .normal a w) (l.drop n) a' w') hsel (fun listed a w hs hb => by
    rw [hg, ← hdl] at hs
    have := anyC_seq (md := .any) (l.drop n) n listed a w (fun j => by simp [List.getElem?_drop]) hs hb
    rwa [hdl] at this) (l.take n) 0 (Array.replicate l.toArray.size false) a _ (fun j hj => by
    rw [htl] at hj
    simp [hj]) (by rw [hg, Nat.zero_add]; exact htl) (by rw [htl]; exact hlex) hC h
  have e : (l.take n).length + (l.toArray.size - n) = l.toArray.size := by rw [htl]; omega
  rw [e] at H
  exact anyC_wpAny (fun _ _ h => h) _ _ _ _ H
end
end Go.Proofs.YtlinldbbhdpgcaaGreatDoor
/-
  A REGION THAT DRAWS ITS ORDER: reads at given places, which may be taken first, and a forced chain of all the other operations.
-/
namespace Go.Proofs.YtlinldbbhdpgcaaGreatDoor
open Go.RowKit
open Go
section
variable {P : Program} {ops : Array Oper} {md : Region.Mode} {C : World → Prop} {L : Act → World → Prop}
def seqL (md : Region.Mode) (ops : Array Oper) : List Nat → Array Bool → Bool
  | [], listed => decide (Region.ready md ops listed = [])
  | j :: js, listed => decide (Region.ready md ops listed = [j]) && seqL md ops js (listed.setIfInBounds j true)
def pickL (l : List Oper) : List Nat → List Oper
  | [] => []
  | i :: r => match l[i]? with | some o => o :: pickL l r | none => pickL l r
def inL' (n : Nat) (is : List Nat) : Bool := is.all fun i => decide (i < n)
theorem anyC_seqL : ∀ (js : List Nat) (listed : Array Bool) (a : Act) (w : World), inL' ops.size js = true → seqL md ops js listed = true → plainList P ops C L (pickL ops.toList js) a w → anyC P md ops C L js.length listed a w
  | [], _, _, _, _, hB, h => ⟨h.1, by simpa [seqL] using hB, h.2⟩
  | j :: js, listed, a, w, hl, hB, h => by
    simp only [inL', List.all_cons, Bool.and_eq_true, decide_eq_true_eq] at hl
    have h0 : ops[j]? = some ops[j] := Array.getElem?_eq_getElem hl.1
    have h0' : ops.toList[j]? = some ops[j] := by rw [Array.getElem?_toList, h0]
    simp only [seqL, Bool.and_eq_true, decide_eq_true_eq] at hB
    simp only [pickL, h0'] at h
    refine ⟨h.1, fun h1 => (by rw [hB.1] at h1; cases h1), fun i hi o' ho' => ?_⟩
    rw [hB.1] at hi
    have hik : i = j := by simpa using hi
    subst hik
    have : o' = ops[i] := Option.some.inj (ho'.symm.trans h0)
    subst this
    exact stepC_mono (fun a' w' h' => anyC_seqL js _ a' w' hl.2 hB.2 h') h.2
def lexL (md : Region.Mode) (ops : Array Oper) (js : List Nat) : List Nat → Array Bool → Bool
  | [], listed => seqL md ops js listed
  | k :: is, listed => (Region.ready md ops listed).contains k && Region.free md ops listed k && ((ops[k]?).map readsOnly).getD false && lexL md ops js is (listed.setIfInBounds k true)
def lexLB (md : Region.Mode) (ops : Array Oper) (is js : List Nat) : Bool := Region.noSelect ops && inL' ops.size is && inL' ops.size js && decide (is.length + js.length = ops.size) && lexL md ops js is (Array.replicate ops.size false)
theorem anyC_lexL {js : List Nat} (hsel : Region.noSelect ops = true) (hjs : inL' ops.size js = true) :
    ∀ (is : List Nat) (listed : Array Bool) (a : Act) (w : World), inL' ops.size is = true → lexL md ops js is listed = true → C w →
      wpQuiet P ops C (fun a' => ∀ w', C w' → plainList P ops C L (pickL ops.toList js) a' w') (pickL ops.toList is) a → anyC P md ops C L (is.length + js.length) listed a w
  | [], listed, a, w, _, hx, hw, h => by
    rw [List.length_nil, Nat.zero_add]
    exact anyC_seqL js _ _ _ hjs (by simpa [lexL] using hx) (h w hw)
  | k :: is, listed, a, w, hl, hx, hw, h => by
    simp only [inL', List.all_cons, Bool.and_eq_true, decide_eq_true_eq] at hl
    have h0 : ops[k]? = some ops[k] := Array.getElem?_eq_getElem hl.1
    have h0' : ops.toList[k]? = some ops[k] := by rw [Array.getElem?_toList, h0]
    simp only [lexL, Bool.and_eq_true, h0, Option.map_some, Option.getD_some] at hx
    obtain ⟨⟨⟨hr, hf⟩, hro⟩, hx'⟩ := hx
    simp only [pickL, h0'] at h
    have hr' : k ∈ Region.ready md ops listed := by simpa using hr
    have hst : qOp P ops C k (wpQuiet P ops C (fun a' => ∀ w', C w' → plainList P ops C L (pickL ops.toList js) a' w') (pickL ops.toList is)) a := by unfold qOp; simp only [h0]; exact h
    obtain ⟨v, hy, hK⟩ := yieldsIn_of_qOp h0 hst
    have hp : PureIn P ops C ops[k] v a := by
      rcases hy with ⟨h1, h2⟩ | ⟨h1, h2⟩
      · exact .inl ⟨h1, fun w hw => pure_of_quiet hro (h2 w hw)⟩
      · exact .inr ⟨h1, h2⟩
    have e : (k :: is).length + js.length = (is.length + js.length) + 1 := by simp only [List.length_cons]; omega
    rw [e]
    exact anyC_first h0 (Region.noSelect_spec hsel) (is.length + js.length) listed a w (Region.free_spec h0 hf) hr' hp (anyC_lexL hsel hjs is _ _ w hl.2 hx' hw hK)
/-- THE REGION: the reads at the places is, the chain at the places js. -/
theorem region_pick {id : Nat} {Q : Exit → Act → World → Prop} {a : Act} {w : World} {l : List Oper} (is js : List Nat) (hm : P.follows .mixedOrders = true) (hB : lexLB .any l.toArray is js = true) (hC : C { w with drawn := w.drawn + 1 })
    (h : wpQuiet P l.toArray C (fun a' => ∀ w', C w' → plainList P l.toArray C (fun a w => Q .normal a w) (pickL l js) a' w') (pickL l is) a) : (Code.region id l.toArray true).wp P Q a w := by
  simp only [lexLB, Bool.and_eq_true, decide_eq_true_eq] at hB
  obtain ⟨⟨⟨⟨hsel, his⟩, hjs⟩, hlen⟩, hlex⟩ := hB
  refine wp_region_any hm ?_
  have H := anyC_lexL (P := P) (C := C) (L := fun a w => Q .normal a w) hsel hjs is _ a _ his hlex hC h
  rw [hlen] at H
  exact anyC_wpAny (fun _ _ h => h) _ _ _ _ H
end
end Go.Proofs.YtlinldbbhdpgcaaGreatDoor
/-
  A REGION THAT DRAWS ITS ORDER, BY A SCRIPT: reads at given places, which may be taken first; then as the script says: a read that may be taken now; the one operation that is ready; or either of two.
-/
namespace Go.Proofs.YtlinldbbhdpgcaaGreatDoor
open Go.RowKit
open Go
inductive Scr where
  | fin
  | read (k : Nat) (s : Scr)
  | op (k : Nat) (s : Scr)
  | both (i : Nat) (s : Scr) (j : Nat) (t : Scr)
section
variable {P : Program} {ops : Array Oper} {md : Region.Mode} {C : World → Prop} {L : Act → World → Prop}
def scrB (md : Region.Mode) (ops : Array Oper) : Scr → Nat → Array Bool → Bool
  | .fin, 0, listed => decide (Region.ready md ops listed = [])
  | .read k s, f + 1, listed => decide (k < ops.size) && (Region.ready md ops listed).contains k && Region.free md ops listed k && scrB md ops s f (listed.setIfInBounds k true)
  | .op k s, f + 1, listed => decide (Region.ready md ops listed = [k]) && scrB md ops s f (listed.setIfInBounds k true)
  | .both i s j t, f + 1, listed => decide (Region.ready md ops listed = [i, j]) && scrB md ops s f (listed.setIfInBounds i true) && scrB md ops t f (listed.setIfInBounds j true)
  | _, _, _ => false
/-- An operation of the list, in a chain. -/
def atOp (l : List Oper) (k : Nat) (p : Oper → Prop) : Prop := match l[k]? with | some o => p o | none => False
def scrS (P : Program) (l : List Oper) (C : World → Prop) (L : Act → World → Prop) : Scr → Act → World → Prop
  | .fin, a, w => C w ∧ L a w
  | .read k s, a, w => atOp l k fun o => ∃ v, PureIn P l.toArray C o v a ∧ scrS P l C L s (a.put o.dst v) w
  | .op k s, a, w => C w ∧ atOp l k fun o => stepC P l.toArray o a (scrS P l C L s) w
  | .both i s j t, a, w => C w ∧ (atOp l i fun o => stepC P l.toArray o a (scrS P l C L s) w) ∧ (atOp l j fun o => stepC P l.toArray o a (scrS P l C L t) w)
theorem atOp_some {l : List Oper} {k : Nat} {p : Oper → Prop} (h : atOp l k p) : ∃ o, l.toArray[k]? = some o ∧ p o := by
  unfold atOp at h
  split at h
  · rename_i o ho
    exact ⟨o, by simpa using ho, h⟩
  · exact absurd h (fun h => h)
theorem anyC_scr {l : List Oper} (hsel : Region.noSelect l.toArray = true) : ∀ (s : Scr) (f : Nat) (listed : Array Bool) (a : Act) (w : World), scrB md l.toArray s f listed = true → scrS P l C L s a w → anyC P md l.toArray C L f listed a w
  | .fin, 0, listed, a, w, hB, h => ⟨h.1, by simpa [scrB] using hB, h.2⟩
  | .fin, f + 1, listed, a, w, hB, _ => by simp [scrB] at hB
  | .read k s, 0, listed, a, w, hB, _ => by simp [scrB] at hB
  | .op k s, 0, listed, a, w, hB, _ => by simp [scrB] at hB
  | .both i s j t, 0, listed, a, w, hB, _ => by simp [scrB] at hB
  | .read k s, f + 1, listed, a, w, hB, h => by
    simp only [scrB, Bool.and_eq_true, decide_eq_true_eq] at hB
    obtain ⟨⟨⟨-, hr⟩, hf⟩, hB'⟩ := hB
    obtain ⟨o, ho, v, hp, hs⟩ := atOp_some h
    have hr' : k ∈ Region.ready md l.toArray listed := by simpa using hr
    exact anyC_first ho (Region.noSelect_spec hsel) f listed a w (Region.free_spec ho hf) hr' hp (anyC_scr hsel s f _ _ w hB' hs)
  | .op k s, f + 1, listed, a, w, hB, h => by
    simp only [scrB, Bool.and_eq_true, decide_eq_true_eq] at hB
    obtain ⟨o, ho, hs⟩ := atOp_some h.2
    refine ⟨h.1, fun h1 => (by rw [hB.1] at h1; cases h1), fun i hi o' ho' => ?_⟩
    rw [hB.1] at hi
    obtain rfl : i = k := by simpa using hi
    obtain rfl : o' = o := Option.some.inj (ho'.symm.trans ho)
    exact stepC_mono (fun a' w' h' => anyC_scr hsel s f _ a' w' hB.2 h') hs
  | .both i s j t, f + 1, listed, a, w, hB, h => by
    simp only [scrB, Bool.and_eq_true, decide_eq_true_eq] at hB
    obtain ⟨o1, ho1, hs1⟩ := atOp_some h.2.1
    obtain ⟨o2, ho2, hs2⟩ := atOp_some h.2.2
    refine ⟨h.1, fun h1 => (by rw [hB.1.1] at h1; cases h1), fun k hk o' ho' => ?_⟩
    rw [hB.1.1] at hk
    have hk' : k = i ∨ k = j := by simpa using hk
    rcases hk' with rfl | rfl
    · obtain rfl : o' = o1 := Option.some.inj (ho'.symm.trans ho1)
      exact stepC_mono (fun a' w' h' => anyC_scr hsel s f _ a' w' hB.1.2 h') hs1
    · obtain rfl : o' = o2 := Option.some.inj (ho'.symm.trans ho2)
      exact stepC_mono (fun a' w' h' => anyC_scr hsel t f _ a' w' hB.2 h') hs2
def lexS (md : Region.Mode) (ops : Array Oper) (s : Scr) (f : Nat) : List Nat → Array Bool → Bool
  | [], listed => scrB md ops s f listed
  | k :: is, listed => (Region.ready md ops listed).contains k && Region.free md ops listed k && ((ops[k]?).map readsOnly).getD false && lexS md ops s f is (listed.setIfInBounds k true)
def lexSB (md : Region.Mode) (ops : Array Oper) (is : List Nat) (s : Scr) : Bool := Region.noSelect ops && inL' ops.size is && decide (is.length ≤ ops.size) && lexS md ops s (ops.size - is.length) is (Array.replicate ops.size false)
theorem anyC_lexS {l : List Oper} {s : Scr} {f : Nat} (hsel : Region.noSelect l.toArray = true) :
    ∀ (is : List Nat) (listed : Array Bool) (a : Act) (w : World), inL' l.toArray.size is = true → lexS md l.toArray s f is listed = true → C w →
      wpQuiet P l.toArray C (fun a' => ∀ w', C w' → scrS P l C L s a' w') (pickL l is) a → anyC P md l.toArray C L (is.length + f) listed a w
  | [], listed, a, w, _, hx, hw, h => by
    rw [List.length_nil, Nat.zero_add]
    exact anyC_scr hsel s f _ _ w (by simpa [lexS] using hx) (h w hw)
  | k :: is, listed, a, w, hl, hx, hw, h => by
    simp only [inL', List.all_cons, Bool.and_eq_true, decide_eq_true_eq] at hl
    have h0 : l.toArray[k]? = some l.toArray[k] := Array.getElem?_eq_getElem hl.1
    have h0' : l[k]? = some l.toArray[k] := by rw [← h0]; simp
    simp only [lexS, Bool.and_eq_true, h0, Option.map_some, Option.getD_some] at hx
    obtain ⟨⟨⟨hr, hf⟩, hro⟩, hx'⟩ := hx
    simp only [pickL, h0'] at h
    have hr' : k ∈ Region.ready md l.toArray listed := by simpa using hr
    have hst : qOp P l.toArray C k (wpQuiet P l.toArray C (fun a' => ∀ w', C w' → scrS P l C L s a' w') (pickL l is)) a := by unfold qOp; simp only [h0]; exact h
    obtain ⟨v, hy, hK⟩ := yieldsIn_of_qOp h0 hst
    have hp : PureIn P l.toArray C l.toArray[k] v a := by
      rcases hy with ⟨h1, h2⟩ | ⟨h1, h2⟩
      · exact .inl ⟨h1, fun w hw => pure_of_quiet hro (h2 w hw)⟩
      · exact .inr ⟨h1, h2⟩
    have e : (k :: is).length + f = (is.length + f) + 1 := by simp only [List.length_cons]; omega
    rw [e]
    exact anyC_first h0 (Region.noSelect_spec hsel) (is.length + f) listed a w (Region.free_spec h0 hf) hr' hp (anyC_lexS hsel is _ _ w hl.2 hx' hw hK)
/-- THE REGION: the reads at the places is, then the script. -/
theorem region_script {id : Nat} {Q : Exit → Act → World → Prop} {a : Act} {w : World} {l : List Oper} (is : List Nat) (s : Scr) (hm : P.follows .mixedOrders = true) (hB : lexSB .any l.toArray is s = true) (hC : C { w with drawn := w.drawn + 1 })
    (h : wpQuiet P l.toArray C (fun a' => ∀ w', C w' → scrS P l C (fun a w => Q .normal a w) s a' w') (pickL l is) a) : (Code.region id l.toArray true).wp P Q a w := by
  simp only [lexSB, Bool.and_eq_true, decide_eq_true_eq] at hB
  obtain ⟨⟨⟨hsel, his⟩, hlen⟩, hlex⟩ := hB
  refine wp_region_any hm ?_
  have H := anyC_lexS (P := P) (C := C) (L := fun a w => Q .normal a w) hsel is _ a _ his hlex hC h
  rw [Nat.add_sub_cancel' hlen] at H
  exact anyC_wpAny (fun _ _ h => h) _ _ _ _ H
/-! What an operation's step asks. -/
section
variable {l : List Oper} {a : Act} {w : World} {K : Act → World → Prop} {o : Oper}
theorem step_call (f : FuncId) (args : Array Value) (hw : Region.wanted o (yielded ops a.tmps) = true) (he : (execOp a.eval o).run P w = .ok (.enter f args) w)
    (h : Calls P f args w fun e w'' => ∃ v, e = .returned v ∧ K (a.put o.dst v) w'') : stepC P ops o a K w := by
  unfold stepC
  rw [if_pos hw, he]
  exact h
theorem step_val (v : Value) (w' : World) (hw : Region.wanted o (yielded ops a.tmps) = true) (he : (execOp a.eval o).run P w = .ok (.value v) w') (h : K (a.put o.dst v) w') : stepC P ops o a K w := by
  unfold stepC
  rw [if_pos hw, he]
  exact h
theorem step_skip (w' : World) (hw : Region.wanted o (yielded ops a.tmps) = true) (he : (execOp a.eval o).run P w = .ok .skip w') (h : K (a.put o.dst undef) w') : stepC P ops o a K w := by
  unfold stepC
  rw [if_pos hw, he]
  exact h
theorem pure_val (v : Value) (hw : Region.wanted o (yielded ops a.tmps) = true) (he : ∀ w, (execOp a.eval o).run P w = .ok (.value v) w) : PureIn P ops C o v a := .inl ⟨hw, fun w _ => .inl (he w)⟩
end
end
end Go.Proofs.YtlinldbbhdpgcaaGreatDoor
/-
  A REGION THAT DRAWS ITS ORDER AND ENDS WITH A STORE TO OLD MEMORY: reads at given places, which may be taken first; then a forced chain of all the other operations; the last of these comes behind every read, and the class of worlds is left by it.
-/
namespace Go.Proofs.YtlinldbbhdpgcaaGreatDoor
open Go.RowKit
open Go
section
variable {P : Program} {ops : Array Oper} {md : Region.Mode} {C : World → Prop} {L : Act → World → Prop}
def anyD (P : Program) (md : Region.Mode) (ops : Array Oper) (C : World → Prop) (L : Act → World → Prop) : Nat → Array Bool → Act → World → Prop
  | 0, listed, a, w => (∀ k, k < ops.size → listed.getD k true = true) ∧ L a w
  | f + 1, listed, a, w => C w ∧ Region.ready md ops listed ≠ [] ∧ ∀ i ∈ Region.ready md ops listed, ∀ o, ops[i]? = some o → stepC P ops o a (anyD P md ops C L f (listed.setIfInBounds i true)) w
theorem ready_done {listed : Array Bool} (h : ∀ k, k < ops.size → listed.getD k true = true) : Region.ready md ops listed = [] := by
  cases hr : Region.ready md ops listed with
  | nil => rfl
  | cons i r =>
    obtain ⟨hun, o, ho, -⟩ := mem_ready.1 (show i ∈ Region.ready md ops listed by rw [hr]; simp)
    have h1 := h i (Array.getElem?_eq_some_iff.1 ho).1
    rw [hun] at h1
    cases h1
theorem anyD_wpAny {Q : Exit → Act → World → Prop} (hL : ∀ a w, L a w → Q .normal a w) : ∀ (f : Nat) (listed : Array Bool) (a : Act) (w : World), anyD P md ops C L f listed a w → wpAny P md ops Q f listed a w
  | 0, _, _, _, h => ⟨ready_done h.1, hL _ _ h.2⟩
  | f + 1, listed, a, w, h => ⟨fun h0 => absurd h0 h.2.1, fun i hi => by
    obtain ⟨_, o, ho, _⟩ := mem_ready.1 hi
    have h1 := h.2.2 i hi o ho
    unfold wpOp
    simp only [ho]
    unfold stepC at h1
    split
    · rename_i hw
      rw [if_pos hw] at h1
      refine .inl ?_
      unfold Oper.wp
      generalize (execOp a.eval o).run P w = r at h1
      cases r with
      | ok n w' =>
        cases n <;> simp only [plainUpon] at h1 <;> simp only [Oper.upon]
        case value => exact anyD_wpAny hL f _ _ _ h1
        case skip => exact anyD_wpAny hL f _ _ _ h1
        case enter => exact h1.mono fun e w'' ⟨v, he, hk⟩ => by subst he; exact anyD_wpAny hL f _ _ _ hk
      | halt x w' => exact absurd h1 (by simp [plainUpon])
    · rename_i hw
      rw [if_neg hw] at h1
      exact anyD_wpAny hL f _ _ _ h1⟩
/-- Operation m comes behind operation i. -/
def behind (md : Region.Mode) (ops : Array Oper) (m i : Nat) : Bool := decide (m ≠ i) && ((ops[m]?).map fun o => o.after.any fun e => Region.binds md e && e.on == i).getD false
theorem behind_spec {m i : Nat} (h : behind md ops m i = true) : m ≠ i ∧ m < ops.size ∧ ∀ listed, listed.getD i true = false → m ∉ Region.ready md ops listed := by
  simp only [behind, Bool.and_eq_true, decide_eq_true_eq] at h
  obtain ⟨h1, h2⟩ := h
  cases ho : ops[m]? with
  | none => rw [ho] at h2; cases h2
  | some o =>
    rw [ho] at h2
    simp only [Option.map_some, Option.getD_some] at h2
    refine ⟨h1, (Array.getElem?_eq_some_iff.1 ho).1, fun listed hun hr => ?_⟩
    obtain ⟨-, o', ho', hall⟩ := mem_ready.1 hr
    obtain rfl : o' = o := Option.some.inj (ho'.symm.trans ho)
    obtain ⟨e, he, h3⟩ := Array.any_eq_true'.1 h2
    simp only [Bool.and_eq_true, beq_iff_eq] at h3
    have h4 := hall e he h3.1
    rw [h3.2, getD_both hun] at h4
    cases h4
/-- A pure operation that may come up now may be taken first. -/
theorem anyD_first {i m : Nat} {oi : Oper} {v : Value} (hi : ops[i]? = some oi) (hsel : ∀ (j : Nat) (o : Oper) cs b, ops[j]? = some o → o.op ≠ .select cs b) (hm : behind md ops m i = true) :
    ∀ (f : Nat) (listed : Array Bool) (a : Act) (w : World), listed.getD m true = false →
      (∀ j oj, ops[j]? = some oj → j ≠ i → listed.getD j true = false → (∀ e ∈ oj.after, Region.binds md e = true → e.on ≠ i) → oi.apart ops oj = true) →
      i ∈ Region.ready md ops listed → PureIn P ops C oi v a →
      anyD P md ops C L f (listed.setIfInBounds i true) (a.put oi.dst v) w → anyD P md ops C L (f + 1) listed a w := by
  obtain ⟨hmi, hms, hmr⟩ := behind_spec hm
  intro f
  induction f with
  | zero =>
    intro listed a w hlm _ hr hy H
    have h1 := H.1 m hms
    rw [getD_set_ne true (Ne.symm hmi), hlm] at h1
    cases h1
  | succ f ih =>
    intro listed a w hlm hfree hr hy H
    have hun := (mem_ready.1 hr).1
    refine ⟨H.1, fun h => (by rw [h] at hr; cases hr), fun j hj o ho => ?_⟩
    rcases Nat.decEq j i with hji | hji
    · have h1 := H.2.2 j (ready_mono hj hji) o ho
      obtain ⟨hjun, oj, hoj, hall⟩ := mem_ready.1 hj
      have : o = oj := Option.some.inj (ho.symm.trans hoj)
      subst this
      have hjm : j ≠ m := fun e => hmr listed hun (e ▸ hj)
      have hnot : ∀ e ∈ o.after, Region.binds md e = true → e.on ≠ i := by
        intro e he hb heq
        have h2 := hall e he hb
        rw [heq, getD_both hun] at h2
        cases h2
      have h2 := stepC_put (hfree j o ho hji hjun hnot) (fun cs b => hsel i oi cs b hi) (fun cs b => hsel j o cs b ho) hy h1
      refine stepC_mono (fun a' w' h3 => ih (listed.setIfInBounds j true) a' w' ?_ ?_ (ready_mono hr (Ne.symm hji)) h3.1 ?_) h2
      · rw [getD_set_ne true hjm]; exact hlm
      · intro k ok hk hki hun' hno
        refine hfree k ok hk hki ?_ hno
        rcases Nat.decEq j k with hjk | hjk
        · rw [getD_set_ne true hjk] at hun'; exact hun'
        · subst hjk; exact hjun
      · rw [Array.setIfInBounds_comm _ _ hji]
        exact h3.2
    · subst hji
      have : o = oi := Option.some.inj (ho.symm.trans hi)
      subst this
      exact hy.step H.1 H
/-- The chain at the end. -/
def plainD (P : Program) (ops : Array Oper) (C : World → Prop) (L : Act → World → Prop) : List Oper → Act → World → Prop
  | [], a, w => L a w
  | o :: r, a, w => C w ∧ stepC P ops o a (plainD P ops C L r) w
def seqD (md : Region.Mode) (ops : Array Oper) : List Nat → Array Bool → Bool
  | [], listed => (List.range ops.size).all fun k => listed.getD k true
  | j :: js, listed => decide (Region.ready md ops listed = [j]) && seqD md ops js (listed.setIfInBounds j true)
theorem anyD_seqD : ∀ (js : List Nat) (listed : Array Bool) (a : Act) (w : World), inL' ops.size js = true → seqD md ops js listed = true → plainD P ops C L (pickL ops.toList js) a w → anyD P md ops C L js.length listed a w
  | [], _, _, _, _, hB, h => ⟨fun k hk => by
    simp only [seqD, List.all_eq_true] at hB
    exact hB k (by simpa using hk), h⟩
  | j :: js, listed, a, w, hl, hB, h => by
    simp only [inL', List.all_cons, Bool.and_eq_true, decide_eq_true_eq] at hl
    have h0 : ops[j]? = some ops[j] := Array.getElem?_eq_getElem hl.1
    have h0' : ops.toList[j]? = some ops[j] := by rw [Array.getElem?_toList, h0]
    simp only [seqD, Bool.and_eq_true, decide_eq_true_eq] at hB
    simp only [pickL, h0'] at h
    refine ⟨h.1, fun h1 => (by rw [hB.1] at h1; cases h1), fun i hi o' ho' => ?_⟩
    rw [hB.1] at hi
    have hik : i = j := by simpa using hi
    subst hik
    have : o' = ops[i] := Option.some.inj (ho'.symm.trans h0)
    subst this
    exact stepC_mono (fun a' w' h' => anyD_seqD js _ a' w' hl.2 hB.2 h') h.2
def lexD (md : Region.Mode) (ops : Array Oper) (m : Nat) (js : List Nat) : List Nat → Array Bool → Bool
  | [], listed => seqD md ops js listed
  | k :: is, listed => (Region.ready md ops listed).contains k && Region.free md ops listed k && ((ops[k]?).map readsOnly).getD false && behind md ops m k && !(listed.getD m true) && lexD md ops m js is (listed.setIfInBounds k true)
def lexDB (md : Region.Mode) (ops : Array Oper) (is js : List Nat) (m : Nat) : Bool := Region.noSelect ops && inL' ops.size is && inL' ops.size js && decide (is.length + js.length = ops.size) && lexD md ops m js is (Array.replicate ops.size false)
theorem anyD_lexD {js : List Nat} {m : Nat} (hsel : Region.noSelect ops = true) (hjs : inL' ops.size js = true) :
    ∀ (is : List Nat) (listed : Array Bool) (a : Act) (w : World), inL' ops.size is = true → lexD md ops m js is listed = true → C w →
      wpQuiet P ops C (fun a' => ∀ w', C w' → plainD P ops C L (pickL ops.toList js) a' w') (pickL ops.toList is) a → anyD P md ops C L (is.length + js.length) listed a w
  | [], listed, a, w, _, hx, hw, h => by
    rw [List.length_nil, Nat.zero_add]
    exact anyD_seqD js _ _ _ hjs (by simpa [lexD] using hx) (h w hw)
  | k :: is, listed, a, w, hl, hx, hw, h => by
    simp only [inL', List.all_cons, Bool.and_eq_true, decide_eq_true_eq] at hl
    have h0 : ops[k]? = some ops[k] := Array.getElem?_eq_getElem hl.1
    have h0' : ops.toList[k]? = some ops[k] := by rw [Array.getElem?_toList, h0]
    simp only [lexD, Bool.and_eq_true, h0, Option.map_some, Option.getD_some, Bool.not_eq_true'] at hx
    obtain ⟨⟨⟨⟨⟨hr, hf⟩, hro⟩, hbe⟩, hlm⟩, hx'⟩ := hx
    simp only [pickL, h0'] at h
    have hr' : k ∈ Region.ready md ops listed := by simpa using hr
    have hst : qOp P ops C k (wpQuiet P ops C (fun a' => ∀ w', C w' → plainD P ops C L (pickL ops.toList js) a' w') (pickL ops.toList is)) a := by unfold qOp; simp only [h0]; exact h
    obtain ⟨v, hy, hK⟩ := yieldsIn_of_qOp h0 hst
    have hp : PureIn P ops C ops[k] v a := by
      rcases hy with ⟨h1, h2⟩ | ⟨h1, h2⟩
      · exact .inl ⟨h1, fun w hw => pure_of_quiet hro (h2 w hw)⟩
      · exact .inr ⟨h1, h2⟩
    have e : (k :: is).length + js.length = (is.length + js.length) + 1 := by simp only [List.length_cons]; omega
    rw [e]
    exact anyD_first h0 (Region.noSelect_spec hsel) hbe (is.length + js.length) listed a w hlm (Region.free_spec h0 hf) hr' hp (anyD_lexD hsel hjs is _ _ w hl.2 hx' hw hK)
/-- THE REGION: the reads at the places is, the chain at the places js, whose last operation is m. -/
theorem region_last {id : Nat} {Q : Exit → Act → World → Prop} {a : Act} {w : World} {l : List Oper} (is js : List Nat) (m : Nat) (hm : P.follows .mixedOrders = true) (hB : lexDB .any l.toArray is js m = true) (hC : C { w with drawn := w.drawn + 1 })
    (h : wpQuiet P l.toArray C (fun a' => ∀ w', C w' → plainD P l.toArray C (fun a w => Q .normal a w) (pickL l js) a' w') (pickL l is) a) : (Code.region id l.toArray true).wp P Q a w := by
  simp only [lexDB, Bool.and_eq_true, decide_eq_true_eq] at hB
  obtain ⟨⟨⟨⟨hsel, his⟩, hjs⟩, hlen⟩, hlex⟩ := hB
  refine wp_region_any hm ?_
  have H := anyD_lexD (P := P) (C := C) (L := fun a w => Q .normal a w) hsel hjs is _ a _ his hlex hC h
  rw [hlen] at H
  exact anyD_wpAny (fun _ _ h => h) _ _ _ _ H
/- The steps of the chain. -/
variable {rest : List Oper} {o : Oper} {a : Act} {w : World}
theorem d_call (f : FuncId) (args : Array Value) (hw : Region.wanted o (yielded ops a.tmps) = true) (he : (execOp a.eval o).run P w = .ok (.enter f args) w) (hC : C w)
    (h : Calls P f args w fun e w'' => ∃ v, e = .returned v ∧ plainD P ops C L rest (a.put o.dst v) w'') : plainD P ops C L (o :: rest) a w := by
  refine ⟨hC, ?_⟩
  unfold stepC
  rw [if_pos hw, he]
  exact h
theorem d_val (v : Value) (w' : World) (hw : Region.wanted o (yielded ops a.tmps) = true) (he : (execOp a.eval o).run P w = .ok (.value v) w') (hC : C w) (h : plainD P ops C L rest (a.put o.dst v) w') : plainD P ops C L (o :: rest) a w := by
  refine ⟨hC, ?_⟩
  unfold stepC
  rw [if_pos hw, he]
  exact h
theorem d_skip (w' : World) (hw : Region.wanted o (yielded ops a.tmps) = true) (he : (execOp a.eval o).run P w = .ok .skip w') (hC : C w) (h : plainD P ops C L rest (a.put o.dst undef) w') : plainD P ops C L (o :: rest) a w := by
  refine ⟨hC, ?_⟩
  unfold stepC
  rw [if_pos hw, he]
  exact h
end
end Go.Proofs.YtlinldbbhdpgcaaGreatDoor
/-
  XRegL's region law, with the chain in the very world in which the region begins.
-/
namespace Go.Proofs.YtlinldbbhdpgcaaGreatDoor
open Go.RowKit
open Go
section
variable {P : Program} {ops : Array Oper} {md : Region.Mode} {C : World → Prop} {L : Act → World → Prop}
theorem anyD_lexD1 {js : List Nat} {m : Nat} (hsel : Region.noSelect ops = true) (hjs : inL' ops.size js = true) :
    ∀ (is : List Nat) (listed : Array Bool) (a : Act) (w : World), inL' ops.size is = true → lexD md ops m js is listed = true → C w →
      wpQuiet P ops C (fun a' => plainD P ops C L (pickL ops.toList js) a' w) (pickL ops.toList is) a → anyD P md ops C L (is.length + js.length) listed a w
  | [], listed, a, w, _, hx, hw, h => by
    rw [List.length_nil, Nat.zero_add]
    exact anyD_seqD js _ _ _ hjs (by simpa [lexD] using hx) h
  | k :: is, listed, a, w, hl, hx, hw, h => by
    simp only [inL', List.all_cons, Bool.and_eq_true, decide_eq_true_eq] at hl
    have h0 : ops[k]? = some ops[k] := Array.getElem?_eq_getElem hl.1
    have h0' : ops.toList[k]? = some ops[k] := by rw [Array.getElem?_toList, h0]
    simp only [lexD, Bool.and_eq_true, h0, Option.map_some, Option.getD_some, Bool.not_eq_true'] at hx
    obtain ⟨⟨⟨⟨⟨hr, hf⟩, hro⟩, hbe⟩, hlm⟩, hx'⟩ := hx
    simp only [pickL, h0'] at h
    have hr' : k ∈ Region.ready md ops listed := by simpa using hr
    have hst : qOp P ops C k (wpQuiet P ops C (fun a' => plainD P ops C L (pickL ops.toList js) a' w) (pickL ops.toList is)) a := by unfold qOp; simp only [h0]; exact h
    obtain ⟨v, hy, hK⟩ := yieldsIn_of_qOp h0 hst
    have hp : PureIn P ops C ops[k] v a := by
      rcases hy with ⟨h1, h2⟩ | ⟨h1, h2⟩
      · exact .inl ⟨h1, fun w hw => pure_of_quiet hro (h2 w hw)⟩
      · exact .inr ⟨h1, h2⟩
    have e : (k :: is).length + js.length = (is.length + js.length) + 1 := by simp only [List.length_cons]; omega
    rw [e]
    exact anyD_first h0 (Region.noSelect_spec hsel) hbe (is.length + js.length) listed a w hlm (Region.free_spec h0 hf) hr' hp (anyD_lexD1 hsel hjs is _ _ w hl.2 hx' hw hK)
/-- THE REGION: the reads at the places is, the chain at the places js, whose last operation is m. -/
theorem region_last1 {id : Nat} {Q : Exit → Act → World → Prop} {a : Act} {w : World} {l : List Oper} (is js : List Nat) (m : Nat) (hm : P.follows .mixedOrders = true) (hB : lexDB .any l.toArray is js m = true) (hC : C { w with drawn := w.drawn + 1 })
    (h : wpQuiet P l.toArray C (fun a' => plainD P l.toArray C (fun a w => Q .normal a w) (pickL l js) a' { w with drawn := w.drawn + 1 }) (pickL l is) a) : (Code.region id l.toArray true).wp P Q a w := by
  simp only [lexDB, Bool.and_eq_true, decide_eq_true_eq] at hB
  obtain ⟨⟨⟨⟨hsel, his⟩, hjs⟩, hlen⟩, hlex⟩ := hB
  refine wp_region_any hm ?_
  have H := anyD_lexD1 (P := P) (C := C) (L := fun a w => Q .normal a w) hsel hjs is _ a _ his hlex hC h
  rw [hlen] at H
  exact anyD_wpAny (fun _ _ h => h) _ _ _ _ H
end
end Go.Proofs.YtlinldbbhdpgcaaGreatDoor
