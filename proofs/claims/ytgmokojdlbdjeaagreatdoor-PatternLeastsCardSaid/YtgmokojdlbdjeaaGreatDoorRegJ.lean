/-
  A REGION THAT DRAWS ITS ORDER: reads at given places, which may be taken first; a chain of reads (taken as soon as they may) and of forced operations that yield one value and only make memory; ONE OPERATION THAT MAY COME AT ANY TIME among these (the new box of a result); a forced tail behind all of them.
-/
import Derived.Test.YtgmokojdlbdjeaaGreatDoorRegE
namespace Go.Proofs.YtgmokojdlbdjeaaGreatDoor
open Go.RowKit
open Go
/-- The operation yields v, and the world has grown. -/
def GrowsTo (P : Program) (v : Value) (w : World) : Result Next → Prop
  | .ok (.value u) w' => u = v ∧ ∃ y, w' = grow w y
  | .ok .skip w' => v = undef ∧ ∃ y, w' = grow w y
  | .ok (.enter f args) w' => Calls P f args w' fun e w'' => e = .returned v ∧ ∃ y, w'' = grow w y
  | _ => False
section
variable {P : Program} {md : Region.Mode} {C : World → Prop} {L : Act → World → Prop}
/-- The chain: a read (true), which may be taken now, or the one operation that is ready (false). -/
def floS (P : Program) (l : List Oper) (C : World → Prop) (K : Act → Prop) : List (Bool × Nat) → Act → Prop
  | [], a => K a
  | (true, k) :: js, a => atOp l k fun o => ∃ v, (∀ w, (execOp a.eval o).run P w = .ok (.value v) w) ∧ floS P l C K js (a.put o.dst v)
  | (false, k) :: js, a => atOp l k fun o => ∃ v, (∀ w, C w → GrowsTo P v w ((execOp a.eval o).run P w)) ∧ floS P l C K js (a.put o.dst v)
def tailS (P : Program) (l : List Oper) (C : World → Prop) (L : Act → World → Prop) : List Nat → Act → World → Prop
  | [], a, w => C w ∧ L a w
  | k :: js, a, w => C w ∧ atOp l k fun o => plainUpon P o a (tailS P l C L js) ((execOp a.eval o).run P w)
def floT (md : Region.Mode) (ops : Array Oper) (tl : List Nat) : List (Bool × Nat) → Array Bool → Bool
  | [], listed => seqL md ops tl listed
  | (true, k) :: js, listed => (Region.ready md ops listed).contains k && Region.free md ops listed k && floT md ops tl js (listed.setIfInBounds k true)
  | (false, k) :: js, listed => decide (Region.ready md ops listed = [k]) && floT md ops tl js (listed.setIfInBounds k true)
def floF (md : Region.Mode) (ops : Array Oper) (al : Nat) (tl : List Nat) : List (Bool × Nat) → Array Bool → Bool
  | [], listed => decide (Region.ready md ops listed = [al]) && seqL md ops tl (listed.setIfInBounds al true)
  | (true, k) :: js, listed => (Region.ready md ops listed).contains k && Region.free md ops listed k && floF md ops al tl js (listed.setIfInBounds k true)
  | (false, k) :: js, listed => ((Region.ready md ops listed).all fun i => i == k || i == al) && !(Region.ready md ops listed).isEmpty && floF md ops al tl js (listed.setIfInBounds k true) && floT md ops tl ((false, k) :: js) (listed.setIfInBounds al true)
def aparts (ops : Array Oper) (al : Nat) (js : List (Bool × Nat)) : Bool := match ops[al]? with
  | some o => js.all fun k => match ops[k.2]? with | some x => o.apart ops x | none => false
  | none => false
theorem atOp_some' {l : List Oper} {k : Nat} {p : Oper → Prop} (h : atOp l k p) : ∃ o, l[k]? = some o ∧ p o := by
  unfold atOp at h
  split at h
  · rename_i o ho
    exact ⟨o, ho, h⟩
  · exact absurd h (fun h => h)
theorem unguarded_at {l : List Oper} (hu : unguarded l = true) {k : Nat} {o : Oper} (h : l[k]? = some o) : o.guard = none := by
  have := List.all_eq_true.1 hu o (List.mem_of_getElem? h)
  simpa using this
theorem noSel_at {l : List Oper} (hs : Region.noSelect l.toArray = true) {k : Nat} {o : Oper} (h : l[k]? = some o) : ∀ cs b, o.op ≠ .select cs b := fun cs b => Region.noSelect_spec hs k o cs b (by simpa using h)
theorem stepC_plain {ops : Array Oper} {o : Oper} {a : Act} {w : World} {K : Act → World → Prop} (hg : o.guard = none) (h : plainUpon P o a K ((execOp a.eval o).run P w)) : stepC P ops o a K w := by
  unfold stepC
  rw [if_pos (by unfold Region.wanted; rw [hg])]
  exact h
theorem plain_of_grows {o : Oper} {a' : Act} {v : Value} {w : World} {K : Act → World → Prop} {r : Result Next} (h : GrowsTo P v w r) (hk : ∀ w', (∃ y, w' = grow w y) → K (a'.put o.dst v) w') : plainUpon P o a' K r := by
  cases r with
  | ok n w' =>
    cases n <;> simp only [GrowsTo] at h <;> simp only [plainUpon]
    case value => obtain ⟨rfl, h⟩ := h; exact hk _ h
    case skip => obtain ⟨rfl, h⟩ := h; exact hk _ h
    case enter => exact h.mono fun e w'' ⟨he, hw⟩ => ⟨v, he, hk _ hw⟩
  | halt x w' => exact absurd h (by simp [GrowsTo])
theorem anyC_tail {l : List Oper} (hu : unguarded l = true) : ∀ (js : List Nat) (listed : Array Bool) (a : Act) (w : World), seqL md l.toArray js listed = true → tailS P l C L js a w → anyC P md l.toArray C L js.length listed a w
  | [], _, _, _, hB, h => ⟨h.1, by simpa [seqL] using hB, h.2⟩
  | j :: js, listed, a, w, hB, h => by
    simp only [seqL, Bool.and_eq_true, decide_eq_true_eq] at hB
    obtain ⟨o, ho, hp⟩ := atOp_some' h.2
    refine ⟨h.1, fun h1 => (by rw [hB.1] at h1; cases h1), fun i hi o' ho' => ?_⟩
    rw [hB.1] at hi
    have hik : i = j := by simpa using hi
    subst hik
    obtain rfl : o' = o := Option.some.inj (ho'.symm.trans (by simpa using ho))
    exact stepC_plain (unguarded_at hu ho) (plainUpon_mono (fun a' w' h' => anyC_tail hu js _ a' w' hB.2 h') hp)
section
variable {G : Value → World → Prop} (hC : ∀ w y, C w → C (grow w y)) (hG : ∀ u w y, G u w → G u (grow w y))
include hC hG
theorem anyC_floT {l : List Oper} {tl : List Nat} {oa : Oper} (hu : unguarded l = true) (hs : Region.noSelect l.toArray = true) :
    ∀ (js : List (Bool × Nat)) (listed : Array Bool) (a : Act) (w : World) (u : Value), (∀ k ∈ js, ∀ o, l[k.2]? = some o → oa.apart l.toArray o = true) → floT md l.toArray tl js listed = true → C w → G u w →
      floS P l C (fun a' => ∀ u w', C w' → G u w' → tailS P l C L tl (a'.put oa.dst u) w') js a → anyC P md l.toArray C L (js.length + tl.length) listed (a.put oa.dst u) w
  | [], listed, a, w, u, _, hB, hw, hg, h => by
    rw [List.length_nil, Nat.zero_add]
    exact anyC_tail hu tl _ _ _ hB (h u w hw hg)
  | (true, j) :: js, listed, a, w, u, hap, hB, hw, hg, h => by
    simp only [floT, Bool.and_eq_true] at hB
    obtain ⟨⟨hr, hf⟩, hB'⟩ := hB
    obtain ⟨o, ho, v, hv, hs'⟩ := atOp_some' h
    have h0 : l.toArray[j]? = some o := by simpa using ho
    have e : ((true, j) :: js).length + tl.length = (js.length + tl.length) + 1 := by simp only [List.length_cons]; omega
    rw [e]
    have hr' : j ∈ Region.ready md l.toArray listed := by simpa using hr
    obtain ⟨h1, h2, h3⟩ := Oper.apart_spec (hap (true, j) (by simp) o ho)
    have hp : PureIn P l.toArray C o v (a.put oa.dst u) := .inl ⟨by unfold Region.wanted; rw [unguarded_at hu ho], fun w _ => .inl (by rw [execOp_put o (noSel_at hs ho) a oa.dst u h1]; exact hv w)⟩
    refine anyC_first h0 (Region.noSelect_spec hs) (js.length + tl.length) listed _ w (Region.free_spec h0 hf) hr' hp ?_
    rw [Act.put_comm a u v h2]
    exact anyC_floT hu hs js _ _ _ u (fun k hk => hap k (by simp [hk])) hB' hw hg hs'
  | (false, j) :: js, listed, a, w, u, hap, hB, hw, hg, h => by
    simp only [floT, Bool.and_eq_true, decide_eq_true_eq] at hB
    obtain ⟨o, ho, v, hv, hr⟩ := atOp_some' h
    have e : ((false, j) :: js).length + tl.length = (js.length + tl.length) + 1 := by simp only [List.length_cons]; omega
    rw [e]
    refine ⟨hw, fun h1 => (by rw [hB.1] at h1; cases h1), fun i hi o' ho' => ?_⟩
    rw [hB.1] at hi
    have hik : i = j := by simpa using hi
    subst hik
    obtain rfl : o' = o := Option.some.inj (ho'.symm.trans (by simpa using ho))
    obtain ⟨h1, h2, h3⟩ := Oper.apart_spec (hap (false, i) (by simp) o' ho)
    refine stepC_plain (unguarded_at hu ho) ?_
    rw [execOp_put o' (noSel_at hs ho) a oa.dst u h1]
    refine plain_of_grows (hv w hw) ?_
    rintro w' ⟨y, rfl⟩
    rw [Act.put_comm a u v h2]
    exact anyC_floT hu hs js _ _ _ u (fun k hk => hap k (by simp [hk])) hB.2 (hC _ _ hw) (hG _ _ _ hg) hr
theorem anyC_floF {l : List Oper} {al : Nat} {tl : List Nat} {oa : Oper} (hu : unguarded l = true) (hs : Region.noSelect l.toArray = true) (hoa : l[al]? = some oa)
    (ha : ∀ (a : Act) w, C w → ∃ u w', (execOp a.eval oa).run P w = .ok (.value u) w' ∧ (∃ y, w' = grow w y) ∧ G u w') (hal : ∀ (a : Act) t v, (execOp (a.put t v).eval oa) = execOp a.eval oa) :
    ∀ (js : List (Bool × Nat)) (listed : Array Bool) (a : Act) (w : World), (∀ k ∈ js, ∀ o, l[k.2]? = some o → oa.apart l.toArray o = true) → floF md l.toArray al tl js listed = true → C w →
      floS P l C (fun a' => ∀ u w', C w' → G u w' → tailS P l C L tl (a'.put oa.dst u) w') js a → anyC P md l.toArray C L (js.length + 1 + tl.length) listed a w
  | [], listed, a, w, _, hB, hw, h => by
    simp only [floF, Bool.and_eq_true, decide_eq_true_eq] at hB
    rw [List.length_nil, Nat.zero_add, Nat.add_comm]
    refine ⟨hw, fun h1 => (by rw [hB.1] at h1; cases h1), fun i hi o' ho' => ?_⟩
    rw [hB.1] at hi
    have hik : i = al := by simpa using hi
    subst hik
    obtain rfl : o' = oa := Option.some.inj (ho'.symm.trans (by simpa using hoa))
    refine stepC_plain (unguarded_at hu hoa) ?_
    obtain ⟨u, w', he, ⟨y, rfl⟩, hg⟩ := ha a w hw
    rw [he]
    exact anyC_tail hu tl _ _ _ hB.2 (h u _ (hC _ _ hw) hg)
  | (true, j) :: js, listed, a, w, hap, hB, hw, h => by
    simp only [floF, Bool.and_eq_true] at hB
    obtain ⟨⟨hr, hf⟩, hB'⟩ := hB
    obtain ⟨o, ho, v, hv, hs'⟩ := atOp_some' h
    have h0 : l.toArray[j]? = some o := by simpa using ho
    have e : ((true, j) :: js).length + 1 + tl.length = (js.length + 1 + tl.length) + 1 := by simp only [List.length_cons]; omega
    rw [e]
    have hr' : j ∈ Region.ready md l.toArray listed := by simpa using hr
    have hp : PureIn P l.toArray C o v a := .inl ⟨by unfold Region.wanted; rw [unguarded_at hu ho], fun w _ => .inl (hv w)⟩
    exact anyC_first h0 (Region.noSelect_spec hs) (js.length + 1 + tl.length) listed _ w (Region.free_spec h0 hf) hr' hp (anyC_floF hu hs hoa ha hal js _ _ _ (fun k hk => hap k (by simp [hk])) hB' hw hs')
  | (false, j) :: js, listed, a, w, hap, hB, hw, h => by
    have hS := h
    simp only [floF, Bool.and_eq_true, List.all_eq_true, Bool.or_eq_true, beq_iff_eq] at hB
    obtain ⟨⟨⟨hr, hne⟩, hB1⟩, hB2⟩ := hB
    obtain ⟨o, ho, v, hv, hr'⟩ := atOp_some' h
    have e : ((false, j) :: js).length + 1 + tl.length = (js.length + 1 + tl.length) + 1 := by simp only [List.length_cons]; omega
    rw [e]
    refine ⟨hw, fun h1 => (by rw [h1] at hne; simp at hne), fun i hi o' ho' => ?_⟩
    rcases Nat.decEq i al with hia | hia
    · have hij : i = j := by
        rcases hr i hi with h1 | h1
        · exact h1
        · exact absurd h1 hia
      subst hij
      obtain rfl : o' = o := Option.some.inj (ho'.symm.trans (by simpa using ho))
      refine stepC_plain (unguarded_at hu ho) (plain_of_grows (hv w hw) ?_)
      rintro w' ⟨y, rfl⟩
      exact anyC_floF hu hs hoa ha hal js _ _ _ (fun k hk => hap k (by simp [hk])) hB1 (hC _ _ hw) hr'
    · subst hia
      obtain rfl : o' = oa := Option.some.inj (ho'.symm.trans (by simpa using hoa))
      refine stepC_plain (unguarded_at hu hoa) ?_
      obtain ⟨u, w', he, ⟨y, rfl⟩, hg⟩ := ha a w hw
      rw [he]
      have := anyC_floT hC hG hu hs (md := md) (L := L) ((false, j) :: js) _ a (grow w y) u hap hB2 (hC _ _ hw) hg hS
      have e2 : ((false, j) :: js).length + tl.length = js.length + 1 + tl.length := by simp
      rw [e2] at this
      exact this
end
def lexK (md : Region.Mode) (ops : Array Oper) (K : Array Bool → Bool) : List Nat → Array Bool → Bool
  | [], listed => K listed
  | k :: is, listed => (Region.ready md ops listed).contains k && Region.free md ops listed k && ((ops[k]?).map readsOnly).getD false && lexK md ops K is (listed.setIfInBounds k true)
theorem anyC_lexK {l : List Oper} {f : Nat} {B : Array Bool → Bool} {K : Act → World → Prop} (hsel : Region.noSelect l.toArray = true) (hK : ∀ listed a w, B listed = true → C w → K a w → anyC P md l.toArray C L f listed a w) :
    ∀ (is : List Nat) (listed : Array Bool) (a : Act) (w : World), inL' l.toArray.size is = true → lexK md l.toArray B is listed = true → C w →
      wpQuiet P l.toArray C (fun a' => ∀ w', C w' → K a' w') (pickL l is) a → anyC P md l.toArray C L (is.length + f) listed a w
  | [], listed, a, w, _, hx, hw, h => by
    rw [List.length_nil, Nat.zero_add]
    exact hK _ _ _ hx hw (h w hw)
  | k :: is, listed, a, w, hl, hx, hw, h => by
    simp only [inL', List.all_cons, Bool.and_eq_true, decide_eq_true_eq] at hl
    have h0 : l.toArray[k]? = some l.toArray[k] := Array.getElem?_eq_getElem hl.1
    have h0' : l[k]? = some l.toArray[k] := by rw [← h0]; simp
    simp only [lexK, Bool.and_eq_true, h0, Option.map_some, Option.getD_some] at hx
    obtain ⟨⟨⟨hr, hf⟩, hro⟩, hx'⟩ := hx
    simp only [pickL, h0'] at h
    have hr' : k ∈ Region.ready md l.toArray listed := by simpa using hr
    have hst : qOp P l.toArray C k (wpQuiet P l.toArray C (fun a' => ∀ w', C w' → K a' w') (pickL l is)) a := by unfold qOp; simp only [h0]; exact h
    obtain ⟨v, hy, hK'⟩ := yieldsIn_of_qOp h0 hst
    have hp : PureIn P l.toArray C l.toArray[k] v a := by
      rcases hy with ⟨h1, h2⟩ | ⟨h1, h2⟩
      · exact .inl ⟨h1, fun w hw => pure_of_quiet hro (h2 w hw)⟩
      · exact .inr ⟨h1, h2⟩
    have e : (k :: is).length + f = (is.length + f) + 1 := by simp only [List.length_cons]; omega
    rw [e]
    exact anyC_first h0 (Region.noSelect_spec hsel) (is.length + f) listed a w (Region.free_spec h0 hf) hr' hp (anyC_lexK hsel hK is _ _ w hl.2 hx' hw hK')
def lexFB (md : Region.Mode) (ops : Array Oper) (is : List Nat) (js : List (Bool × Nat)) (al : Nat) (tl : List Nat) : Bool :=
  Region.noSelect ops && inL' ops.size is && decide (is.length + (js.length + 1 + tl.length) = ops.size) && aparts ops al js && lexK md ops (floF md ops al tl js) is (Array.replicate ops.size false)
theorem aparts_spec {l : List Oper} {al : Nat} {js : List (Bool × Nat)} (h : aparts l.toArray al js = true) : ∃ oa, l[al]? = some oa ∧ ∀ k ∈ js, ∀ o, l[k.2]? = some o → oa.apart l.toArray o = true := by
  unfold aparts at h
  split at h
  · rename_i oa hoa
    refine ⟨oa, by simpa using hoa, fun k hk o ho => ?_⟩
    have := List.all_eq_true.1 h k hk
    simp only [List.getElem?_toArray, ho] at this
    exact this
  · cases h
/-- THE REGION: the reads is, the chain js, the operation al at any time beside it, the tail tl. -/
theorem region_float {id : Nat} {Q : Exit → Act → World → Prop} {a : Act} {w : World} {l : List Oper} (G : Value → World → Prop) (is : List Nat) (js : List (Bool × Nat)) (al : Nat) (tl : List Nat) (hm : P.follows .mixedOrders = true) (hu : unguarded l = true) (hB : lexFB .any l.toArray is js al tl = true)
    (hC : ∀ w y, C w → C (grow w y)) (hG : ∀ u w y, G u w → G u (grow w y)) (hC0 : C { w with drawn := w.drawn + 1 })
    (ha : atOp l al fun oa => (∀ (a : Act) w, C w → ∃ u w', (execOp a.eval oa).run P w = .ok (.value u) w' ∧ (∃ y, w' = grow w y) ∧ G u w') ∧ (∀ (a : Act) t v, (execOp (Act.put a t v).eval oa) = execOp a.eval oa))
    (h : wpQuiet P l.toArray C (fun a' => ∀ w', C w' → floS P l C (fun a' => ∀ u w', C w' → G u w' → atOp l al fun oa => tailS P l C (fun a w => Q .normal a w) tl (a'.put oa.dst u) w') js a') (pickL l is) a) : (Code.region id l.toArray true).wp P Q a w := by
  simp only [lexFB, Bool.and_eq_true, decide_eq_true_eq] at hB
  obtain ⟨⟨⟨⟨hsel, his⟩, hlen⟩, hap⟩, hlex⟩ := hB
  obtain ⟨oa, hoa, hap'⟩ := aparts_spec hap
  have ha' : _ := (by unfold atOp at ha; rw [hoa] at ha; exact ha : (∀ (a : Act) w, C w → ∃ u w', (execOp a.eval oa).run P w = .ok (.value u) w' ∧ (∃ y, w' = grow w y) ∧ G u w') ∧ (∀ (a : Act) t v, (execOp (Act.put a t v).eval oa) = execOp a.eval oa))
  refine wp_region_any hm ?_
  have H := anyC_lexK (P := P) (C := C) (md := .any) (L := fun a w => Q .normal a w) (f := js.length + 1 + tl.length) (B := floF .any l.toArray al tl js) (K := fun a' w' => floS P l C (fun a' => ∀ u w', C w' → G u w' → atOp l al fun oa => tailS P l C (fun a w => Q .normal a w) tl (a'.put oa.dst u) w') js a') hsel (fun listed a w hb hw hk =>
    anyC_floF hC hG hu hsel hoa ha'.1 ha'.2 js listed a w hap' hb hw (by
      simp only [atOp, hoa] at hk
      exact hk)) is _ a _ his hlex hC0 h
  rw [hlen] at H
  exact anyC_wpAny (fun _ _ h => h) _ _ _ _ H
end
end Go.Proofs.YtgmokojdlbdjeaaGreatDoor
