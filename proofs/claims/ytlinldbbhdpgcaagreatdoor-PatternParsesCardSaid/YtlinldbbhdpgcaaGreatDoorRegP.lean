/-
  THE SCRIPT OF A REGION WITHOUT GUARDS; a box of two cells, made and written.
-/
import Derived.Test.YtlinldbbhdpgcaaGreatDoorRegM
import Derived.Test.YtlinldbbhdpgcaaGreatDoorNumB
import Derived.Laws.Tables
namespace Go.Proofs.YtlinldbbhdpgcaaGreatDoor
open Go.RowKit
open Go
section
variable {P : Program} {C : World → Prop} {L : Act → World → Prop}
def gS (P : Program) (l : List Oper) (C : World → Prop) (L : Act → World → Prop) : Scr → Act → World → Prop
  | .fin, a, w => C w ∧ L a w
  | .read k s, a, w => atOp l k fun o => ∃ v, (∀ w, (execOp a.eval o).run P w = .ok (.value v) w) ∧ gS P l C L s (a.put o.dst v) w
  | .op k s, a, w => C w ∧ atOp l k fun o => plainUpon P o a (gS P l C L s) ((execOp a.eval o).run P w)
  | .both i s j t, a, w => C w ∧ (atOp l i fun o => plainUpon P o a (gS P l C L s) ((execOp a.eval o).run P w)) ∧ (atOp l j fun o => plainUpon P o a (gS P l C L t) ((execOp a.eval o).run P w))
def unguarded (l : List Oper) : Bool := l.all fun o => o.guard.isNone
theorem atOp_mono {l : List Oper} (hu : unguarded l = true) {k : Nat} {p q : Oper → Prop} (h : ∀ o : Oper, o.guard = none → p o → q o) (hp : atOp l k p) : atOp l k q := by
  unfold atOp at *
  split
  · rename_i o ho
    rw [ho] at hp
    have hg := List.all_eq_true.1 hu o (List.mem_of_getElem? ho)
    exact h o (by simpa using hg) hp
  · rename_i ho
    rw [ho] at hp
    exact hp
theorem step_of {ops : Array Oper} {o : Oper} {a : Act} {w : World} {K K' : Act → World → Prop} (hg : o.guard = none) (h : plainUpon P o a K ((execOp a.eval o).run P w)) (hk : ∀ a w, K a w → K' a w) : stepC P ops o a K' w := by
  unfold stepC
  rw [if_pos (by unfold Region.wanted; rw [hg])]
  exact plainUpon_mono hk h
theorem gS_scrS {l : List Oper} (hu : unguarded l = true) : ∀ (s : Scr) (a : Act) (w : World), gS P l C L s a w → scrS P l C L s a w
  | .fin, _, _, h => h
  | .read _ s, _, w, h => atOp_mono hu (fun o hg ⟨v, hv, hs⟩ => ⟨v, .inl ⟨by unfold Region.wanted; rw [hg], fun w _ => .inl (hv w)⟩, gS_scrS hu s _ w hs⟩) h
  | .op _ s, _, _, h => ⟨h.1, atOp_mono hu (fun _ hg hp => step_of hg hp (gS_scrS hu s)) h.2⟩
  | .both _ s _ t, _, _, h => ⟨h.1, atOp_mono hu (fun _ hg hp => step_of hg hp (gS_scrS hu s)) h.2.1, atOp_mono hu (fun _ hg hp => step_of hg hp (gS_scrS hu t)) h.2.2⟩
theorem wpQuiet_mono' {ops : Array Oper} {K K' : Act → Prop} (h : ∀ a, K a → K' a) : ∀ (l : List Oper) (a : Act), wpQuiet P ops C K l a → wpQuiet P ops C K' l a := by
  intro l
  induction l with
  | nil => exact fun a hq => h a hq
  | cons o r ih =>
    intro a hq
    unfold wpQuiet at hq ⊢
    split
    · rename_i hw
      rw [if_pos hw] at hq
      obtain ⟨v, h1, h2⟩ := hq
      exact ⟨v, h1, ih _ h2⟩
    · rename_i hw
      rw [if_neg hw] at hq
      exact ih _ hq
theorem region_gscript {id : Nat} {Q : Exit → Act → World → Prop} {a : Act} {w : World} {l : List Oper} (is : List Nat) (s : Scr) (hm : P.follows .mixedOrders = true) (hu : unguarded l = true) (hB : lexSB .any l.toArray is s = true) (hC : C { w with drawn := w.drawn + 1 })
    (h : wpQuiet P l.toArray C (fun a' => ∀ w', C w' → gS P l C (fun a w => Q .normal a w) s a' w') (pickL l is) a) : (Code.region id l.toArray true).wp P Q a w :=
  region_script is s hm hB hC (wpQuiet_mono' (fun a' h' w' hw => gS_scrS hu s a' w' (h' w' hw)) _ _ h)
/- What an operation does. -/
section
variable {a : Act} {w : World} {K : Act → World → Prop} {o : Oper}
theorem g_call (f : FuncId) (args : Array Value) (he : (execOp a.eval o).run P w = .ok (.enter f args) w)
    (h : Calls P f args w fun e w'' => ∃ v, e = .returned v ∧ K (a.put o.dst v) w'') : plainUpon P o a K ((execOp a.eval o).run P w) := by
  rw [he]; exact h
theorem g_val (v : Value) (w' : World) (he : (execOp a.eval o).run P w = .ok (.value v) w') (h : K (a.put o.dst v) w') : plainUpon P o a K ((execOp a.eval o).run P w) := by
  rw [he]; exact h
theorem g_skip (w' : World) (he : (execOp a.eval o).run P w = .ok .skip w') (h : K (a.put o.dst undef) w') : plainUpon P o a K ((execOp a.eval o).run P w) := by
  rw [he]; exact h
theorem g_assign (x : Operand) (ho : o.op = .assign x) (h : K (a.put o.dst (a.eval x)) w) : plainUpon P o a K ((execOp a.eval o).run P w) := by
  refine g_val (a.eval x) w ?_ h
  unfold execOp
  simp only [ho, Sem.run_pure]
/-- A row is written whole. -/
theorem g_store_row (ty : TypeId) (x y : Operand) (ho : o.op = .store ty x y) (g : Nat) (cells : Array Value) (hx : a.eval x = .pointer (some ⟨g, 0, none⟩)) (hy : a.eval y = .agg cells)
    (t : TypeId) (old : Array Value) (hg : w.heap[g]? = some (.cells old t (0, 0))) (hi : (P.info? ty).map (·.size) = some cells.size) (hold : old.size = cells.size) (h1 : cells.all (·.oneCell') = true)
    (h : K (a.put o.dst undef) (w.setRow g cells)) : plainUpon P o a K ((execOp a.eval o).run P w) := by
  refine g_skip (w.setRow g cells) ?_ h
  unfold execOp
  simp only [ho, hx, hy, Instr.storeAt, Instr.sureAddr, Sem.run_bind, Sem.run_pure, Result.andThen_ok, run_storeVar_row w g t ty old cells hg hi hold h1]
end
end
end Go.Proofs.YtlinldbbhdpgcaaGreatDoor
/-
  A REGION THAT DRAWS ITS ORDER: reads at given places, which may be taken first; a chain of reads (taken as soon as they may) and of forced operations that yield one value and only make memory; ONE OPERATION THAT MAY COME AT ANY TIME among these (the new box of a result); a forced tail behind all of them.
-/
namespace Go.Proofs.YtlinldbbhdpgcaaGreatDoor
open Go.RowKit
open Go
/-- The operation yields v, and the world has grown. -/
def GrowsTo (P : Program) (v : Value) (w : World) : Result Next → Prop
  | .ok (.value u) w' => u = v ∧ ∃ y, w' = grow w y
  | .ok .skip w' => v = undef ∧ ∃ y, w' = grow w y
  | .ok (.enter f args) w' => Calls P f args w' fun e w'' => e = .returned v ∧ ∃ y, w'' = grow w y
  | _ => False
section
variable {P : Program} {md : Region.Mode} {C : World → Prop} {L : Act → World → Prop}
/-- The chain: a read (true), which may be taken now, or the one operation that is ready (false). -/
def floS (P : Program) (l : List Oper) (C : World → Prop) (K : Act → Prop) : List (Bool × Nat) → Act → Prop
  | [], a => K a
  | (true, k) :: js, a => atOp l k fun o => ∃ v, (∀ w, (execOp a.eval o).run P w = .ok (.value v) w) ∧ floS P l C K js (a.put o.dst v)
  | (false, k) :: js, a => atOp l k fun o => ∃ v, (∀ w, C w → GrowsTo P v w ((execOp a.eval o).run P w)) ∧ floS P l C K js (a.put o.dst v)
def tailS (P : Program) (l : List Oper) (C : World → Prop) (L : Act → World → Prop) : List Nat → Act → World → Prop
  | [], a, w => C w ∧ L a w
  | k :: js, a, w => C w ∧ atOp l k fun o => plainUpon P o a (tailS P l C L js) ((execOp a.eval o).run P w)
def floT (md : Region.Mode) (ops : Array Oper) (tl : List Nat) : List (Bool × Nat) → Array Bool → Bool
  | [], listed => seqL md ops tl listed
  | (true, k) :: js, listed => (Region.ready md ops listed).contains k && Region.free md ops listed k && floT md ops tl js (listed.setIfInBounds k true)
  | (false, k) :: js, listed => decide (Region.ready md ops listed = [k]) && floT md ops tl js (listed.setIfInBounds k true)
def floF (md : Region.Mode) (ops : Array Oper) (al : Nat) (tl : List Nat) : List (Bool × Nat) → Array Bool → Bool
  | [], listed => decide (Region.ready md ops listed = [al]) && seqL md ops tl (listed.setIfInBounds al true)
  | (true, k) :: js, listed => (Region.ready md ops listed).contains k && Region.free md ops listed k && floF md ops al tl js (listed.setIfInBounds k true)
  | (false, k) :: js, listed => ((Region.ready md ops listed).all fun i => i == k || i == al) && !(Region.ready md ops listed).isEmpty && floF md ops al tl js (listed.setIfInBounds k true) && floT md ops tl ((false, k) :: js) (listed.setIfInBounds al true)
def aparts (ops : Array Oper) (al : Nat) (js : List (Bool × Nat)) : Bool := match ops[al]? with
  | some o => js.all fun k => match ops[k.2]? with | some x => o.apart ops x | none => false
  | none => false
theorem atOp_some' {l : List Oper} {k : Nat} {p : Oper → Prop} (h : atOp l k p) : ∃ o, l[k]? = some o ∧ p o := by
  unfold atOp at h
  split at h
  · rename_i o ho
    exact ⟨o, ho, h⟩
  · exact absurd h (fun h => h)
theorem unguarded_at {l : List Oper} (hu : unguarded l = true) {k : Nat} {o : Oper} (h : l[k]? = some o) : o.guard = none := by
  have := List.all_eq_true.1 hu o (List.mem_of_getElem? h)
  simpa using this
theorem noSel_at {l : List Oper} (hs : Region.noSelect l.toArray = true) {k : Nat} {o : Oper} (h : l[k]? = some o) : ∀ cs b, o.op ≠ .select cs b := fun cs b => Region.noSelect_spec hs k o cs b (by simpa using h)
theorem stepC_plain {ops : Array Oper} {o : Oper} {a : Act} {w : World} {K : Act → World → Prop} (hg : o.guard = none) (h : plainUpon P o a K ((execOp a.eval o).run P w)) : stepC P ops o a K w := by
  unfold stepC
  rw [if_pos (by unfold Region.wanted; rw [hg])]
  exact h
theorem plain_of_grows {o : Oper} {a' : Act} {v : Value} {w : World} {K : Act → World → Prop} {r : Result Next} (h : GrowsTo P v w r) (hk : ∀ w', (∃ y, w' = grow w y) → K (a'.put o.dst v) w') : plainUpon P o a' K r := by
  cases r with
  | ok n w' =>
    cases n <;> simp only [GrowsTo] at h <;> simp only [plainUpon]
    case value => obtain ⟨rfl, h⟩ := h; exact hk _ h
    case skip => obtain ⟨rfl, h⟩ := h; exact hk _ h
    case enter => exact h.mono fun e w'' ⟨he, hw⟩ => ⟨v, he, hk _ hw⟩
  | halt x w' => exact absurd h (by simp [GrowsTo])
theorem anyC_tail {l : List Oper} (hu : unguarded l = true) : ∀ (js : List Nat) (listed : Array Bool) (a : Act) (w : World), seqL md l.toArray js listed = true → tailS P l C L js a w → anyC P md l.toArray C L js.length listed a w
  | [], _, _, _, hB, h => ⟨h.1, by simpa [seqL] using hB, h.2⟩
  | j :: js, listed, a, w, hB, h => by
    simp only [seqL, Bool.and_eq_true, decide_eq_true_eq] at hB
    obtain ⟨o, ho, hp⟩ := atOp_some' h.2
    refine ⟨h.1, fun h1 => (by rw [hB.1] at h1; cases h1), fun i hi o' ho' => ?_⟩
    rw [hB.1] at hi
    have hik : i = j := by simpa using hi
    subst hik
    obtain rfl : o' = o := Option.some.inj (ho'.symm.trans (by simpa using ho))
    exact stepC_plain (unguarded_at hu ho) (plainUpon_mono (fun a' w' h' => anyC_tail hu js _ a' w' hB.2 h') hp)
section
variable {G : Value → World → Prop} (hC : ∀ w y, C w → C (grow w y)) (hG : ∀ u w y, G u w → G u (grow w y))
include hC hG
theorem anyC_floT {l : List Oper} {tl : List Nat} {oa : Oper} (hu : unguarded l = true) (hs : Region.noSelect l.toArray = true) :
    ∀ (js : List (Bool × Nat)) (listed : Array Bool) (a : Act) (w : World) (u : Value), (∀ k ∈ js, ∀ o, l[k.2]? = some o → oa.apart l.toArray o = true) → floT md l.toArray tl js listed = true → C w → G u w →
      floS P l C (fun a' => ∀ u w', C w' → G u w' → tailS P l C L tl (a'.put oa.dst u) w') js a → anyC P md l.toArray C L (js.length + tl.length) listed (a.put oa.dst u) w
  | [], listed, a, w, u, _, hB, hw, hg, h => by
    rw [List.length_nil, Nat.zero_add]
    exact anyC_tail hu tl _ _ _ hB (h u w hw hg)
  | (true, j) :: js, listed, a, w, u, hap, hB, hw, hg, h => by
    simp only [floT, Bool.and_eq_true] at hB
    obtain ⟨⟨hr, hf⟩, hB'⟩ := hB
    obtain ⟨o, ho, v, hv, hs'⟩ := atOp_some' h
    have h0 : l.toArray[j]? = some o := by simpa using ho
    have e : ((true, j) :: js).length + tl.length = (js.length + tl.length) + 1 := by simp only [List.length_cons]; omega
    rw [e]
    have hr' : j ∈ Region.ready md l.toArray listed := by simpa using hr
    obtain ⟨h1, h2, h3⟩ := Oper.apart_spec (hap (true, j) (by simp) o ho)
    have hp : PureIn P l.toArray C o v (a.put oa.dst u) := .inl ⟨by unfold Region.wanted; rw [unguarded_at hu ho], fun w _ => .inl (by rw [execOp_put o (noSel_at hs ho) a oa.dst u h1]; exact hv w)⟩
    refine anyC_first h0 (Region.noSelect_spec hs) (js.length + tl.length) listed _ w (Region.free_spec h0 hf) hr' hp ?_
    rw [Act.put_comm a u v h2]
    exact anyC_floT hu hs js _ _ _ u (fun k hk => hap k (by simp [hk])) hB' hw hg hs'
  | (false, j) :: js, listed, a, w, u, hap, hB, hw, hg, h => by
    simp only [floT, Bool.and_eq_true, decide_eq_true_eq] at hB
    obtain ⟨o, ho, v, hv, hr⟩ := atOp_some' h
    have e : ((false, j) :: js).length + tl.length = (js.length + tl.length) + 1 := by simp only [List.length_cons]; omega
    rw [e]
    refine ⟨hw, fun h1 => (by rw [hB.1] at h1; cases h1), fun i hi o' ho' => ?_⟩
    rw [hB.1] at hi
    have hik : i = j := by simpa using hi
    subst hik
    obtain rfl : o' = o := Option.some.inj (ho'.symm.trans (by simpa using ho))
    obtain ⟨h1, h2, h3⟩ := Oper.apart_spec (hap (false, i) (by simp) o' ho)
    refine stepC_plain (unguarded_at hu ho) ?_
    rw [execOp_put o' (noSel_at hs ho) a oa.dst u h1]
    refine plain_of_grows (hv w hw) ?_
    rintro w' ⟨y, rfl⟩
    rw [Act.put_comm a u v h2]
    exact anyC_floT hu hs js _ _ _ u (fun k hk => hap k (by simp [hk])) hB.2 (hC _ _ hw) (hG _ _ _ hg) hr
theorem anyC_floF {l : List Oper} {al : Nat} {tl : List Nat} {oa : Oper} (hu : unguarded l = true) (hs : Region.noSelect l.toArray = true) (hoa : l[al]? = some oa)
    (ha : ∀ (a : Act) w, C w → ∃ u w', (execOp a.eval oa).run P w = .ok (.value u) w' ∧ (∃ y, w' = grow w y) ∧ G u w') (hal : ∀ (a : Act) t v, (execOp (a.put t v).eval oa) = execOp a.eval oa) :
    ∀ (js : List (Bool × Nat)) (listed : Array Bool) (a : Act) (w : World), (∀ k ∈ js, ∀ o, l[k.2]? = some o → oa.apart l.toArray o = true) → floF md l.toArray al tl js listed = true → C w →
      floS P l C (fun a' => ∀ u w', C w' → G u w' → tailS P l C L tl (a'.put oa.dst u) w') js a → anyC P md l.toArray C L (js.length + 1 + tl.length) listed a w
  | [], listed, a, w, _, hB, hw, h => by
    simp only [floF, Bool.and_eq_true, decide_eq_true_eq] at hB
    rw [List.length_nil, Nat.zero_add, Nat.add_comm]
    refine ⟨hw, fun h1 => (by rw [hB.1] at h1; cases h1), fun i hi o' ho' => ?_⟩
    rw [hB.1] at hi
    have hik : i = al := by simpa using hi
    subst hik
    obtain rfl : o' = oa := Option.some.inj (ho'.symm.trans (by simpa using hoa))
    refine stepC_plain (unguarded_at hu hoa) ?_
    obtain ⟨u, w', he, ⟨y, rfl⟩, hg⟩ := ha a w hw
    rw [he]
    exact anyC_tail hu tl _ _ _ hB.2 (h u _ (hC _ _ hw) hg)
  | (true, j) :: js, listed, a, w, hap, hB, hw, h => by
    simp only [floF, Bool.and_eq_true] at hB
    obtain ⟨⟨hr, hf⟩, hB'⟩ := hB
    obtain ⟨o, ho, v, hv, hs'⟩ := atOp_some' h
    have h0 : l.toArray[j]? = some o := by simpa using ho
    have e : ((true, j) :: js).length + 1 + tl.length = (js.length + 1 + tl.length) + 1 := by simp only [List.length_cons]; omega
    rw [e]
    have hr' : j ∈ Region.ready md l.toArray listed := by simpa using hr
    have hp : PureIn P l.toArray C o v a := .inl ⟨by unfold Region.wanted; rw [unguarded_at hu ho], fun w _ => .inl (hv w)⟩
    exact anyC_first h0 (Region.noSelect_spec hs) (js.length + 1 + tl.length) listed _ w (Region.free_spec h0 hf) hr' hp (anyC_floF hu hs hoa ha hal js _ _ _ (fun k hk => hap k (by simp [hk])) hB' hw hs')
  | (false, j) :: js, listed, a, w, hap, hB, hw, h => by
    have hS := h
    simp only [floF, Bool.and_eq_true, List.all_eq_true, Bool.or_eq_true, beq_iff_eq] at hB
    obtain ⟨⟨⟨hr, hne⟩, hB1⟩, hB2⟩ := hB
    obtain ⟨o, ho, v, hv, hr'⟩ := atOp_some' h
    have e : ((false, j) :: js).length + 1 + tl.length = (js.length + 1 + tl.length) + 1 := by simp only [List.length_cons]; omega
    rw [e]
    refine ⟨hw, fun h1 => (by rw [h1] at hne; simp at hne), fun i hi o' ho' => ?_⟩
    rcases Nat.decEq i al with hia | hia
    · have hij : i = j := by
        rcases hr i hi with h1 | h1
        · exact h1
        · exact absurd h1 hia
      subst hij
      obtain rfl : o' = o := Option.some.inj (ho'.symm.trans (by simpa using ho))
      refine stepC_plain (unguarded_at hu ho) (plain_of_grows (hv w hw) ?_)
      rintro w' ⟨y, rfl⟩
      exact anyC_floF hu hs hoa ha hal js _ _ _ (fun k hk => hap k (by simp [hk])) hB1 (hC _ _ hw) hr'
    · subst hia
      obtain rfl : o' = oa := Option.some.inj (ho'.symm.trans (by simpa using hoa))
      refine stepC_plain (unguarded_at hu hoa) ?_
      obtain ⟨u, w', he, ⟨y, rfl⟩, hg⟩ := ha a w hw
      rw [he]
      have := anyC_floT hC hG hu hs (md := md) (L := L) ((false, j) :: js) _ a (grow w y) u hap hB2 (hC _ _ hw) hg hS
      have e2 : ((false, j) :: js).length + tl.length = js.length + 1 + tl.length := by simp
      rw [e2] at this
      exact this
end
def lexK (md : Region.Mode) (ops : Array Oper) (K : Array Bool → Bool) : List Nat → Array Bool → Bool
  | [], listed => K listed
  | k :: is, listed => (Region.ready md ops listed).contains k && Region.free md ops listed k && ((ops[k]?).map readsOnly).getD false && lexK md ops K is (listed.setIfInBounds k true)
theorem anyC_lexK {l : List Oper} {f : Nat} {B : Array Bool → Bool} {K : Act → World → Prop} (hsel : Region.noSelect l.toArray = true) (hK : ∀ listed a w, B listed = true → C w → K a w → anyC P md l.toArray C L f listed a w) :
    ∀ (is : List Nat) (listed : Array Bool) (a : Act) (w : World), inL' l.toArray.size is = true → lexK md l.toArray B is listed = true → C w →
      wpQuiet P l.toArray C (fun a' => ∀ w', C w' → K a' w') (pickL l is) a → anyC P md l.toArray C L (is.length + f) listed a w
  | [], listed, a, w, _, hx, hw, h => by
    rw [List.length_nil, Nat.zero_add]
    exact hK _ _ _ hx hw (h w hw)
  | k :: is, listed, a, w, hl, hx, hw, h => by
    simp only [inL', List.all_cons, Bool.and_eq_true, decide_eq_true_eq] at hl
    have h0 : l.toArray[k]? = some l.toArray[k] := Array.getElem?_eq_getElem hl.1
    have h0' : l[k]? = some l.toArray[k] := by rw [← h0]; simp
    simp only [lexK, Bool.and_eq_true, h0, Option.map_some, Option.getD_some] at hx
    obtain ⟨⟨⟨hr, hf⟩, hro⟩, hx'⟩ := hx
    simp only [pickL, h0'] at h
    have hr' : k ∈ Region.ready md l.toArray listed := by simpa using hr
    have hst : qOp P l.toArray C k (wpQuiet P l.toArray C (fun a' => ∀ w', C w' → K a' w') (pickL l is)) a := by unfold qOp; simp only [h0]; exact h
    obtain ⟨v, hy, hK'⟩ := yieldsIn_of_qOp h0 hst
    have hp : PureIn P l.toArray C l.toArray[k] v a := by
      rcases hy with ⟨h1, h2⟩ | ⟨h1, h2⟩
      · exact .inl ⟨h1, fun w hw => pure_of_quiet hro (h2 w hw)⟩
      · exact .inr ⟨h1, h2⟩
    have e : (k :: is).length + f = (is.length + f) + 1 := by simp only [List.length_cons]; omega
    rw [e]
    exact anyC_first h0 (Region.noSelect_spec hsel) (is.length + f) listed a w (Region.free_spec h0 hf) hr' hp (anyC_lexK hsel hK is _ _ w hl.2 hx' hw hK')
def lexFB (md : Region.Mode) (ops : Array Oper) (is : List Nat) (js : List (Bool × Nat)) (al : Nat) (tl : List Nat) : Bool :=
  Region.noSelect ops && inL' ops.size is && decide (is.length + (js.length + 1 + tl.length) = ops.size) && aparts ops al js && lexK md ops (floF md ops al tl js) is (Array.replicate ops.size false)
theorem aparts_spec {l : List Oper} {al : Nat} {js : List (Bool × Nat)} (h : aparts l.toArray al js = true) : ∃ oa, l[al]? = some oa ∧ ∀ k ∈ js, ∀ o, l[k.2]? = some o → oa.apart l.toArray o = true := by
  unfold aparts at h
  split at h
  · rename_i oa hoa
    refine ⟨oa, by simpa using hoa, fun k hk o ho => ?_⟩
    have := List.all_eq_true.1 h k hk
    simp only [List.getElem?_toArray, ho] at this
    exact this
  · cases h
/-- THE REGION: the reads is, the chain js, the operation al at any time beside it, the tail tl. -/
theorem region_float {id : Nat} {Q : Exit → Act → World → Prop} {a : Act} {w : World} {l : List Oper} (G : Value → World → Prop) (is : List Nat) (js : List (Bool × Nat)) (al : Nat) (tl : List Nat) (hm : P.follows .mixedOrders = true) (hu : unguarded l = true) (hB : lexFB .any l.toArray is js al tl = true)
    (hC : ∀ w y, C w → C (grow w y)) (hG : ∀ u w y, G u w → G u (grow w y)) (hC0 : C { w with drawn := w.drawn + 1 })
    (ha : atOp l al fun oa => (∀ (a : Act) w, C w → ∃ u w', (execOp a.eval oa).run P w = .ok (.value u) w' ∧ (∃ y, w' = grow w y) ∧ G u w') ∧ (∀ (a : Act) t v, (execOp (Act.put a t v).eval oa) = execOp a.eval oa))
    (h : wpQuiet P l.toArray C (fun a' => ∀ w', C w' → floS P l C (fun a' => ∀ u w', C w' → G u w' → atOp l al fun oa => tailS P l C (fun a w => Q .normal a w) tl (a'.put oa.dst u) w') js a') (pickL l is) a) : (Code.region id l.toArray true).wp P Q a w := by
  simp only [lexFB, Bool.and_eq_true, decide_eq_true_eq] at hB
  obtain ⟨⟨⟨⟨hsel, his⟩, hlen⟩, hap⟩, hlex⟩ := hB
  obtain ⟨oa, hoa, hap'⟩ := aparts_spec hap
  have ha' : _ := (by unfold atOp at ha; rw [hoa] at ha; exact ha : (∀ (a : Act) w, C w → ∃ u w', (execOp a.eval oa).run P w = .ok (.value u) w' ∧ (∃ y, w' = grow w y) ∧ G u w') ∧ (∀ (a : Act) t v, (execOp (Act.put a t v).eval oa) = execOp a.eval oa))
  refine wp_region_any hm ?_
  have H := anyC_lexK (P := P) (C := C) (md := .any) (L := fun a w => Q .normal a w) (f := js.length + 1 + tl.length) (B := floF .any l.toArray al tl js) (K := fun a' w' => floS P l C (fun a' => ∀ u w', C w' → G u w' → atOp l al fun oa => tailS P l C (fun a w => Q .normal a w) tl (a'.put oa.dst u) w') js a') hsel (fun listed a w hb hw hk =>
    anyC_floF hC hG hu hsel hoa ha'.1 ha'.2 js listed a w hap' hb hw (by
      simp only [atOp, hoa] at hk
      exact hk)) is _ a _ his hlex hC0 h
  rw [hlen] at H
  exact anyC_wpAny (fun _ _ h => h) _ _ _ _ H
end
end Go.Proofs.YtlinldbbhdpgcaaGreatDoor
/-
  A REGION THAT DRAWS ITS ORDER: reads at given places, which may be taken first; then a tree of orders: a read that may be taken now, the one operation that is ready, or one of two.
-/
namespace Go.Proofs.YtlinldbbhdpgcaaGreatDoor
open Go.RowKit
open Go
inductive OT where
  | nil
  | read (k : Nat) (t : OT)
  | one (k : Nat) (t : OT)
  | two (k : Nat) (t : OT) (k' : Nat) (t' : OT)
def OT.size : OT → Nat
  | .nil => 0
  | .read _ t => t.size + 1
  | .one _ t => t.size + 1
  | .two _ t _ _ => t.size + 1
/-- A chain. -/
def OT.seq : List Nat → OT
  | [] => .nil
  | k :: ks => .one k (OT.seq ks)
section
variable {P : Program} {md : Region.Mode} {C : World → Prop} {L : Act → World → Prop}
def treeS (P : Program) (l : List Oper) (C : World → Prop) (L : Act → World → Prop) : OT → Act → World → Prop
  | .nil, a, w => C w ∧ L a w
  | .read k t, a, w => C w ∧ atOp l k fun o => ∃ v, PureIn P l.toArray C o v a ∧ treeS P l C L t (a.put o.dst v) w
  | .one k t, a, w => C w ∧ atOp l k fun o => stepC P l.toArray o a (treeS P l C L t) w
  | .two k t k' t', a, w => C w ∧ (atOp l k fun o => stepC P l.toArray o a (treeS P l C L t) w) ∧ atOp l k' fun o => stepC P l.toArray o a (treeS P l C L t') w
def treeB (md : Region.Mode) (ops : Array Oper) : OT → Array Bool → Bool
  | .nil, listed => decide (Region.ready md ops listed = [])
  | .read k t, listed => (Region.ready md ops listed).contains k && Region.free md ops listed k && treeB md ops t (listed.setIfInBounds k true)
  | .one k t, listed => decide (Region.ready md ops listed = [k]) && treeB md ops t (listed.setIfInBounds k true)
  | .two k t k' t', listed => ((Region.ready md ops listed).all fun i => i == k || i == k') && !(Region.ready md ops listed).isEmpty && decide (t.size = t'.size) && treeB md ops t (listed.setIfInBounds k true) && treeB md ops t' (listed.setIfInBounds k' true)
theorem anyC_tree {l : List Oper} (hs : Region.noSelect l.toArray = true) : ∀ (t : OT) (listed : Array Bool) (a : Act) (w : World), treeB md l.toArray t listed = true → treeS P l C L t a w → anyC P md l.toArray C L t.size listed a w
  | .nil, listed, a, w, hB, h => ⟨h.1, by simpa [treeB] using hB, h.2⟩
  | .read k t, listed, a, w, hB, h => by
    simp only [treeB, Bool.and_eq_true] at hB
    obtain ⟨⟨hr, hf⟩, hB'⟩ := hB
    obtain ⟨hc, h⟩ := h
    obtain ⟨o, ho, v, hp, hs'⟩ := atOp_some' h
    have h0 : l.toArray[k]? = some o := by simpa using ho
    have hr' : k ∈ Region.ready md l.toArray listed := by simpa using hr
    exact anyC_first h0 (Region.noSelect_spec hs) t.size listed _ w (Region.free_spec h0 hf) hr' hp (anyC_tree hs t _ _ w hB' hs')
  | .one k t, listed, a, w, hB, h => by
    simp only [treeB, Bool.and_eq_true, decide_eq_true_eq] at hB
    obtain ⟨hc, h⟩ := h
    obtain ⟨o, ho, hp⟩ := atOp_some' h
    refine ⟨hc, fun h1 => (by rw [hB.1] at h1; cases h1), fun i hi o' ho' => ?_⟩
    rw [hB.1] at hi
    have hik : i = k := by simpa using hi
    subst hik
    obtain rfl : o' = o := Option.some.inj (ho'.symm.trans (by simpa using ho))
    exact stepC_mono (fun a' w' h' => anyC_tree hs t _ a' w' hB.2 h') hp
  | .two k t k' t', listed, a, w, hB, h => by
    simp only [treeB, Bool.and_eq_true, List.all_eq_true, Bool.or_eq_true, beq_iff_eq, decide_eq_true_eq] at hB
    obtain ⟨⟨⟨⟨hr, hne⟩, hsz⟩, hB1⟩, hB2⟩ := hB
    obtain ⟨hc, h, h'⟩ := h
    obtain ⟨o1, ho1, hp1⟩ := atOp_some' h
    obtain ⟨o2, ho2, hp2⟩ := atOp_some' h'
    refine ⟨hc, fun h1 => (by rw [h1] at hne; simp at hne), fun i hi o' ho' => ?_⟩
    by_cases hik : i = k
    · subst hik
      obtain rfl : o' = o1 := Option.some.inj (ho'.symm.trans (by simpa using ho1))
      exact stepC_mono (fun a' w' h' => anyC_tree hs t _ a' w' hB1 h') hp1
    · have hik' : i = k' := (hr i hi).resolve_left hik
      subst hik'
      obtain rfl : o' = o2 := Option.some.inj (ho'.symm.trans (by simpa using ho2))
      refine stepC_mono (fun a' w' h' => ?_) hp2
      have := anyC_tree hs t' (listed.setIfInBounds i true) a' w' hB2 h'
      rwa [← hsz] at this
def treeFB (md : Region.Mode) (ops : Array Oper) (is : List Nat) (t : OT) : Bool :=
  Region.noSelect ops && inL' ops.size is && decide (is.length + t.size = ops.size) && lexK md ops (treeB md ops t) is (Array.replicate ops.size false)
/-- THE REGION: the reads is, the tree t. -/
theorem region_tree {id : Nat} {Q : Exit → Act → World → Prop} {a : Act} {w : World} {l : List Oper} (is : List Nat) (t : OT) (hm : P.follows .mixedOrders = true) (hB : treeFB .any l.toArray is t = true) (hC : C { w with drawn := w.drawn + 1 })
    (h : wpQuiet P l.toArray C (fun a' => ∀ w', C w' → treeS P l C (fun a w => Q .normal a w) t a' w') (pickL l is) a) : (Code.region id l.toArray true).wp P Q a w := by
  simp only [treeFB, Bool.and_eq_true, decide_eq_true_eq] at hB
  obtain ⟨⟨⟨hsel, his⟩, hlen⟩, hlex⟩ := hB
  refine wp_region_any hm ?_
  have H := anyC_lexK (P := P) (C := C) (md := .any) (L := fun a w => Q .normal a w) (f := t.size) (B := treeB .any l.toArray t) (K := fun a' w' => treeS P l C (fun a w => Q .normal a w) t a' w') hsel (fun listed a w hb _ hk => anyC_tree hsel t listed a w hb hk) is _ a _ his hlex hC h
  rw [hlen] at H
  exact anyC_wpAny (fun _ _ h => h) _ _ _ _ H
/- The steps. -/
variable {ops : Array Oper} {o : Oper} {a : Act} {w : World} {K : Act → World → Prop}
theorem s_call (f : FuncId) (args : Array Value) (hw : Region.wanted o (yielded ops a.tmps) = true) (he : (execOp a.eval o).run P w = .ok (.enter f args) w)
    (h : Calls P f args w fun e w'' => ∃ v, e = .returned v ∧ K (a.put o.dst v) w'') : stepC P ops o a K w := by
  unfold stepC
  rw [if_pos hw, he]
  exact h
theorem s_val (v : Value) (w' : World) (hw : Region.wanted o (yielded ops a.tmps) = true) (he : (execOp a.eval o).run P w = .ok (.value v) w') (h : K (a.put o.dst v) w') : stepC P ops o a K w := by
  unfold stepC
  rw [if_pos hw, he]
  exact h
theorem s_skip (w' : World) (hw : Region.wanted o (yielded ops a.tmps) = true) (he : (execOp a.eval o).run P w = .ok .skip w') (h : K (a.put o.dst undef) w') : stepC P ops o a K w := by
  unfold stepC
  rw [if_pos hw, he]
  exact h
theorem s_assign (x : Operand) (ho : o.op = .assign x) (hw : Region.wanted o (yielded ops a.tmps) = true) (v : Value) (hv : a.eval x = v) (h : K (a.put o.dst v) w) : stepC P ops o a K w := by
  subst hv
  unfold stepC
  rw [if_pos hw]
  unfold execOp
  simp only [ho, Sem.run_pure]
  exact h
theorem s_read (v : Value) (hw : Region.wanted o (yielded ops a.tmps) = true) (he : ∀ w, C w → (execOp a.eval o).run P w = .ok (.value v) w) : PureIn P ops C o v a := .inl ⟨hw, fun w h => .inl (he w h)⟩
end
end Go.Proofs.YtlinldbbhdpgcaaGreatDoor
/-
  A REGION THAT DRAWS ITS ORDER, WHOSE CALLS MAY PANIC: reads at given places, which may be taken first; then a tree of orders; at last one operation, which may write old memory. As region_tree, with a way out for panics.
-/
namespace Go.Proofs.YtlinldbbhdpgcaaGreatDoor.RP
open Go.RowKit
open Go
section
variable {P : Program} {ops : Array Oper} {md : Region.Mode} {C : World → Prop} {L : Act → World → Prop} {X : List PanicEntry → List Deferred → World → Prop} {z : Nat}
/-- What is asked of an operation's outcome: it yields, and goes on, or a call of it panics. -/
def plainUpon (P : Program) (X : List PanicEntry → List Deferred → World → Prop) (o : Oper) (a : Act) (next : Act → World → Prop) : Result Next → Prop
  | .ok (.value v) w' => next (a.put o.dst v) w'
  | .ok .skip w' => next (a.put o.dst undef) w'
  | .ok (.enter f args) w' => Calls P f args w' fun e w'' => (∃ v, e = .returned v ∧ next (a.put o.dst v) w'') ∨ (∃ ch, e = .panicked ch ∧ X ch a.defers w'')
  | _ => False
def stepC (P : Program) (X : List PanicEntry → List Deferred → World → Prop) (ops : Array Oper) (o : Oper) (a : Act) (next : Act → World → Prop) (w : World) : Prop :=
  if Region.wanted o (yielded ops a.tmps) then plainUpon P X o a next ((execOp a.eval o).run P w) else next (a.put o.dst undef) w
def anyC (P : Program) (X : List PanicEntry → List Deferred → World → Prop) (md : Region.Mode) (ops : Array Oper) (C : World → Prop) (L : Act → World → Prop) (z : Nat) : Nat → Array Bool → Act → World → Prop
  | 0, listed, a, w => C w ∧ Region.ready md ops listed = [z] ∧ Region.ready md ops (listed.setIfInBounds z true) = [] ∧ ∀ o, ops[z]? = some o → stepC P X ops o a L w
  | f + 1, listed, a, w => C w ∧ Region.ready md ops listed ≠ [] ∧ ∀ i ∈ Region.ready md ops listed, ∀ o, ops[i]? = some o → stepC P X ops o a (anyC P X md ops C L z f (listed.setIfInBounds i true)) w
theorem put_defers (a : Act) (d : Option Tmp) (v : Value) : (a.put d v).defers = a.defers := by cases d <;> rfl
theorem anyC.c {f : Nat} {listed : Array Bool} {a : Act} {w : World} (h : anyC P X md ops C L z f listed a w) : C w := by
  cases f with
  | zero => exact h.1
  | succ f => exact h.1
theorem plainUpon_mono {o : Oper} {a : Act} {K K' : Act → World → Prop} (h : ∀ a w, K a w → K' a w) {r : Result Next} (hr : plainUpon P X o a K r) : plainUpon P X o a K' r := by
  cases r with
  | ok n w' =>
    cases n <;> simp only [plainUpon] at hr ⊢
    case value => exact h _ _ hr
    case skip => exact h _ _ hr
    case enter => exact hr.mono fun e w'' hh => hh.imp (fun ⟨v, he, hk⟩ => ⟨v, he, h _ _ hk⟩) id
  | halt x w' => exact hr
theorem step_wpOp {Q : Exit → Act → World → Prop} {o : Oper} {i : Nat} {a : Act} {w : World} {K K' : Act → World → Prop} (ho : ops[i]? = some o) (hK : ∀ a w, K a w → K' a w) (hX : ∀ ch a w, X ch a.defers w → Q (.panic ch) a w) (h1 : stepC P X ops o a K w) : wpOp P ops Q i K' a w := by
  unfold wpOp
  simp only [ho]
  unfold stepC at h1
  split
  · rename_i hw
    rw [if_pos hw] at h1
    refine .inl ?_
    unfold Oper.wp
    generalize (execOp a.eval o).run P w = r at h1
    cases r with
    | ok n w' =>
      cases n <;> simp only [plainUpon] at h1 <;> simp only [Oper.upon]
      case value => exact hK _ _ h1
      case skip => exact hK _ _ h1
      case enter => exact h1.mono (fun e w'' hh => hh.elim (fun ⟨v, he, hk⟩ => by subst he; exact hK _ _ hk) (fun ⟨ch, he, hk⟩ => by subst he; exact hX _ _ _ hk))
    | halt x w' => exact absurd h1 (by simp [plainUpon])
  · rename_i hw
    rw [if_neg hw] at h1
    exact hK _ _ h1
theorem anyC_wpAny {Q : Exit → Act → World → Prop} (hL : ∀ a w, L a w → Q .normal a w) (hX : ∀ ch a w, X ch a.defers w → Q (.panic ch) a w) : ∀ (f : Nat) (listed : Array Bool) (a : Act) (w : World), anyC P X md ops C L z f listed a w → wpAny P md ops Q (f + 1) listed a w
  | 0, listed, a, w, h => by
    obtain ⟨hc, h1, h2, h3⟩ := h
    refine ⟨fun h0 => absurd h0 (by rw [h1]; simp), fun i hi => ?_⟩
    obtain ⟨_, o, ho, _⟩ := mem_ready.1 hi
    rw [h1] at hi
    have hik : i = z := by simpa using hi
    subst hik
    exact step_wpOp (K' := wpAny P md ops Q 0 (listed.setIfInBounds i true)) ho (fun a w hl => ⟨h2, hL _ _ hl⟩) hX (h3 o ho)
  | f + 1, listed, a, w, h => ⟨fun h0 => absurd h0 h.2.1, fun i hi => by
    obtain ⟨_, o, ho, _⟩ := mem_ready.1 hi
    exact step_wpOp ho (fun a w hl => anyC_wpAny hL hX f _ _ _ hl) hX (h.2.2 i hi o ho)⟩
theorem step_pure {o : Oper} {v : Value} {a : Act} {w : World} (h : PureIn P ops C o v a) (hw : C w) {K : Act → World → Prop} (hk : K (a.put o.dst v) w) : stepC P X ops o a K w := by
  unfold stepC
  rcases h with ⟨h1, h2⟩ | ⟨h1, h2⟩
  · rw [if_pos h1]
    rcases h2 w hw with h3 | ⟨h3, h4⟩
    · rw [h3]; exact hk
    · rw [h3]; subst h4; exact hk
  · rw [if_neg (by rw [h1]; decide)]; subst h2; exact hk
theorem stepC_put {oi oj : Oper} {v : Value} (hap : oi.apart ops oj = true) (hsi : ∀ cs b, oi.op ≠ .select cs b) (hsj : ∀ cs b, oj.op ≠ .select cs b) {K : Act → World → Prop} {a : Act} {w : World}
    (hy : PureIn P ops C oi v a) (h : stepC P X ops oj (a.put oi.dst v) K w) : stepC P X ops oj a (fun a' w' => PureIn P ops C oi v a' ∧ K (a'.put oi.dst v) w') w := by
  obtain ⟨h1, h2, h3⟩ := Oper.apart_spec hap
  have keep : ∀ u, PureIn P ops C oi v (a.put oj.dst u) := fun u => hy.of_same (execOp_put oi hsi a oj.dst u h3) (wanted_put oi a oj.dst u h3)
  unfold stepC at *
  rw [wanted_put oj a oi.dst v h1, execOp_put oj hsj a oi.dst v h1] at h
  split
  · rename_i hw
    rw [if_pos hw] at h
    generalize (execOp a.eval oj).run P w = r at h
    cases r with
    | ok n w' =>
      cases n <;> simp only [plainUpon] at h ⊢
      case value u => exact ⟨keep u, by rw [← Act.put_comm a v u h2]; exact h⟩
      case skip => exact ⟨keep _, by rw [← Act.put_comm a v undef h2]; exact h⟩
      case enter => exact h.mono (fun e w'' hh => hh.elim (fun ⟨u, he, hk⟩ => .inl ⟨u, he, keep u, by rw [← Act.put_comm a v u h2]; exact hk⟩) (fun ⟨ch, he, hk⟩ => .inr ⟨ch, he, by rwa [put_defers] at hk⟩))
    | halt x w' => exact absurd h (by simp [plainUpon])
  · rename_i hw
    rw [if_neg hw] at h
    exact ⟨keep _, by rw [← Act.put_comm a v undef h2]; exact h⟩
theorem stepC_mono {o : Oper} {a : Act} {w : World} {K K' : Act → World → Prop} (h : ∀ a w, K a w → K' a w) (hr : stepC P X ops o a K w) : stepC P X ops o a K' w := by
  unfold stepC at *
  split
  · rename_i hw; rw [if_pos hw] at hr; exact plainUpon_mono h hr
  · rename_i hw; rw [if_neg hw] at hr; exact h _ _ hr
/-- The operation z comes behind all others. -/
def lastB (md : Region.Mode) (ops : Array Oper) (z : Nat) : Bool := match ops[z]? with
  | some o => (List.range ops.size).all fun i => i == z || o.after.any fun e => Region.binds md e && e.on == i
  | none => false
theorem last_all {listed : Array Bool} {i : Nat} (hlast : lastB md ops z = true) (hz : z ∈ Region.ready md ops listed) (hi : i < ops.size) (hne : i ≠ z) : listed.getD i false = true := by
  obtain ⟨_, o, ho, hall⟩ := mem_ready.1 hz
  unfold lastB at hlast
  rw [ho] at hlast
  simp only [List.all_eq_true, List.mem_range, Bool.or_eq_true, beq_iff_eq] at hlast
  have h1 := (hlast i hi).resolve_left hne
  rw [Array.any_eq_true'] at h1
  obtain ⟨e, he, h2⟩ := h1
  simp only [Bool.and_eq_true, beq_iff_eq] at h2
  have := hall e he h2.1
  rwa [h2.2] at this
theorem anyC_first {i : Nat} {oi : Oper} {v : Value} (hlast : lastB md ops z = true) (hi : ops[i]? = some oi) (hsel : ∀ (j : Nat) (o : Oper) cs b, ops[j]? = some o → o.op ≠ .select cs b) :
    ∀ (f : Nat) (listed : Array Bool) (a : Act) (w : World),
      (∀ j oj, ops[j]? = some oj → j ≠ i → listed.getD j true = false → (∀ e ∈ oj.after, Region.binds md e = true → e.on ≠ i) → oi.apart ops oj = true) →
      i ∈ Region.ready md ops listed → PureIn P ops C oi v a →
      anyC P X md ops C L z f (listed.setIfInBounds i true) (a.put oi.dst v) w → anyC P X md ops C L z (f + 1) listed a w := by
  intro f
  induction f with
  | zero =>
    intro listed a w _ hr hy H
    refine ⟨H.1, fun h => (by rw [h] at hr; cases hr), fun j hj o ho => ?_⟩
    rcases Nat.decEq j i with hji | hji
    · have h2 := ready_mono hj hji
      rw [H.2.1] at h2
      have hjz : j = z := by simpa using h2
      subst hjz
      have h3 := last_all hlast hj (Array.getElem?_eq_some_iff.1 hi).1 (Ne.symm hji)
      rw [getD_both (mem_ready.1 hr).1] at h3
      cases h3
    · subst hji
      have : o = oi := Option.some.inj (ho.symm.trans hi)
      subst this
      exact step_pure hy H.1 H
  | succ f ih =>
    intro listed a w hfree hr hy H
    have hun := (mem_ready.1 hr).1
    refine ⟨H.1, fun h => (by rw [h] at hr; cases hr), fun j hj o ho => ?_⟩
    rcases Nat.decEq j i with hji | hji
    · have h1 := H.2.2 j (ready_mono hj hji) o ho
      obtain ⟨hjun, oj, hoj, hall⟩ := mem_ready.1 hj
      have : o = oj := Option.some.inj (ho.symm.trans hoj)
      subst this
      have hnot : ∀ e ∈ o.after, Region.binds md e = true → e.on ≠ i := by
        intro e he hb heq
        have h2 := hall e he hb
        rw [heq, getD_both hun] at h2
        cases h2
      have h2 := stepC_put (hfree j o ho hji hjun hnot) (fun cs b => hsel i oi cs b hi) (fun cs b => hsel j o cs b ho) hy h1
      refine stepC_mono (fun a' w' h3 => ih (listed.setIfInBounds j true) a' w' ?_ (ready_mono hr (Ne.symm hji)) h3.1 ?_) h2
      · intro k ok hk hki hun' hno
        refine hfree k ok hk hki ?_ hno
        rcases Nat.decEq j k with hjk | hjk
        · rw [getD_set_ne true hjk] at hun'; exact hun'
        · subst hjk; exact hjun
      · rw [Array.setIfInBounds_comm _ _ hji]
        exact h3.2
    · subst hji
      have : o = oi := Option.some.inj (ho.symm.trans hi)
      subst this
      exact step_pure hy H.1 H
theorem anyC_lexK {l : List Oper} {f : Nat} {B : Array Bool → Bool} {K : Act → World → Prop} (hlast : lastB md l.toArray z = true) (hsel : Region.noSelect l.toArray = true) (hK : ∀ listed a w, B listed = true → C w → K a w → anyC P X md l.toArray C L z f listed a w) :
    ∀ (is : List Nat) (listed : Array Bool) (a : Act) (w : World), inL' l.toArray.size is = true → lexK md l.toArray B is listed = true → C w →
      wpQuiet P l.toArray C (fun a' => K a' w) (pickL l is) a → anyC P X md l.toArray C L z (is.length + f) listed a w
  | [], listed, a, w, _, hx, hw, h => by
    rw [List.length_nil, Nat.zero_add]
    exact hK _ _ _ hx hw h
  | k :: is, listed, a, w, hl, hx, hw, h => by
    simp only [inL', List.all_cons, Bool.and_eq_true, decide_eq_true_eq] at hl
    have h0 : l.toArray[k]? = some l.toArray[k] := Array.getElem?_eq_getElem hl.1
    have h0' : l[k]? = some l.toArray[k] := by rw [← h0]; simp
    simp only [lexK, Bool.and_eq_true, h0, Option.map_some, Option.getD_some] at hx
    obtain ⟨⟨⟨hr, hf⟩, hro⟩, hx'⟩ := hx
    simp only [pickL, h0'] at h
    have hr' : k ∈ Region.ready md l.toArray listed := by simpa using hr
    have hst : qOp P l.toArray C k (wpQuiet P l.toArray C (fun a' => K a' w) (pickL l is)) a := by unfold qOp; simp only [h0]; exact h
    obtain ⟨v, hy, hK'⟩ := yieldsIn_of_qOp h0 hst
    have hp : PureIn P l.toArray C l.toArray[k] v a := by
      rcases hy with ⟨h1, h2⟩ | ⟨h1, h2⟩
      · exact .inl ⟨h1, fun w hw => pure_of_quiet hro (h2 w hw)⟩
      · exact .inr ⟨h1, h2⟩
    have e : (k :: is).length + f = (is.length + f) + 1 := by simp only [List.length_cons]; omega
    rw [e]
    exact anyC_first hlast h0 (Region.noSelect_spec hsel) (is.length + f) listed a w (Region.free_spec h0 hf) hr' hp (anyC_lexK hlast hsel hK is _ _ w hl.2 hx' hw hK')
def treeS (P : Program) (X : List PanicEntry → List Deferred → World → Prop) (l : List Oper) (C : World → Prop) (L : Act → World → Prop) (z : Nat) : OT → Act → World → Prop
  | .nil, a, w => C w ∧ atOp l z fun o => stepC P X l.toArray o a L w
  | .read k t, a, w => C w ∧ atOp l k fun o => ∃ v, PureIn P l.toArray C o v a ∧ treeS P X l C L z t (a.put o.dst v) w
  | .one k t, a, w => C w ∧ atOp l k fun o => stepC P X l.toArray o a (treeS P X l C L z t) w
  | .two k t k' t', a, w => C w ∧ (atOp l k fun o => stepC P X l.toArray o a (treeS P X l C L z t) w) ∧ atOp l k' fun o => stepC P X l.toArray o a (treeS P X l C L z t') w
def treeZ (md : Region.Mode) (ops : Array Oper) (z : Nat) : OT → Array Bool → Bool
  | .nil, listed => decide (Region.ready md ops listed = [z]) && decide (Region.ready md ops (listed.setIfInBounds z true) = [])
  | .read k t, listed => (Region.ready md ops listed).contains k && Region.free md ops listed k && treeZ md ops z t (listed.setIfInBounds k true)
  | .one k t, listed => decide (Region.ready md ops listed = [k]) && treeZ md ops z t (listed.setIfInBounds k true)
  | .two k t k' t', listed => ((Region.ready md ops listed).all fun i => i == k || i == k') && !(Region.ready md ops listed).isEmpty && decide (t.size = t'.size) && treeZ md ops z t (listed.setIfInBounds k true) && treeZ md ops z t' (listed.setIfInBounds k' true)
theorem anyC_tree {l : List Oper} (hlast : lastB md l.toArray z = true) (hs : Region.noSelect l.toArray = true) : ∀ (t : OT) (listed : Array Bool) (a : Act) (w : World), treeZ md l.toArray z t listed = true → treeS P X l C L z t a w → anyC P X md l.toArray C L z t.size listed a w
  | .nil, listed, a, w, hB, h => by
    simp only [treeZ, Bool.and_eq_true, decide_eq_true_eq] at hB
    obtain ⟨o, ho, hp⟩ := atOp_some' h.2
    exact ⟨h.1, hB.1, hB.2, fun o' ho' => by
      obtain rfl : o' = o := Option.some.inj (ho'.symm.trans (by simpa using ho))
      exact hp⟩
  | .read k t, listed, a, w, hB, h => by
    simp only [treeZ, Bool.and_eq_true] at hB
    obtain ⟨⟨hr, hf⟩, hB'⟩ := hB
    obtain ⟨hc, h⟩ := h
    obtain ⟨o, ho, v, hp, hs'⟩ := atOp_some' h
    have h0 : l.toArray[k]? = some o := by simpa using ho
    have hr' : k ∈ Region.ready md l.toArray listed := by simpa using hr
    exact anyC_first hlast h0 (Region.noSelect_spec hs) t.size listed _ w (Region.free_spec h0 hf) hr' hp (anyC_tree hlast hs t _ _ w hB' hs')
  | .one k t, listed, a, w, hB, h => by
    simp only [treeZ, Bool.and_eq_true, decide_eq_true_eq] at hB
    obtain ⟨hc, h⟩ := h
    obtain ⟨o, ho, hp⟩ := atOp_some' h
    refine ⟨hc, fun h1 => (by rw [hB.1] at h1; cases h1), fun i hi o' ho' => ?_⟩
    rw [hB.1] at hi
    have hik : i = k := by simpa using hi
    subst hik
    obtain rfl : o' = o := Option.some.inj (ho'.symm.trans (by simpa using ho))
    exact stepC_mono (fun a' w' h' => anyC_tree hlast hs t _ a' w' hB.2 h') hp
  | .two k t k' t', listed, a, w, hB, h => by
    simp only [treeZ, Bool.and_eq_true, List.all_eq_true, Bool.or_eq_true, beq_iff_eq, decide_eq_true_eq] at hB
    obtain ⟨⟨⟨⟨hr, hne⟩, hsz⟩, hB1⟩, hB2⟩ := hB
    obtain ⟨hc, h, h'⟩ := h
    obtain ⟨o1, ho1, hp1⟩ := atOp_some' h
    obtain ⟨o2, ho2, hp2⟩ := atOp_some' h'
    refine ⟨hc, fun h1 => (by rw [h1] at hne; simp at hne), fun i hi o' ho' => ?_⟩
    by_cases hik : i = k
    · subst hik
      obtain rfl : o' = o1 := Option.some.inj (ho'.symm.trans (by simpa using ho1))
      exact stepC_mono (fun a' w' h' => anyC_tree hlast hs t _ a' w' hB1 h') hp1
    · have hik' : i = k' := (hr i hi).resolve_left hik
      subst hik'
      obtain rfl : o' = o2 := Option.some.inj (ho'.symm.trans (by simpa using ho2))
      refine stepC_mono (fun a' w' h' => ?_) hp2
      have := anyC_tree hlast hs t' (listed.setIfInBounds i true) a' w' hB2 h'
      rwa [← hsz] at this
def treeFZ (md : Region.Mode) (ops : Array Oper) (is : List Nat) (t : OT) (z : Nat) : Bool :=
  Region.noSelect ops && inL' ops.size is && decide (is.length + t.size + 1 = ops.size) && lastB md ops z && lexK md ops (treeZ md ops z t) is (Array.replicate ops.size false)
/-- THE REGION: the reads is, the tree t, at last z; a call that panics leaves by X. -/
theorem region_treeP {id : Nat} {Q : Exit → Act → World → Prop} {a : Act} {w : World} {l : List Oper} (X : List PanicEntry → List Deferred → World → Prop) (is : List Nat) (t : OT) (z : Nat) (hX : ∀ ch a w, X ch a.defers w → Q (.panic ch) a w) (hm : P.follows .mixedOrders = true) (hB : treeFZ .any l.toArray is t z = true) (hC : C { w with drawn := w.drawn + 1 })
    (h : wpQuiet P l.toArray C (fun a' => treeS P X l C (fun a w => Q .normal a w) z t a' { w with drawn := w.drawn + 1 }) (pickL l is) a) : (Code.region id l.toArray true).wp P Q a w := by
  simp only [treeFZ, Bool.and_eq_true, decide_eq_true_eq] at hB
  obtain ⟨⟨⟨⟨hsel, his⟩, hlen⟩, hlast⟩, hlex⟩ := hB
  refine wp_region_any hm ?_
  have H := anyC_lexK (P := P) (X := X) (C := C) (md := .any) (L := fun a w => Q .normal a w) (f := t.size) (B := treeZ .any l.toArray z t) (K := fun a' w' => treeS P X l C (fun a w => Q .normal a w) z t a' w') hlast hsel (fun listed a w hb _ hk => anyC_tree hlast hsel t listed a w hb hk) is _ a _ his hlex hC h
  have H2 := anyC_wpAny (fun _ _ h => h) hX _ _ _ _ H
  rwa [hlen] at H2
variable {o : Oper} {a : Act} {w : World} {K : Act → World → Prop}
theorem p_call (f : FuncId) (args : Array Value) (hw : Region.wanted o (yielded ops a.tmps) = true) (he : (execOp a.eval o).run P w = .ok (.enter f args) w)
    (h : Calls P f args w fun e w'' => (∃ v, e = .returned v ∧ K (a.put o.dst v) w'') ∨ (∃ ch, e = .panicked ch ∧ X ch a.defers w'')) : stepC P X ops o a K w := by
  unfold stepC
  rw [if_pos hw, he]
  exact h
theorem p_val (v : Value) (w' : World) (hw : Region.wanted o (yielded ops a.tmps) = true) (he : (execOp a.eval o).run P w = .ok (.value v) w') (h : K (a.put o.dst v) w') : stepC P X ops o a K w := by
  unfold stepC
  rw [if_pos hw, he]
  exact h
theorem p_skip (w' : World) (hw : Region.wanted o (yielded ops a.tmps) = true) (he : (execOp a.eval o).run P w = .ok .skip w') (h : K (a.put o.dst undef) w') : stepC P X ops o a K w := by
  unfold stepC
  rw [if_pos hw, he]
  exact h
theorem p_assign (x : Operand) (ho : o.op = .assign x) (hw : Region.wanted o (yielded ops a.tmps) = true) (v : Value) (hv : a.eval x = v) (h : K (a.put o.dst v) w) : stepC P X ops o a K w := by
  subst hv
  unfold stepC
  rw [if_pos hw]
  unfold execOp
  simp only [ho, Sem.run_pure]
  exact h
end
end Go.Proofs.YtlinldbbhdpgcaaGreatDoor.RP
