/-
  A REGION THAT DRAWS ITS ORDER, with one operation that may come at any time (XRegJ), WHERE A CALL'S VALUE MAY DEPEND ON THE WORLD (new memory): the chain's elements are 0: a read, 1: an operation of one value, 2: an operation whose value meets a relation to the world.
-/
import Derived.Test.YtdgmpaijpjkeoaaRegK
namespace Go.Proofs.Ytdgmpaijpjkeoaa
open Go.RowKit
open Go
/-- The operation yields a value that meets R, and the world has grown. -/
def GrowsR (P : Program) (R : Value → World → Prop) (w : World) : Result Next → Prop
  | .ok (.value u) w' => R u w' ∧ ∃ y, w' = grow w y
  | .ok .skip w' => R undef w' ∧ ∃ y, w' = grow w y
  | .ok (.enter f args) w' => Calls P f args w' fun e w'' => ∃ v, e = .returned v ∧ R v w'' ∧ ∃ y, w'' = grow w y
  | _ => False
section
variable {P : Program} {md : Region.Mode} {C0 : World → Prop} {L : Act → World → Prop}
def floS2 (P : Program) (l : List Oper) (K : (World → Prop) → Act → Prop) : List (Nat × Nat) → (World → Prop) → Act → Prop
  | [], C, a => K C a
  | (0, k) :: js, C, a => atOp l k fun o => ∃ v, (∀ w, (execOp a.eval o).run P w = .ok (.value v) w) ∧ floS2 P l K js C (a.put o.dst v)
  | (1, k) :: js, C, a => atOp l k fun o => ∃ v, (∀ w, C w → GrowsTo P v w ((execOp a.eval o).run P w)) ∧ floS2 P l K js C (a.put o.dst v)
  | (_ + 2, k) :: js, C, a => atOp l k fun o => ∃ R : Value → World → Prop, (∀ v w y, R v w → R v (grow w y)) ∧ (∀ w, C w → GrowsR P R w ((execOp a.eval o).run P w)) ∧ ∀ v, floS2 P l K js (fun w => C w ∧ R v w) (a.put o.dst v)
def floT2 (md : Region.Mode) (ops : Array Oper) (tl : List Nat) : List (Nat × Nat) → Array Bool → Bool
  | [], listed => seqL md ops tl listed
  | (0, k) :: js, listed => (Region.ready md ops listed).contains k && Region.free md ops listed k && floT2 md ops tl js (listed.setIfInBounds k true)
  | (_ + 1, k) :: js, listed => decide (Region.ready md ops listed = [k]) && floT2 md ops tl js (listed.setIfInBounds k true)
def floF2 (md : Region.Mode) (ops : Array Oper) (al : Nat) (tl : List Nat) : List (Nat × Nat) → Array Bool → Bool
  | [], listed => decide (Region.ready md ops listed = [al]) && seqL md ops tl (listed.setIfInBounds al true)
  | (0, k) :: js, listed => (Region.ready md ops listed).contains k && Region.free md ops listed k && floF2 md ops al tl js (listed.setIfInBounds k true)
  | (n + 1, k) :: js, listed => ((Region.ready md ops listed).all fun i => i == k || i == al) && !(Region.ready md ops listed).isEmpty && floF2 md ops al tl js (listed.setIfInBounds k true) && floT2 md ops tl ((n + 1, k) :: js) (listed.setIfInBounds al true)
def aparts2 (ops : Array Oper) (al : Nat) (js : List (Nat × Nat)) : Bool := match ops[al]? with
  | some o => js.all fun k => match ops[k.2]? with | some x => o.apart ops x | none => false
  | none => false
theorem plain_of_growsR {o : Oper} {a' : Act} {R : Value → World → Prop} {w : World} {K : Act → World → Prop} {r : Result Next} (h : GrowsR P R w r) (hk : ∀ v w', R v w' → (∃ y, w' = grow w y) → K (a'.put o.dst v) w') : plainUpon P o a' K r := by
  cases r with
  | ok n w' =>
    cases n <;> simp only [GrowsR] at h <;> simp only [plainUpon]
    case value => exact hk _ _ h.1 h.2
    case skip => exact hk _ _ h.1 h.2
    case enter => exact h.mono fun e w'' ⟨v, he, hr, hw⟩ => ⟨v, he, hk _ _ hr hw⟩
  | halt x w' => exact absurd h (by simp [GrowsR])
section
variable {G : Value → World → Prop} (hG : ∀ u w y, G u w → G u (grow w y))
include hG
theorem anyC_floT2 {l : List Oper} {tl : List Nat} {oa : Oper} (hu : unguarded l = true) (hs : Region.noSelect l.toArray = true) :
    ∀ (js : List (Nat × Nat)) (C : World → Prop) (listed : Array Bool) (a : Act) (w : World) (u : Value), (∀ w, C w → C0 w) → (∀ w y, C w → C (grow w y)) → (∀ k ∈ js, ∀ o, l[k.2]? = some o → oa.apart l.toArray o = true) → floT2 md l.toArray tl js listed = true → C w → G u w →
      floS2 P l (fun C a' => ∀ u w', C w' → G u w' → tailS P l C0 L tl (a'.put oa.dst u) w') js C a → anyC P md l.toArray C0 L (js.length + tl.length) listed (a.put oa.dst u) w
  | [], C, listed, a, w, u, _, _, _, hB, hw, hg, h => by
    rw [List.length_nil, Nat.zero_add]
    exact anyC_tail hu tl _ _ _ hB (h u w hw hg)
  | (0, j) :: js, C, listed, a, w, u, hsub, hC, hap, hB, hw, hg, h => by
    simp only [floT2, Bool.and_eq_true] at hB
    obtain ⟨⟨hr, hf⟩, hB'⟩ := hB
    obtain ⟨o, ho, v, hv, hs'⟩ := atOp_some' h
    have h0 : l.toArray[j]? = some o := by simpa using ho
    have e : ((0, j) :: js).length + tl.length = (js.length + tl.length) + 1 := by simp only [List.length_cons]; omega
    rw [e]
    have hr' : j ∈ Region.ready md l.toArray listed := by simpa using hr
    obtain ⟨h1, h2, h3⟩ := Oper.apart_spec (hap (0, j) (by simp) o ho)
    have hp : PureIn P l.toArray C0 o v (a.put oa.dst u) := .inl ⟨by unfold Region.wanted; rw [unguarded_at hu ho], fun w _ => .inl (by rw [execOp_put o (noSel_at hs ho) a oa.dst u h1]; exact hv w)⟩
    refine anyC_first h0 (Region.noSelect_spec hs) (js.length + tl.length) listed _ w (Region.free_spec h0 hf) hr' hp ?_
    rw [Act.put_comm a u v h2]
    exact anyC_floT2 hu hs js C _ _ _ u hsub hC (fun k hk => hap k (by simp [hk])) hB' hw hg hs'
  | (1, j) :: js, C, listed, a, w, u, hsub, hC, hap, hB, hw, hg, h => by
    simp only [floT2, Bool.and_eq_true, decide_eq_true_eq] at hB
    obtain ⟨o, ho, v, hv, hr⟩ := atOp_some' h
    have e : ((1, j) :: js).length + tl.length = (js.length + tl.length) + 1 := by simp only [List.length_cons]; omega
    rw [e]
    refine ⟨hsub w hw, fun h1 => (by rw [hB.1] at h1; cases h1), fun i hi o' ho' => ?_⟩
    rw [hB.1] at hi
    have hik : i = j := by simpa using hi
    subst hik
    obtain rfl : o' = o := Option.some.inj (ho'.symm.trans (by simpa using ho))
    obtain ⟨h1, h2, h3⟩ := Oper.apart_spec (hap (1, i) (by simp) o' ho)
    refine stepC_plain (unguarded_at hu ho) ?_
    rw [execOp_put o' (noSel_at hs ho) a oa.dst u h1]
    refine plain_of_grows (hv w hw) ?_
    rintro w' ⟨y, rfl⟩
    rw [Act.put_comm a u v h2]
    exact anyC_floT2 hu hs js C _ _ _ u hsub hC (fun k hk => hap k (by simp [hk])) hB.2 (hC _ _ hw) (hG _ _ _ hg) hr
  | (n + 2, j) :: js, C, listed, a, w, u, hsub, hC, hap, hB, hw, hg, h => by
    simp only [floT2, Bool.and_eq_true, decide_eq_true_eq] at hB
    obtain ⟨o, ho, R, hR, hv, hr⟩ := atOp_some' h
    have e : ((n + 2, j) :: js).length + tl.length = (js.length + tl.length) + 1 := by simp only [List.length_cons]; omega
    rw [e]
    refine ⟨hsub w hw, fun h1 => (by rw [hB.1] at h1; cases h1), fun i hi o' ho' => ?_⟩
    rw [hB.1] at hi
    have hik : i = j := by simpa using hi
    subst hik
    obtain rfl : o' = o := Option.some.inj (ho'.symm.trans (by simpa using ho))
    obtain ⟨h1, h2, h3⟩ := Oper.apart_spec (hap (n + 2, i) (by simp) o' ho)
    refine stepC_plain (unguarded_at hu ho) ?_
    rw [execOp_put o' (noSel_at hs ho) a oa.dst u h1]
    refine plain_of_growsR (hv w hw) ?_
    rintro v w' hrv ⟨y, rfl⟩
    rw [Act.put_comm a u v h2]
    exact anyC_floT2 hu hs js (fun w => C w ∧ R v w) _ _ _ u (fun w hw => hsub w hw.1) (fun w y hw => ⟨hC w y hw.1, hR v w y hw.2⟩) (fun k hk => hap k (by simp [hk])) hB.2 ⟨hC _ _ hw, hrv⟩ (hG _ _ _ hg) (hr v)
theorem anyC_floF2 {l : List Oper} {al : Nat} {tl : List Nat} {oa : Oper} (hu : unguarded l = true) (hs : Region.noSelect l.toArray = true) (hoa : l[al]? = some oa)
    (ha : ∀ (a : Act) w, C0 w → ∃ u w', (execOp a.eval oa).run P w = .ok (.value u) w' ∧ (∃ y, w' = grow w y) ∧ G u w') :
    ∀ (js : List (Nat × Nat)) (C : World → Prop) (listed : Array Bool) (a : Act) (w : World), (∀ w, C w → C0 w) → (∀ w y, C w → C (grow w y)) → (∀ k ∈ js, ∀ o, l[k.2]? = some o → oa.apart l.toArray o = true) → floF2 md l.toArray al tl js listed = true → C w →
      floS2 P l (fun C a' => ∀ u w', C w' → G u w' → tailS P l C0 L tl (a'.put oa.dst u) w') js C a → anyC P md l.toArray C0 L (js.length + 1 + tl.length) listed a w
  | [], C, listed, a, w, hsub, hC, _, hB, hw, h => by
    simp only [floF2, Bool.and_eq_true, decide_eq_true_eq] at hB
    rw [List.length_nil, Nat.zero_add, Nat.add_comm]
    refine ⟨hsub w hw, fun h1 => (by rw [hB.1] at h1; cases h1), fun i hi o' ho' => ?_⟩
    rw [hB.1] at hi
    have hik : i = al := by simpa using hi
    subst hik
    obtain rfl : o' = oa := Option.some.inj (ho'.symm.trans (by simpa using hoa))
    refine stepC_plain (unguarded_at hu hoa) ?_
    obtain ⟨u, w', he, ⟨y, rfl⟩, hg⟩ := ha a w (hsub w hw)
    rw [he]
    exact anyC_tail hu tl _ _ _ hB.2 (h u _ (hC _ _ hw) hg)
  | (0, j) :: js, C, listed, a, w, hsub, hC, hap, hB, hw, h => by
    simp only [floF2, Bool.and_eq_true] at hB
    obtain ⟨⟨hr, hf⟩, hB'⟩ := hB
    obtain ⟨o, ho, v, hv, hs'⟩ := atOp_some' h
    have h0 : l.toArray[j]? = some o := by simpa using ho
    have e : ((0, j) :: js).length + 1 + tl.length = (js.length + 1 + tl.length) + 1 := by simp only [List.length_cons]; omega
    rw [e]
    have hr' : j ∈ Region.ready md l.toArray listed := by simpa using hr
    have hp : PureIn P l.toArray C0 o v a := .inl ⟨by unfold Region.wanted; rw [unguarded_at hu ho], fun w _ => .inl (hv w)⟩
    exact anyC_first h0 (Region.noSelect_spec hs) (js.length + 1 + tl.length) listed _ w (Region.free_spec h0 hf) hr' hp (anyC_floF2 hu hs hoa ha js C _ _ _ hsub hC (fun k hk => hap k (by simp [hk])) hB' hw hs')
  | (1, j) :: js, C, listed, a, w, hsub, hC, hap, hB, hw, h => by
    have hS := h
    simp only [floF2, Bool.and_eq_true, List.all_eq_true, Bool.or_eq_true, beq_iff_eq] at hB
    obtain ⟨⟨⟨hr, hne⟩, hB1⟩, hB2⟩ := hB
    obtain ⟨o, ho, v, hv, hr'⟩ := atOp_some' h
    have e : ((1, j) :: js).length + 1 + tl.length = (js.length + 1 + tl.length) + 1 := by simp only [List.length_cons]; omega
    rw [e]
    refine ⟨hsub w hw, fun h1 => (by rw [h1] at hne; simp at hne), fun i hi o' ho' => ?_⟩
    rcases Nat.decEq i al with hia | hia
    · have hij : i = j := by
        rcases hr i hi with h1 | h1
        · exact h1
        · exact absurd h1 hia
      subst hij
      obtain rfl : o' = o := Option.some.inj (ho'.symm.trans (by simpa using ho))
      refine stepC_plain (unguarded_at hu ho) (plain_of_grows (hv w hw) ?_)
      rintro w' ⟨y, rfl⟩
      exact anyC_floF2 hu hs hoa ha js C _ _ _ hsub hC (fun k hk => hap k (by simp [hk])) hB1 (hC _ _ hw) hr'
    · subst hia
      obtain rfl : o' = oa := Option.some.inj (ho'.symm.trans (by simpa using hoa))
      refine stepC_plain (unguarded_at hu hoa) ?_
      obtain ⟨u, w', he, ⟨y, rfl⟩, hg⟩ := ha a w (hsub w hw)
      rw [he]
      have := anyC_floT2 hG hu hs (md := md) (L := L) (C0 := C0) ((1, j) :: js) C _ a (grow w y) u hsub hC hap hB2 (hC _ _ hw) hg hS
      have e2 : ((1, j) :: js).length + tl.length = js.length + 1 + tl.length := by simp
      rw [e2] at this
      exact this
  | (n + 2, j) :: js, C, listed, a, w, hsub, hC, hap, hB, hw, h => by
    have hS := h
    simp only [floF2, Bool.and_eq_true, List.all_eq_true, Bool.or_eq_true, beq_iff_eq] at hB
    obtain ⟨⟨⟨hr, hne⟩, hB1⟩, hB2⟩ := hB
    obtain ⟨o, ho, R, hR, hv, hr'⟩ := atOp_some' h
    have e : ((n + 2, j) :: js).length + 1 + tl.length = (js.length + 1 + tl.length) + 1 := by simp only [List.length_cons]; omega
    rw [e]
    refine ⟨hsub w hw, fun h1 => (by rw [h1] at hne; simp at hne), fun i hi o' ho' => ?_⟩
    rcases Nat.decEq i al with hia | hia
    · have hij : i = j := by
        rcases hr i hi with h1 | h1
        · exact h1
        · exact absurd h1 hia
      subst hij
      obtain rfl : o' = o := Option.some.inj (ho'.symm.trans (by simpa using ho))
      refine stepC_plain (unguarded_at hu ho) (plain_of_growsR (hv w hw) ?_)
      rintro v w' hrv ⟨y, rfl⟩
      exact anyC_floF2 hu hs hoa ha js (fun w => C w ∧ R v w) _ _ _ (fun w hw => hsub w hw.1) (fun w y hw => ⟨hC w y hw.1, hR v w y hw.2⟩) (fun k hk => hap k (by simp [hk])) hB1 ⟨hC _ _ hw, hrv⟩ (hr' v)
    · subst hia
      obtain rfl : o' = oa := Option.some.inj (ho'.symm.trans (by simpa using hoa))
      refine stepC_plain (unguarded_at hu hoa) ?_
      obtain ⟨u, w', he, ⟨y, rfl⟩, hg⟩ := ha a w (hsub w hw)
      rw [he]
      have := anyC_floT2 hG hu hs (md := md) (L := L) (C0 := C0) ((n + 2, j) :: js) C _ a (grow w y) u hsub hC hap hB2 (hC _ _ hw) hg hS
      have e2 : ((n + 2, j) :: js).length + tl.length = js.length + 1 + tl.length := by simp
      rw [e2] at this
      exact this
end
def lexFB2 (md : Region.Mode) (ops : Array Oper) (is : List Nat) (js : List (Nat × Nat)) (al : Nat) (tl : List Nat) : Bool :=
  Region.noSelect ops && inL' ops.size is && decide (is.length + (js.length + 1 + tl.length) = ops.size) && aparts2 ops al js && lexK md ops (floF2 md ops al tl js) is (Array.replicate ops.size false)
theorem aparts2_spec {l : List Oper} {al : Nat} {js : List (Nat × Nat)} (h : aparts2 l.toArray al js = true) : ∃ oa, l[al]? = some oa ∧ ∀ k ∈ js, ∀ o, l[k.2]? = some o → oa.apart l.toArray o = true := by
  unfold aparts2 at h
  split at h
  · rename_i oa hoa
    refine ⟨oa, by simpa using hoa, fun k hk o ho => ?_⟩
    have := List.all_eq_true.1 h k hk
    simp only [List.getElem?_toArray, ho] at this
    exact this
  · cases h
/-- THE REGION: the reads is, the chain js, the operation al at any time beside it, the tail tl. -/
theorem region_float2 {id : Nat} {Q : Exit → Act → World → Prop} {a : Act} {w : World} {l : List Oper} (G : Value → World → Prop) (is : List Nat) (js : List (Nat × Nat)) (al : Nat) (tl : List Nat) (hm : P.follows .mixedOrders = true) (hu : unguarded l = true) (hB : lexFB2 .any l.toArray is js al tl = true)
    (hC : ∀ w y, C0 w → C0 (grow w y)) (hG : ∀ u w y, G u w → G u (grow w y)) (hC0 : C0 { w with drawn := w.drawn + 1 })
    (ha : atOp l al fun oa => (∀ (a : Act) w, C0 w → ∃ u w', (execOp a.eval oa).run P w = .ok (.value u) w' ∧ (∃ y, w' = grow w y) ∧ G u w') ∧ (∀ (a : Act) t v, (execOp (Act.put a t v).eval oa) = execOp a.eval oa))
    (h : wpQuiet P l.toArray C0 (fun a' => ∀ w', C0 w' → floS2 P l (fun C a' => ∀ u w', C w' → G u w' → atOp l al fun oa => tailS P l C0 (fun a w => Q .normal a w) tl (a'.put oa.dst u) w') js C0 a') (pickL l is) a) : (Code.region id l.toArray true).wp P Q a w := by
  simp only [lexFB2, Bool.and_eq_true, decide_eq_true_eq] at hB
  obtain ⟨⟨⟨⟨hsel, his⟩, hlen⟩, hap⟩, hlex⟩ := hB
  obtain ⟨oa, hoa, hap'⟩ := aparts2_spec hap
  have ha' : _ := (by unfold atOp at ha; rw [hoa] at ha; exact ha : (∀ (a : Act) w, C0 w → ∃ u w', (execOp a.eval oa).run P w = .ok (.value u) w' ∧ (∃ y, w' = grow w y) ∧ G u w') ∧ (∀ (a : Act) t v, (execOp (Act.put a t v).eval oa) = execOp a.eval oa))
  refine wp_region_any hm ?_
  have H := anyC_lexK (P := P) (C := C0) (md := .any) (L := fun a w => Q .normal a w) (f := js.length + 1 + tl.length) (B := floF2 .any l.toArray al tl js) (K := fun a' w' => floS2 P l (fun C a' => ∀ u w', C w' → G u w' → atOp l al fun oa => tailS P l C0 (fun a w => Q .normal a w) tl (a'.put oa.dst u) w') js C0 a') hsel (fun listed a w hb hw hk =>
    anyC_floF2 hG hu hsel hoa ha'.1 js C0 listed a w (fun _ h => h) hC hap' hb hw (by
      simp only [atOp, hoa] at hk
      exact hk)) is _ a _ his hlex hC0 h
  rw [hlen] at H
  exact anyC_wpAny (fun _ _ h => h) _ _ _ _ H
theorem g_assignV {a : Act} {w : World} {K : Act → World → Prop} {o : Oper} (x : Operand) (ho : o.op = .assign x) (v : Value) (hv : a.eval x = v) (h : K (a.put o.dst v) w) : plainUpon P o a K ((execOp a.eval o).run P w) := by
  subst hv
  exact g_assign x ho h
/-- A call whose value meets a relation. -/
theorem flo_callR {C : World → Prop} {a : Act} {o : Oper} {R : Value → World → Prop} {S : Prop} (f : FuncId) (args : Array Value) (hR : ∀ v w y, R v w → R v (grow w y)) (he : ∀ w, (execOp a.eval o).run P w = .ok (.enter f args) w) (hc : ∀ w, C w → Calls P f args w fun e w' => ∃ v, e = .returned v ∧ R v w' ∧ Below w.heap.size w w') (h : S) :
    (∀ v w y, R v w → R v (grow w y)) ∧ (∀ w, C w → GrowsR P R w ((execOp a.eval o).run P w)) ∧ S :=
  ⟨hR, fun w hw => by rw [he w]; exact (hc w hw).mono fun e w' ⟨v, h1, h2, h3⟩ => ⟨v, h1, h2, grow_of_below h3⟩, h⟩
end
end Go.Proofs.Ytdgmpaijpjkeoaa
