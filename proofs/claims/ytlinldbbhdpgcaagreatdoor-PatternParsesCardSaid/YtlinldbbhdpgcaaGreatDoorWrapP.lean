/-
  A LAW's ROW WHOSE CODE READS VARIABLES OF GO's LIBRARY (seats without the chain of num's texts): the wrap, the world's shape kept; what the library's variables hold; a slice of integers, opened.
-/
import Derived.Test.YtlinldbbhdpgcaaGreatDoorLibA
import Derived.Test.YtlinldbbhdpgcaaGreatDoorCalA
import Derived.OpenShut
import Derived.Test.YtlinldbbhdpgcaaGreatDoorFrame
import Derived.Shelf.Vars
import Derived.LaidSub
import Derived.MakeChecks
import Derived.Stop.LaidErr
import Derived.Lib.LaidTab
namespace Go.Proofs.YtlinldbbhdpgcaaGreatDoor
open Go.ChangeShapes Go.WideShapes Go.ChangeAt Go.RowKit
theorem change_and_shaped {H : Type} {enc : TypeId × Value → H} {a : Assume} {C : Checked} {os : Os} {f : FuncId} {fn : Func} {s : ChangeSpec} {conds : List PathCond} {apart fresh handsOn again : Bool} {X : World → Array Value → Prop}
    (hX : ∀ (w w' : World) (args : Array Value), w.heap = w'.heap → X w args → X w' args)
    (own : ownKnob C.prog.godebug = none) (started : os.Started) (noInit : C.prog.inits.idxOf? f = none) (hfn : C.prog.funcs[f]? = some fn)
    (witness : ∃ (w : World) (tape : Tape) (i : Input), w.os = os ∧ (w.forCall tape i).Shaped C.prog ∧ i.vars = [] ∧ Input.okWide C.prog (w.forCall tape i) .any w.heap.size f i ∧
      ((s.pre enc C.prog fn conds apart (w.forCall tape i).memory i.args ∧ X (w.forCall tape i).memory i.args) ∧ sizedMet enc C.prog fn (OpenSpec.ofChange s) apart (w.forCall tape i).memory i.args) ∧ a.holds C.prog (lone (Frame.enter C.prog f i.args .normal) [] (w.forCall tape i)))
    (contract : ∀ (W : World) (base : Nat) (args : Array Value) (ds gs : List (DataW H)) (before : List MemPlace),
      (∀ (j : Nat) t v, fn.params[j]? = some t → args[j]? = some v → Value.okWide C.prog W .any base t v) →
      DataW.Whole enc C.prog fn.params.toList s.vars apart W args.toList ds gs before →
      W.ShapedOpen C.prog → X W args →
      Calls C.prog f args W fun e W' => ∃ v, e = .returned v ∧ s.post enc C.prog fn apart fresh handsOn again W args v W') :
    ReturnsInHanded a C os f .any (fun w args => (s.pre enc C.prog fn conds apart w args ∧ X w args) ∧ sizedMet enc C.prog fn (OpenSpec.ofChange s) apart w args) (s.post enc C.prog fn apart fresh handsOn again) := by
  refine returnsInHanded_of_calls own started noInit witness ?_
  intro w tape i _ hsh _ hok hpre hholds
  obtain ⟨_, _, _, fn', hfn', _, _, _, _, hval⟩ := hok
  have e : fn' = fn := Option.some.inj (hfn'.symm.trans hfn)
  subst e
  obtain ⟨⟨⟨ds, gs, before, hw, hc⟩, hx⟩, hz⟩ := hpre
  have hw' := DataW.Whole.of_heap (w' := w.forCall tape i) (by rfl) hw
  refine (contract (w.forCall tape i) w.heap.size i.args ds gs before hval hw' hsh (hX _ _ _ (by rfl) hx)).mono fun e W' ⟨v, he, hp⟩ => ?_
  subst he
  exact ChangeSpec.post_blind hp
theorem laid_one {W : World} {l : List (String × DataW Unit)} {n : String} {d : DataW Unit} (hl : laidMetH Tryz.prog l W) (e : (l.filter fun x => x.1 == n) = [(n, d)]) (hd : d.handleName?.isNone = true) : laidMet Tryz.prog [(n, d)] W := by
  have h := hl.filter (fun x => x.1 == n)
  rw [e, MakeChecks.laidMetH_plain _ _ _ (by simpa using hd)] at h
  exact h
theorem rowErr (u : TypeId) (h : Tryz.prog.typeName? 3 u = some "*errors.errorString") : u = 168 := by
  have star : "*" ++ "errors.errorString" = "*errors.errorString" := by decide
  exact typeName_ptr_named (nm := "errors.errorString") (by rw [star]; kernel_rfl) (by kernel_rfl) (by decide) u (by rw [star]; exact h)
theorem laid_err {W : World} {l : List (String × DataW Unit)} {n : String} {g : Nat} {tx : List UInt8} (hl : laidMetH Tryz.prog l W) (e : (l.filter fun x => x.1 == n) = [(n, .iface "*errors.errorString" (.ptr (.agg [.lit (.string tx)])))])
    (hg : Tryz.prog.globalNamed n = some g) (ht : (Tryz.prog.globals[g]?).map (·.type) = some 60) : ∃ ev, W.cell? ⟨g, 0, none⟩ = some ev ∧ (ev = .nilIface ∨ ∃ te pe, ev = .iface te pe) := by
  obtain ⟨a, s, hv, -, -, -⟩ := laid_sentinel (laid_one hl e rfl) hg ht Tryz.underlying60 rowErr Tryz.underlying168 Tryz.underlying170 rfl rfl Tryz.underlying9 (show Tryz.prog.cellsOf 170 = 1 by kernel_rfl) (show Tryz.prog.cellsOf 9 = 1 by kernel_rfl)
  exact ⟨_, by simpa using World.var?_cell hg hv 0, .inr ⟨_, _, rfl⟩⟩
theorem libOK_of {W : World} {l : List (String × DataW Unit)} {t1 t2 : List UInt8} (h : W.ShapedOpen Tryz.prog) (hl : laidMetH Tryz.prog l W)
    (e1 : (l.filter fun x => x.1 == "internal/strconv.uint64pow10") = [("internal/strconv.uint64pow10", Lib.tabData .u64 Lib.pow10Tab)])
    (e2 : (l.filter fun x => x.1 == "strconv.ErrSyntax") = [("strconv.ErrSyntax", .iface "*errors.errorString" (.ptr (.agg [.lit (.string t1)])))])
    (e3 : (l.filter fun x => x.1 == "strconv.ErrRange") = [("strconv.ErrRange", .iface "*errors.errorString" (.ptr (.agg [.lit (.string t2)])))]) : LibOK W := by
  refine ⟨?_, ?_, ?_, ?_⟩
  · exact Lib.tabIs_of_head (g := 0) (t := 141) (e := 129) (n := 20) (by kernel_rfl) (by kernel_rfl) Tryz.underlying141 Tryz.underlying129 (by kernel_rfl) (by kernel_rfl) (laid_one hl e1 rfl)
  · exact cell_of_shapedOpen_int h (t := 3) (zero := #[.int .i64 0]) (by decide +kernel) (by kernel_rfl) rfl (by kernel_rfl) (by kernel_rfl) Tryz.underlying3
  · exact laid_err hl e2 (by kernel_rfl) (by kernel_rfl)
  · exact laid_err hl e3 (by kernel_rfl) (by kernel_rfl)
theorem isL_open {H : Type} {enc : TypeId × Value → H} {P : Program} {W : World} {t e : TypeId} {fuel : Nat} {cs : List Value} {x : DataW H × List MemPlace} (ht : P.underlying t = some (.slice e)) (he : P.underlying e = some (.int .i64)) (hc : P.cellsOf e = 1)
    (h : DataW.trod enc P W 0 (fun _ => true) true fuel t cs = some x) : ∃ A n c xs, cs = [.slice A n c] ∧ IsL W A n xs ∧ n ≤ maxLen ∧ (∀ y ∈ xs, (Lit.int .i64 y).wf = true) := by
  rcases open_ints ht he hc h with ⟨rfl, -⟩ | ⟨a, len, cap, zs, rfl, -, hl, hm, hz, -, hcell, hwf⟩
  · exact ⟨none, 0, 0, [], rfl, ⟨rfl, fun h => absurd h (by omega)⟩, by simp, by simp⟩
  · refine ⟨some a, len, cap, zs.take len, rfl, ⟨by rw [List.length_take, hz]; simp; omega, fun hn => ?_⟩, by omega, fun y hy => hwf y (List.mem_of_mem_take hy)⟩
    obtain ⟨b, off, rfl, hh⟩ := Go.ints_at hcell (by rw [hz]; simp; omega)
    refine ⟨b, off, rfl, ?_, fun i hi => ?_⟩
    · have h0 := hh 0 (by rw [hz]; simp; omega)
      by_cases hb : b < W.heap.size
      · exact hb
      · simp [World.cell?, hb] at h0
    · rw [hh i (by rw [hz]; simp; omega)]
      simp [hi]
end Go.Proofs.YtlinldbbhdpgcaaGreatDoor
