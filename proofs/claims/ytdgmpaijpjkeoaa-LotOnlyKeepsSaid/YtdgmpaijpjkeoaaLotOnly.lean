/-
  THE WALK OF THE LAW LotOnly: it returns true.
-/
import Derived.Test.YtdgmpaijpjkeoaaOnlyC
import Derived.Test.YtdgmpaijpjkeoaaOwnG
import Derived.Test.YtdgmpaijpjkeoaaLotK
import Derived.Test.YtdgmpaijpjkeoaaRclC
import Derived.Test.YtdgmpaijpjkeoaaLotO
import Derived.OpenShut
namespace Go.Proofs.Ytdgmpaijpjkeoaa
open Go.RowKit Go.ChangeShapes
theorem ints_open {H : Type} {enc : TypeId × Value → H} {W : World} {fuel : Nat} {cs : List Value} {x : DataW H × List MemPlace}
    (h : DataW.trod enc Try.prog W 0 (fun _ => true) true fuel 57 cs = some x) : ∃ A c xs, cs = [.slice A xs.length c] ∧ xs.length ≤ maxLen ∧ IsL W A xs.length xs ∧ ∀ y ∈ xs, I64 y := by
  rcases open_ints Try.underlying57 Try.underlying3 (by kernel_rfl) h with ⟨rfl, -⟩ | ⟨a, len, cap, zs, rfl, -, hl, hm, hz, -, hcell, hwf⟩
  · exact ⟨none, 0, [], rfl, by simp, ⟨rfl, fun h => absurd h (by simp)⟩, by simp⟩
  · have hlen : (zs.take len).length = len := by rw [List.length_take, hz]; simp; omega
    refine ⟨some a, cap, zs.take len, by rw [hlen], by omega, ⟨rfl, fun hn => ?_⟩, fun y hy => bounds_i64 (hwf y (List.mem_of_mem_take hy))⟩
    rw [hlen] at hn ⊢
    obtain ⟨b, off, rfl, hh⟩ := Go.ints_at hcell (by rw [hz]; simp; omega)
    refine ⟨b, off, rfl, ?_, fun i hi => ?_⟩
    · have h0 := hh 0 (by rw [hz]; simp; omega)
      by_cases hb : b < W.heap.size
      · exact hb
      · simp [World.cell?, hb] at h0
    · rw [hh i (by rw [hz]; simp; omega)]
      simp [hi]
/-- The cells of n lots may be written. -/
def MutM (w : World) (B b n : Nat) : Prop := B ≤ b ∧ ∃ xs, Row w b xs ∧ xs.length = n * 3
theorem MutM.set {w : World} {B b n : Nat} (h : MutM w B b n) (j : Nat) (u : Value) : MutM (w.setCell ⟨b, j, none⟩ u) B b n := by
  obtain ⟨h1, xs, h2, h3⟩ := h
  exact ⟨h1, xs.set j u, h2.set j u, by rw [List.length_set]; exact h3⟩
theorem MutM.at {w : World} {B b n : Nat} (h : MutM w B b n) {k : Nat} (hk : k < n) : ∃ u, w.cell? ⟨b, k * 3 + 1, none⟩ = some u ∧ w.frozen? ⟨b, k * 3 + 1, none⟩ = false ∧ b < w.heap.size := by
  obtain ⟨h1, xs, h2, h3⟩ := h
  exact ⟨_, h2.get (k * 3 + 1) (by omega), h2.free _, h2.lt⟩
theorem OwnL.mutM {w : World} {B n c : Nat} {A : Option Addr} {ls : List LotD} (h : OwnL w B (.slice A n c) ls) (hp : 0 < ls.length) : ∃ g, A = some ⟨g, 0, none⟩ ∧ MutM w B g ls.length := by
  obtain ⟨A', c', e, -, -⟩ := h.lots
  cases e
  have hlt := h.lt
  obtain ⟨ts, t1, t2, -⟩ := h
  rcases id t1.2 with ⟨e, e0⟩ | ⟨g, cap, cur, e, -⟩
  · omega
  · cases e
    exact ⟨g, rfl, (hlt g rfl).1, _, (Row.of_own t1).1, by rw [flat3_length, t2]⟩
theorem onlyE_len {l : List LotD} {xs : List Int} {r : List LotD × List Int × Int} (h : onlyE l xs = r) (hl : l.length ≤ 40) (hps : ∀ y ∈ l, y.parts.length ≤ 20) : r.1.length ≤ 40 ∧ r.2.1.length ≤ 40 ∧ ∀ y ∈ r.1, y.parts.length ≤ 20 := by
  subst h
  unfold onlyE
  split
  · exact ⟨by simp, by simp, fun y hy => by simp at hy⟩
  · split
    · exact ⟨by simp, by simp, fun y hy => by simp at hy⟩
    · refine ⟨?_, ?_, fun y hy => ?_⟩
      · simp only [subL_length]; have := selL_length (oldB l xs) l.length; omega
      · have := selL_length (oldB l xs) l.length; simp only []; omega
      · simp only [subL, List.mem_map] at hy
        obtain ⟨i, hi, rfl⟩ := hy
        rw [subX_part]
        by_cases h : i < l.length
        · rw [getD_at' h]; exact hps _ (List.getElem_mem h)
        · rw [List.getD_eq_getElem?_getD, List.getElem?_eq_none (by omega)]; exact Nat.zero_le _
set_option maxRecDepth 100000 in
set_option maxHeartbeats 1000000 in
theorem lotOnly_walk (A : Option Addr) (c : Nat) (l : List LotD) (O : Option Addr) (d : Nat) (xs : List Int) (w : World) (hL : LotsIn w A l) (hl : l.length ≤ maxLen) (hO : IsL w O xs.length xs) (hx : xs.length ≤ maxLen) (h64 : ∀ x ∈ xs, I64 x) :
    Calls Try.prog 12 #[.slice A l.length c, .slice O xs.length d] w fun e w' => e = .returned (.bool true) ∧ Below w.heap.size w w' := by
  have HL := Lib.hid hL
  have HO := Lib.hid hO
  have HX := Lib.hid h64
  unfold maxLen at hx
  clear hL hO h64
  cases hlong : longB l with
  | true =>
    have HLO := Lib.hid hlong
    clear hlong
    go_enter Try.func12, Try.ntmps12
    go_wp2_with fail
    refine (long_any l true HLO.out A c _ HL.out hl).mono ?_
    rintro e w' ⟨rfl, rfl⟩
    go_wp2_with fail
    refine (known_any _).mono ?_
    rintro e w1 ⟨rfl, hb1⟩
    go_wp2
    go_ret
    exact ⟨rfl, hb1⟩
  | false =>
    obtain ⟨hl40, hps20⟩ := long_small hlong
    have HLO := Lib.hid hlong
    clear hlong
    by_cases h60 : 60 < xs.length
    · have d0 : decide ((60 : Int) < (xs.length : Int)) = true := decide_eq_true (by omega)
      clear hps20
      go_enter Try.func12, Try.ntmps12
      go_wp2_with fail
      refine (long_any l false HLO.out A c _ HL.out hl).mono ?_
      rintro e w' ⟨rfl, rfl⟩
      go_wp2_with fail
      refine (known_any _).mono ?_
      rintro e w1 ⟨rfl, hb1⟩
      go_wp2
      go_ret
      exact ⟨rfl, hb1⟩
    · obtain ⟨a, old, z, hm⟩ : ∃ a old z, onlyE l xs = (a, old, z) := ⟨_, _, _, rfl⟩
      obtain ⟨ha, ho40, hpa⟩ := onlyE_len hm hl40 hps20
      simp only at ha ho40 hpa
      have HM := Lib.hid hm
      have HPS := Lib.hid (show ∀ x ∈ l, x.parts.length ≤ 1000 from fun x hx => by have := hps20 x hx; omega)
      have HPA := Lib.hid (show ∀ x ∈ a, x.parts.length ≤ 1000 from fun x hx => by have := hpa x hx; omega)
      have d0 : decide ((60 : Int) < (xs.length : Int)) = false := decide_eq_false (by omega)
      clear hm hps20 hpa
      go_enter Try.func12, Try.ntmps12
      go_wp2_with fail
      refine (long_any l false HLO.out A c _ HL.out hl).mono ?_
      rintro e w' ⟨rfl, rfl⟩
      go_wp2_with fail
      refine (rcopy_any l (by omega) HPS.out A c w HL.out).mono ?_
      rintro e w1 ⟨vo, rfl, o1, hb1⟩
      obtain ⟨A0, c0', rfl, hle0, L0⟩ := o1.lots
      have H1 := Lib.hid (And.intro hb1 L0)
      clear o1 L0 hb1
      go_wp2_with fail
      refine (only_any l (by omega) HPS.out xs (by omega) HX.out (a, old, z) HM.out A0 c0' hle0 O d w1 H1.out.2 (HO.out.below H1.out.1)).mono ?_
      rintro e w2 ⟨v, Ao, co, rfl, o2, i2, hb2⟩
      simp only at o2 i2
      obtain ⟨A2, c2', rfl, -, -⟩ := o2.lots
      have H2 := Lib.hid (And.intro o2 (And.intro i2 hb2))
      clear o2 hb2 i2
      go_wp2_with fail
      refine (ronly_any l (by omega) HPS.out xs (by omega) HX.out (a, old, z) HM.out A c O d w2 (HL.out.below (H1.out.1.trans (H2.out.2.2.mono H1.out.1.size))) (HO.out.below (H1.out.1.trans (H2.out.2.2.mono H1.out.1.size)))).mono ?_
      rintro e w3 ⟨v, Ar, cr, rfl, o3, i3, hb3⟩
      simp only at o3 i3
      obtain ⟨A3, c3', rfl, -, L3⟩ := o3.lots
      have H3 := Lib.hid (And.intro (H2.out.1.below hb3) (And.intro (H2.out.2.1.below hb3) (And.intro L3 (And.intro i3 (H2.out.2.2.trans (hb3.mono H2.out.2.2.size))))))
      clear o3 hb3 L3 i3 H2
      have d1 : (z == z) = true := by simp
      go_wp2_with fail
      obtain ⟨A2', c2'', e2, -, L2⟩ := H3.out.1.lots
      cases e2
      refine (same_lots a (by omega) HPA.out A2 c2' A3 c3' w3 L2 H3.out.2.2.1).mono ?_
      rintro e w4 ⟨rfl, hb4⟩
      have H4 := Lib.hid (And.intro (H3.out.1.below hb4) (And.intro (H3.out.2.1.below hb4) (And.intro (H3.out.2.2.2.1.below hb4) (H3.out.2.2.2.2.trans (hb4.mono H3.out.2.2.2.2.size)))))
      clear hb4 H3 L2
      go_wp2_with fail
      refine (sameInts_any Ao old.length co Ar cr old w4 H4.out.2.1 H4.out.2.2.1 (by omega)).mono ?_
      rintro e w6 ⟨rfl, hb4⟩
      have H6 := Lib.hid (And.intro (H4.out.1.below hb4) (H4.out.2.2.2.trans (hb4.mono H4.out.2.2.2.size)))
      clear hb4 H4
      have R0 := Lib.hid (show (0 < a.length → ∃ g, A2 = some ⟨g, 0, none⟩ ∧ MutM w6 w1.heap.size g a.length) ∧ Below w1.heap.size w1 w6 from ⟨fun h => H6.out.1.mutM h, H6.out.2⟩)
      clear H6
      go_wp2
      go_loopw [13] (fun t wr => ∃ k : Nat, t = .int .i64 k ∧ k ≤ a.length ∧ Hid ((0 < a.length → ∃ g, A2 = some ⟨g, 0, none⟩ ∧ MutM wr w1.heap.size g a.length) ∧ Below w1.heap.size w1 wr)) (fun t _ => a.length - (intOf t).toNat)
      case atStart => exact ⟨0, rfl, by omega, R0⟩
      case round =>
        clear R0
        obtain ⟨k, rfl, hk, hr⟩ := hrel
        by_cases hlt : k < a.length
        · obtain ⟨g, rfl, hmu⟩ := hr.out.1 (by omega)
          obtain ⟨u, f1, f2, f3⟩ := hmu.at hlt
          have H2 := Lib.hid (show (0 < a.length → ∃ g', some (⟨g, 0, none⟩ : Addr) = some ⟨g', 0, none⟩ ∧ MutM (wr.setCell ⟨g, k * 3 + 1, none⟩ (.int .i64 (-1))) w1.heap.size g' a.length) ∧ Below w1.heap.size w1 (wr.setCell ⟨g, k * 3 + 1, none⟩ (.int .i64 (-1))) from ⟨fun _ => ⟨g, rfl, hmu.set _ _⟩, hr.out.2.setCell hmu.1 _⟩)
          clear hmu hr
          go_wp2
          go_roundw
          case rel => exact ⟨k + 1, by go_num, by omega, H2⟩
          case measure => simp [intOf]; omega
        · obtain rfl : k = a.length := by omega
          have HB := Lib.hid hr.out.2
          clear hr
          go_wp2_with fail
          refine (same_lots l (by omega) HPS.out A0 c0' A c wr (H1.out.2.below HB.out) (HL.out.below (H1.out.1.trans (HB.out.mono H1.out.1.size)))).mono ?_
          rintro e w7 ⟨rfl, hb7⟩
          have HB7 := Lib.hid (HB.out.trans (hb7.mono HB.out.size))
          clear hb7 HB
          go_wp2_with fail
          refine (known_any _).mono ?_
          rintro e w8 ⟨rfl, hb8⟩
          have HB8 := Lib.hid (H1.out.1.trans ((HB7.out.trans (hb8.mono HB7.out.size)).mono H1.out.1.size))
          clear hb8
          go_wp2
          go_ret
          exact ⟨rfl, HB8.out⟩
end Go.Proofs.Ytdgmpaijpjkeoaa
