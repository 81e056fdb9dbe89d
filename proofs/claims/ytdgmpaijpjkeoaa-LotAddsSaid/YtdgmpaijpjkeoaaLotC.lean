/-
  partsError.
-/
import Derived.Test.YtdgmpaijpjkeoaaLotB
import Derived.Deep.DeepCutAuto
namespace Go.Proofs.Ytdgmpaijpjkeoaa
open Go.RowKit
theorem enter_of {f : FuncId} {fn : Func} (hf : Try.prog.funcs[f]? = some fn) (hname : (fn.name == "runtime.NumGoroutine") = false) (hb : fn.body.isNone = false) (args : Array Value) (w : World) : (callFunc f args).run Try.prog w = .ok (.enter f args) w := by
  have h1 : fn.name ≠ "runtime.NumGoroutine" := by simpa using hname
  have h2 : fn.body ≠ none := by intro e; rw [e] at hb; cases hb
  simp [callFunc, hf, h1, h2]
theorem enter_same (args : Array Value) (w : World) : (callFunc 116 args).run Try.prog w = .ok (.enter 116 args) w :=
  enter_of Try.func116 (by kernel_rfl) (by kernel_rfl) args w
theorem PartsIn.take {w : World} {A : Option Addr} {ps : List (Int × Int)} (h : PartsIn w A ps) (k : Nat) : PartsIn w A (ps.take k) := by
  refine ⟨fun p hp => h.1 p (List.mem_of_mem_take hp), fun hk => ?_⟩
  rw [List.length_take] at hk
  obtain ⟨b, o, rfl, hlt, hc⟩ := h.2 (by omega)
  refine ⟨b, o, rfl, hlt, fun j hj => ?_⟩
  rw [List.length_take] at hj
  rw [List.getElem_take]
  exact hc j (by omega)
set_option maxRecDepth 100000 in
theorem same_any (b : Nat) (n : Int) (ps : List (Int × Int)) (w : World) (h : w.cell? ⟨b, 0, none⟩ = some (.int .i64 n)) (hlt : b < w.heap.size) : PredP 116 #[.pointer (some ⟨b, 0, none⟩)] (fun q => q.1 == n) w ps := by
  intro W x hb _ h1 h2
  have hc := (hb.cell (p := ⟨b, 0, none⟩) hlt).trans h
  have hs := Nat.lt_of_lt_of_le hlt hb.size
  obtain ⟨x1, x2⟩ := x
  go_enter Try.func116, Try.ntmps116
  go_wp2
  go_ret
  exact ⟨rfl, (by repeat' (first | (with_reducible exact Below.refl _ _) | (with_reducible assumption) | (with_reducible refine below_drewN ?_ _) | (with_reducible refine below_step (by assumption) ?_ ?_) | (with_reducible refine Below.alloc ?_ ?_ _) | (with_reducible refine Below.setCell ?_ ?_ _) | (with_reducible refine Below.drew ?_) | go_size | (exact Below.size (by assumption)) | (refine Nat.le_trans (Below.size (by assumption)) ?_)))⟩
/-- The error of the parts of the i-th lot. -/
def prtE (i : Nat) (ps : List (Int × Int)) : Int := if 6 < ps.length then 4 else if badPs i [] ps = true then 1 else 0
theorem bad_step {i k : Nat} {ps : List (Int × Int)} (h : k < ps.length) : badPs i (ps.take k) (ps.drop k) = (badP i (ps.take k) ps[k] || badPs i (ps.take (k + 1)) (ps.drop (k + 1))) := by
  rw [List.drop_eq_getElem_cons h, badPs, ← List.take_succ_eq_append_getElem h]
set_option maxRecDepth 100000 in
set_option maxHeartbeats 1000000 in
theorem partsError_any (l : List LotD) (i : Nat) (hi : i < l.length) (hl : l.length ≤ 1000) (A : Option Addr) (c : Nat) (w : World) (hL : LotsIn w A l) (hps : l[i].parts.length ≤ 1000) :
    Calls Try.prog 99 #[.slice A l.length c, .int .i64 i] w fun e w' => e = .returned (.int .i64 (prtE i l[i].parts)) ∧ Below w.heap.size w w' := by
  obtain ⟨b, o, rfl, hc⟩ := hL (by omega)
  obtain ⟨h1, h2, h3, h4, h5, A', c', h6, h8, h7⟩ := hc i hi
  obtain ⟨ps, hps'⟩ : ∃ ps, ps = l[i].parts := ⟨_, rfl⟩
  rw [← hps'] at h6 h7 h8 hps ⊢
  have HP := Lib.hid h7
  clear hc h7 hps' h4 h5 h1 h2 hL
  by_cases h0 : 6 < ps.length
  · have HR := Lib.hid (show prtE i ps = 4 by rw [prtE, if_pos h0])
    go_enter Try.func99, Try.ntmps99
    go_wp2
    go_ret
    exact ⟨by rw [HR.out]; rfl, Below.refl _ _⟩
  · have HR := Lib.hid (show prtE i ps = if badPs i [] ps = true then 1 else 0 by rw [prtE, if_neg h0])
    go_enter Try.func99, Try.ntmps99
    go_wp2
    go_loopw [19] (fun t wr => ∃ k : Nat, t = .int .i64 k ∧ k ≤ ps.length ∧ Hid (badPs i (ps.take k) (ps.drop k) = badPs i [] ps ∧ Below w.heap.size w wr)) (fun t _ => ps.length - (intOf t).toNat)
    case atStart => exact ⟨0, rfl, by omega, Lib.hid ⟨by simp, Below.refl _ _⟩⟩
    case round =>
      obtain ⟨k, rfl, hk, hr⟩ := hrel
      by_cases hlt : k < ps.length
      · obtain ⟨b', o', rfl, hb', hc⟩ := (HP.out.below hr.out.2).2 (by omega)
        obtain ⟨q0, q1⟩ := hc k hlt
        have h64 := HP.out.1 _ (List.getElem_mem hlt)
        have hst := bad_step (i := i) hlt
        obtain ⟨x, hx⟩ : ∃ x, ps[k] = x := ⟨_, rfl⟩
        rw [hx] at q0 q1 h64 hst
        have HX := Lib.hid hx
        have HS := Lib.hid hst
        clear hc hx hst
        obtain ⟨x1, x2⟩ := x
        simp only at q0 q1 h64
        go_upto_region 8 with fail
        obtain ⟨wa, hwa⟩ : ∃ wa, wa = wr.alloc (.cells #[.int .i64 x1, .int .i64 x2] 39) := ⟨_, rfl⟩
        rw [← hwa]
        have k0 : wa.cell? ⟨wr.heap.size, 0, none⟩ = some (.int .i64 x1) := by rw [hwa]; simp
        have k1 : wa.cell? ⟨wr.heap.size, 1, none⟩ = some (.int .i64 x2) := by rw [hwa]; simp
        have kz : wr.heap.size < wa.heap.size := by rw [hwa]; simp
        have HA := Lib.hid (show Below w.heap.size w wa by rw [hwa]; exact hr.out.2.alloc hr.out.2.size _)
        clear hwa q0 q1
        go_cut [50] (fun s wx => ∃ cc : Bool, s = .bool cc ∧ Hid (cc = badP i (ps.take k) (x1, x2) ∧ Below w.heap.size w wx))
        case first =>
          by_cases c1 : x1 < 0
          · have HB := Lib.hid (show badP i (ps.take k) (x1, x2) = true by simp [badP, c1])
            go_wp2_with fail
            go_meet
            exact ⟨true, rfl, Lib.hid ⟨HB.out.symm, HA.out⟩⟩
          · by_cases c2 : (i : Int) ≤ x1
            · have HB := Lib.hid (show badP i (ps.take k) (x1, x2) = true by simp [badP, c2])
              have d1 : decide ((i : Int) ≤ x1) = true := decide_eq_true c2
              go_wp2_with fail
              go_meet
              exact ⟨true, rfl, Lib.hid ⟨HB.out.symm, HA.out⟩⟩
            · have d1 : decide ((i : Int) ≤ x1) = false := decide_eq_false c2
              by_cases c3 : x2 < 1
              · have HB := Lib.hid (show badP i (ps.take k) (x1, x2) = true by simp [badP, c3])
                go_wp2_with fail
                go_meet
                exact ⟨true, rfl, Lib.hid ⟨HB.out.symm, HA.out⟩⟩
              · by_cases c4 : 100000 < x2
                · have HB := Lib.hid (show badP i (ps.take k) (x1, x2) = true by simp [badP, c4])
                  go_wp2_with fail
                  go_meet
                  exact ⟨true, rfl, Lib.hid ⟨HB.out.symm, HA.out⟩⟩
                · have HB := Lib.hid (show badP i (ps.take k) (x1, x2) = (ps.take k).any fun q => q.1 == x1 by simp [badP, c1, c2, c3, c4])
                  have d4 : decide (100000 < x2) = false := decide_eq_false c4
                  have hcf := containsFuncP 116 #[.pointer (some ⟨wr.heap.size, 0, none⟩)] (fun q => q.1 == x1) enter_same (some ⟨b', o', none⟩) k c' (ps.take k) (by rw [List.length_take]; omega) (by rw [List.length_take]; omega) wa ((HP.out.below HA.out).take k) (same_any _ _ _ _ k0 kz)
                  have HCF := Lib.hid hcf
                  clear hcf
                  go_wp2_with fail
                  refine HCF.out.mono ?_
                  rintro e w2 ⟨rfl, hb2⟩
                  rw [← HB.out]
                  go_wp2_with fail
                  go_meet
                  exact ⟨_, rfl, Lib.hid ⟨rfl, HA.out.trans (hb2.mono HA.out.size)⟩⟩
        case rest =>
          obtain ⟨cc, rfl, hcc⟩ := hcut
          have H1 := Lib.hid hr.out.1
          clear hr HA k0 k1 kz
          cases cc with
          | true =>
            have H2 := Lib.hid (HR.out.trans (if_pos (by rw [← H1.out, HS.out, ← hcc.out.1]; rfl)))
            go_wp2
            go_ret
            exact ⟨by rw [H2.out]; rfl, hcc.out.2⟩
          | false =>
            go_wp2
            go_roundw
            case rel => exact ⟨k + 1, by go_num, by omega, Lib.hid ⟨by rw [← H1.out, HS.out, ← hcc.out.1]; rfl, hcc.out.2⟩⟩
            case measure => simp [intOf]; omega
      · obtain rfl : k = ps.length := by omega
        have H2 := Lib.hid (HR.out.trans (if_neg (by rw [← hr.out.1, List.drop_length]; simp [badPs])))
        go_wp2
        go_ret
        exact ⟨by rw [H2.out]; rfl, hr.out.2⟩
end Go.Proofs.Ytdgmpaijpjkeoaa
