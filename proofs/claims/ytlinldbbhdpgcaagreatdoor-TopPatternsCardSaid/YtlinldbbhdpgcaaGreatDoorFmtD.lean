/-
  THE TEXT OF A PATTERN: PLAIN.
-/
import Derived.Test.YtlinldbbhdpgcaaGreatDoorPrsA
import Derived.Test.YtlinldbbhdpgcaaGreatDoorRegQ
import Derived.Test.YtlinldbbhdpgcaaGreatDoorPrfK
import Derived.Deep.DeepCutAuto
import Derived.Test.YtlinldbbhdpgcaaGreatDoorParJ
import Derived.Test.YtlinldbbhdpgcaaGreatDoorRegM
import Derived.Lib.Builder
import Derived.Lib.AppendStr
import Derived.Lib.UnsafeStr
import Derived.Deep.DeepMust
import Derived.Test.YtlinldbbhdpgcaaGreatDoorBldS
import Derived.Test.YtlinldbbhdpgcaaGreatDoorTxtZ
namespace Go.Proofs.YtlinldbbhdpgcaaGreatDoor
open Go.RowKit
/-- A color, and the stroke ahead of it where a row begins. -/
def cellT (a : Int) (i : Nat) (c : Int) : List UInt8 := (if 0 < i ∧ (i : Int) % a = 0 then [47] else []) ++ [UInt8.ofNat (48 + c.toNat)]
def cellsT (a : Int) : Nat → List Int → List UInt8
  | _, [] => []
  | i, c :: r => cellT a i c ++ cellsT a (i + 1) r
theorem cellsT_app (a : Int) : ∀ (l m : List Int) (i : Nat), cellsT a i (l ++ m) = cellsT a i l ++ cellsT a (i + l.length) m
  | [], m, i => by simp [cellsT]
  | c :: l, m, i => by
    rw [List.cons_append, cellsT, cellsT, cellsT_app a l m (i + 1), List.append_assoc, List.length_cons, show i + 1 + l.length = i + (l.length + 1) by omega]
theorem cellsT_take (a : Int) (l : List Int) (k : Nat) (h : k < l.length) : cellsT a 0 (l.take (k + 1)) = cellsT a 0 (l.take k) ++ cellT a k l[k] := by
  rw [List.take_succ_eq_append_getElem h, cellsT_app, List.length_take, Nat.min_eq_left (by omega), Nat.zero_add]
  simp [cellsT]
theorem cellsT_len (a : Int) : ∀ (l : List Int) (i : Nat), (cellsT a i l).length ≤ 2 * l.length
  | [], _ => by simp [cellsT]
  | c :: l, i => by
    have := cellsT_len a l (i + 1)
    rw [cellsT, List.length_append, List.length_cons]
    have : (cellT a i c).length ≤ 2 := by unfold cellT; split <;> simp
    omega
/-- What stands ahead of the colors. -/
def frontT (q : PatD) : List UInt8 := [103, 114, 105, 100, 32] ++ (Lib.itoa q.a ++ (32 :: (Lib.itoa q.b ++ (32 :: (Lib.itoa q.c ++ [32])))))
def formT (q : PatD) : List UInt8 := frontT q ++ cellsT q.a 0 q.xs
noncomputable def fmtT (p : PatD) : ByteArray × Int := if valP p = 0 then (⟨(formT (lstO p)).toArray⟩, 0) else (⟨#[]⟩, valP p)
/-- A color of one digit is its decimal text. -/
theorem itoa_digit {c : Int} (h0 : 0 ≤ c) (h1 : c < 8) : Lib.itoa c = [UInt8.ofNat (48 + c.toNat)] := by
  unfold Lib.itoa
  rw [if_neg (by omega), Lib.decDigits_one (by omega)]
theorem lstO_good {p : PatD} (h : valP p = 0) : GoodP (lstO p) := by
  rw [lstO_zero h]
  have hg := valP_zero h
  have hb := col_base hg.ok
  exact hb.good (Int.le_trans hb.lst_cells hg.ac) hg.cols
end Go.Proofs.YtlinldbbhdpgcaaGreatDoor
/-
  THE REFERENCE's Format.
-/
namespace Go.Proofs.YtlinldbbhdpgcaaGreatDoor
open Go.RowKit
attribute [local go_sem] sub_cell sub_frozen
attribute [local irreducible] RP.plainUpon RP.stepC
theorem PatW.of_good {p : PatD} (h : GoodP p) : PatW p :=
  ⟨h.a0, by have := h.a1; omega, h.b0, by have := h.b1; have := h.a1; omega, h.c0, by have := h.c1; omega, h.len, by have := h.len144; omega⟩
theorem bytes_cat (a b : List UInt8) : ((⟨a.toArray⟩ : ByteArray) ++ ⟨b.toArray⟩) = ⟨(a ++ b).toArray⟩ := by
  apply ByteArray.ext
  simp
theorem itoa_size {v : Int} (h0 : 0 ≤ v) (h1 : v ≤ 1000) : (⟨(Lib.itoa v).toArray⟩ : ByteArray).size ≤ 20 := by
  obtain ⟨p1, -, p3, -⟩ := itoa_parts (v := v) (by omega) (by omega)
  rcases p1 with ⟨p1, -⟩ | ⟨-, p1⟩
  · omega
  · rw [p1]
    show (Lib.decDigits v.natAbs).toArray.size ≤ 20
    rw [List.size_toArray]
    omega
theorem front_cat (q : PatD) : ((((((⟨#[103, 114, 105, 100, 32]⟩ : ByteArray) ++ ⟨(Lib.itoa q.a).toArray⟩) ++ ⟨#[32]⟩) ++ ⟨(Lib.itoa q.b).toArray⟩) ++ ⟨#[32]⟩) ++ ⟨(Lib.itoa q.c).toArray⟩) ++ ⟨#[32]⟩ = ⟨(frontT q).toArray⟩ := by
  apply ByteArray.ext
  simp [frontT]
set_option maxRecDepth 100000 in
set_option maxHeartbeats 2000000 in
theorem rfmt_any (p : PatD) (hl : p.xs.length ≤ 1000000) (A : Option Addr) (cap : Nat) (w : World) (hi : PatIn w p A) :
    Calls Tryz.prog 22 #[.agg #[.int .i64 p.a, .int .i64 p.b, .int .i64 p.c, .slice A p.xs.length cap]] w fun e w' => e = .returned (.tuple #[.string (fmtT p).1, .int .i64 (fmtT p).2]) ∧ Below w.heap.size w w' := by
  obtain ⟨E, hE⟩ : ∃ E, E = valP p := ⟨_, rfl⟩
  have HV := Lib.hid (fun w hi => rvalidateP_any p hl E hE.symm A cap w hi)
  have HI := Lib.hid hi
  have HEE := Lib.hid hE
  obtain ⟨lq, hlq⟩ : ∃ lq, lq = p.xs.length := ⟨_, rfl⟩
  have HLQ := Lib.hid hlq
  rw [← hlq] at HV ⊢
  clear hi hE hlq
  go_enter Tryz.func22, Tryz.ntmps22
  go_wp2_with fail
  have hb0 := below_new w (.cells #[.int .i64 p.a, .int .i64 p.b, .int .i64 p.c, .slice A lq cap] 24)
  have hx0 := PBox.new w p.a p.b p.c (.slice A lq cap)
  obtain ⟨W, hW⟩ : ∃ W, W = w.alloc (.cells #[.int .i64 p.a, .int .i64 p.b, .int .i64 p.c, .slice A lq cap] 24) := ⟨_, rfl⟩
  rw [← hW] at hb0 hx0 ⊢
  refine (HV.out W (HI.out.below hb0)).mono ?_
  rintro e w1 ⟨rfl, hb1⟩
  have hx1 := hx0.keep hb1
  have hb1' := hb0.trans (hb1.mono hb0.size)
  have H1 := Lib.hid (And.intro hb1' (HI.out.below hb1'))
  obtain ⟨q0, q1, q2, q3, q4⟩ := hx1.cells
  clear hW hb0 hx0 hb1 hb1' hx1 HV
  by_cases hz : E = 0
  · subst hz
    have hv : valP p = 0 := HEE.out.symm
    have hgood := lstO_good hv
    have hW := hgood
    have HLE := Lib.hid (fun w hi => rleast_q p (PatW.of_good (valP_zero hv)) A cap w hi)
    have HFM := Lib.hid (show fmtT p = (⟨(formT (lst (colF p))).toArray⟩, 0) by unfold fmtT; rw [if_pos hv, lstO_zero hv])
    rw [lstO_zero hv] at hgood
    obtain ⟨q, hq⟩ : ∃ q, q = lst (colF p) := ⟨_, rfl⟩
    rw [← hq] at HLE HFM hgood
    rw [← HLQ.out] at HLE
    have HG := Lib.hid hgood
    clear hv hgood hW hq
    go_wp2_with fail
    refine (HLE.out w1 H1.out.2).mono ?_
    rintro e w2 ⟨v, rfl, hown, hb2⟩
    obtain ⟨A2, c2, rfl, hL2⟩ := hown.isL
    obtain ⟨l2, hl2⟩ : ∃ l2, l2 = q.xs.length := ⟨_, rfl⟩
    rw [← hl2] at hown hL2 ⊢
    have hb2' := H1.out.1.trans (hb2.mono H1.out.1.size)
    have H2 := Lib.hid (And.intro hb2' (And.intro hL2 hl2))
    clear hb2 hb2' hown hL2 hl2 HLE
    go_upto_region 5 with fail
    have hb3 := below_new w2 (.cells #[.int .i64 q.a, .int .i64 q.b, .int .i64 q.c, .slice A2 l2 c2] 24)
    have hx3 := PBox.new w2 q.a q.b q.c (.slice A2 l2 c2)
    obtain ⟨w3, hw3⟩ : ∃ w3, w3 = w2.alloc (.cells #[.int .i64 q.a, .int .i64 q.b, .int .i64 q.c, .slice A2 l2 c2] 24) := ⟨_, rfl⟩
    rw [← hw3] at hb3 hx3 ⊢
    obtain ⟨pb, hpb⟩ : ∃ pb, pb = w2.heap.size := ⟨_, rfl⟩
    rw [← hpb] at hx3 ⊢
    obtain ⟨x0, x1, x2, x3, x4⟩ := hx3.cells
    have H3 := Lib.hid (And.intro (H2.out.1.trans (hb3.mono H2.out.1.size)) (And.intro (IsL.below hb3 H2.out.2.1) (And.intro H2.out.2.2 hx3)))
    clear hw3 hb3 hx3 hpb H2 q0 q1 q2 q3 q4
    refine RP.region_treeW (C := fun w' => ∃ x : SubW w3.heap.size w3, w' = x.val) (fun _ _ _ => False) [0, 1, 5, 6, 10, 11] (.one 2 (.read 3 (.read 4 (.one 7 (.read 8 (.read 9 (.one 12 (.one 13 (.one 14 .nil))))))))) 15 (fun _ _ _ h => h.elim) (by kernel_rfl) (by kernel_rfl) (sub_start _ w3) ?_
    simp only [pickL, List.getElem?_cons_zero, List.getElem?_cons_succ]
    repeat (go_big_quiet_step (fail))
    refine wpQuiet_nil ?_
    obtain ⟨w5, hw5⟩ : ∃ w5 : World, w5 = { w3 with drawn := w3.drawn + 1 } := ⟨_, rfl⟩
    have hb5 : Below w3.heap.size w3 w5 := by rw [hw5]; exact (Below.refl _ _).drew
    rw [← hw5]
    have ha := HG.out.a0
    have ha1 := HG.out.a1
    have hbb0 := HG.out.b0
    have hbb := HG.out.b1
    have hc0 := HG.out.c0
    have hc1 := HG.out.c1
    simp only [RP.treeS, atOp, List.getElem?_cons_zero, List.getElem?_cons_succ]
    obtain ⟨s1, hs1⟩ : ∃ s : ByteArray, s = ⟨(Lib.itoa q.a).toArray⟩ := ⟨_, rfl⟩
    obtain ⟨s2, hs2⟩ : ∃ s : ByteArray, s = ⟨(Lib.itoa q.b).toArray⟩ := ⟨_, rfl⟩
    obtain ⟨s3, hs3⟩ : ∃ s : ByteArray, s = ⟨(Lib.itoa q.c).toArray⟩ := ⟨_, rfl⟩
    have z1 : s1.size ≤ 20 := by rw [hs1]; exact itoa_size (by omega) (by omega)
    have z2 : s2.size ≤ 20 := by rw [hs2]; exact itoa_size (by omega) (by omega)
    have z3 : s3.size ≤ 20 := by rw [hs3]; exact itoa_size (by omega) (by omega)
    have HS1 := Lib.hid hs1
    have HS2 := Lib.hid hs2
    have HS3 := Lib.hid hs3
    clear hs1 hs2 hs3
    refine ⟨sub_of hb5, ?_⟩
    refine RP.p_call 59 #[.int .i64 q.a] rfl (by go_simp) ?_
    refine (digits_int q.a (by omega) (by omega) w5).mono ?_
    rintro e w6 ⟨rfl, hb6⟩
    rw [show str (Lib.itoa q.a) = .string s1 by rw [HS1.out]; rfl]
    refine .inl ⟨_, rfl, ?_⟩
    have hb6' := hb5.trans (hb6.mono hb5.size)
    refine ⟨sub_of hb6', ?_⟩
    refine ⟨_, s_read (.string (⟨#[103, 114, 105, 100, 32]⟩ ++ s1)) rfl (fun w _ => by go_simp <;> omega), sub_of hb6', ?_⟩
    refine ⟨_, s_read (.string ((⟨#[103, 114, 105, 100, 32]⟩ ++ s1) ++ ⟨#[32]⟩)) rfl (fun w _ => by go_simp <;> omega), sub_of hb6', ?_⟩
    refine RP.p_call 59 #[.int .i64 q.b] rfl (by go_simp) ?_
    refine (digits_int q.b (by omega) (by omega) w6).mono ?_
    rintro e w7 ⟨rfl, hb7⟩
    rw [show str (Lib.itoa q.b) = .string s2 by rw [HS2.out]; rfl]
    refine .inl ⟨_, rfl, ?_⟩
    have hb7' := hb6'.trans (hb7.mono hb6'.size)
    refine ⟨sub_of hb7', ?_⟩
    refine ⟨_, s_read (.string (((⟨#[103, 114, 105, 100, 32]⟩ ++ s1) ++ ⟨#[32]⟩) ++ s2)) rfl (fun w _ => by go_simp <;> omega), sub_of hb7', ?_⟩
    refine ⟨_, s_read (.string ((((⟨#[103, 114, 105, 100, 32]⟩ ++ s1) ++ ⟨#[32]⟩) ++ s2) ++ ⟨#[32]⟩)) rfl (fun w _ => by go_simp <;> omega), sub_of hb7', ?_⟩
    refine RP.p_call 59 #[.int .i64 q.c] rfl (by go_simp) ?_
    refine (digits_int q.c (by omega) (by omega) w7).mono ?_
    rintro e w8 ⟨rfl, hb8⟩
    rw [show str (Lib.itoa q.c) = .string s3 by rw [HS3.out]; rfl]
    refine .inl ⟨_, rfl, ?_⟩
    have hb8' := hb7'.trans (hb8.mono hb7'.size)
    refine ⟨sub_of hb8', ?_⟩
    refine RP.p_val (.string (((((⟨#[103, 114, 105, 100, 32]⟩ ++ s1) ++ ⟨#[32]⟩) ++ s2) ++ ⟨#[32]⟩) ++ s3)) w8 rfl (by go_simp <;> omega) ?_
    refine ⟨sub_of hb8', ?_⟩
    refine RP.p_val (.string ((((((⟨#[103, 114, 105, 100, 32]⟩ ++ s1) ++ ⟨#[32]⟩) ++ s2) ++ ⟨#[32]⟩) ++ s3) ++ ⟨#[32]⟩)) w8 rfl (by go_simp <;> omega) ?_
    refine ⟨sub_of hb8', ?_⟩
    obtain ⟨F, hF⟩ : ∃ F, F = (((((⟨#[103, 114, 105, 100, 32]⟩ ++ s1) ++ ⟨#[32]⟩) ++ s2) ++ ⟨#[32]⟩) ++ s3) ++ ⟨#[32]⟩ := ⟨_, rfl⟩
    have hFF : F = ⟨(frontT q).toArray⟩ := by rw [hF, HS1.out, HS2.out, HS3.out]; exact front_cat q
    rw [← hF]
    refine RP.p_assign _ rfl rfl (.string F) (by go_simp) ?_
    have hx8 := H3.out.2.2.2.keep hb8'
    have H8 := Lib.hid (And.intro (H3.out.1.trans (hb8'.mono H3.out.1.size)) (And.intro (IsL.below hb8' H3.out.2.1) (And.intro H3.out.2.2.1 hx8)))
    have R0 := Lib.hid (show F = ⟨(frontT q ++ cellsT q.a 0 (q.xs.take 0)).toArray⟩ ∧ Below w8.heap.size w8 w8 from ⟨by rw [hFF]; simp [cellsT], Below.refl _ _⟩)
    clear hw5 hb5 hb6 hb6' hb7 hb7' hb8 hb8' hF hFF HS1 HS2 HS3 hx8 H3 x0 x1 x2 x3 x4
    obtain ⟨x0, x1, x2, x3, x4⟩ := H8.out.2.2.2.cells
    have hl2 : l2 ≤ 144 := by rw [H8.out.2.2.1]; exact HG.out.len144
    have hF5 : F.size ≤ 100 + 2 * 0 := by
      rw [R0.out.1]
      show ((frontT q ++ cellsT q.a 0 (q.xs.take 0)).toArray).size ≤ _
      have y1 := itoa_size (v := q.a) (by omega) (by omega)
      have y2 := itoa_size (v := q.b) (by omega) (by omega)
      have y3 := itoa_size (v := q.c) (by omega) (by omega)
      have e1 : (⟨(Lib.itoa q.a).toArray⟩ : ByteArray).size = (Lib.itoa q.a).length := List.size_toArray
      have e2 : (⟨(Lib.itoa q.b).toArray⟩ : ByteArray).size = (Lib.itoa q.b).length := List.size_toArray
      have e3 : (⟨(Lib.itoa q.c).toArray⟩ : ByteArray).size = (Lib.itoa q.c).length := List.size_toArray
      simp [frontT, cellsT]
      omega
    clear z1 z2 z3 hbb0 hbb hc0 hc1
    go_simp
    go_wp2
    go_loopw [6, 7] (fun s t wr => ∃ (k : Nat) (G : ByteArray), s = .string G ∧ t = .int .i64 k ∧ k ≤ l2 ∧ G.size ≤ 100 + 2 * k ∧ Hid (G = ⟨(frontT q ++ cellsT q.a 0 (q.xs.take k)).toArray⟩ ∧ Below w8.heap.size w8 wr)) (fun _ t _ => l2 - (intOf t).toNat)
    case atStart => exact ⟨0, F, rfl, rfl, by omega, hF5, R0⟩
    case round =>
      obtain ⟨k, G, rfl, rfl, hk, hG5, hr⟩ := hrel
      clear R0 x0 x1 x2 x3 x4 hF5
      have hx9 := H8.out.2.2.2.keep hr.out.2
      obtain ⟨x0, x1, x2, x3, x4⟩ := hx9.cells
      clear hx9
      by_cases hlt : k < l2
      · have hkx : k < q.xs.length := by rw [← H8.out.2.2.1]; exact hlt
        obtain ⟨b2, o2, rfl, hb2l, hc2⟩ := H8.out.2.1.2 (by omega)
        have y0 := (hr.out.2.cell (p := ⟨b2, o2 + k, none⟩) hb2l).trans (hc2 k hlt)
        have hb2r : b2 < wr.heap.size := by have := hr.out.2.size; omega
        obtain ⟨c, hc⟩ : ∃ c, c = q.xs.getD k 0 := ⟨_, rfl⟩
        rw [← hc] at y0
        have hcq : c = q.xs[k] := by rw [hc, List.getD, List.getElem?_eq_getElem hkx]; rfl
        have hcb := HG.out.col c (by rw [hcq]; exact List.getElem_mem hkx)
        have HC := Lib.hid (show cellsT q.a 0 (q.xs.take (k + 1)) = cellsT q.a 0 (q.xs.take k) ++ ((if 0 < k ∧ (k : Int) % q.a = 0 then [47] else []) ++ Lib.itoa c) by
          rw [cellsT_take q.a q.xs k hkx, cellT, ← hcq, itoa_digit hcb.1 hcb.2])
        have HI1 := Lib.hid (show (Lib.itoa c).length = 1 by rw [itoa_digit hcb.1 hcb.2]; rfl)
        clear hc hcq hc2 hkx
        obtain ⟨hcb0, hcb1⟩ := hcb
        have hfin : ∀ (m : List UInt8) (w9 : World), m = (if 0 < k ∧ (k : Int) % q.a = 0 then [47] else []) ++ Lib.itoa c → Below wr.heap.size wr w9 → (G ++ ⟨m.toArray⟩).size ≤ 100 + 2 * (k + 1) ∧ Hid (G ++ ⟨m.toArray⟩ = ⟨(frontT q ++ cellsT q.a 0 (q.xs.take (k + 1))).toArray⟩ ∧ Below w8.heap.size w8 w9) := by
          intro m w9 hm hb9
          have hml : m.length ≤ 2 := by
            rw [hm, List.length_append, HI1.out]
            split <;> simp
          refine ⟨?_, ?_, hr.out.2.trans (hb9.mono hr.out.2.size)⟩
          · have e : (⟨m.toArray⟩ : ByteArray).size = m.length := List.size_toArray
            rw [ByteArray.size_append, e]
            omega
          · rw [HC.out, ← hm, hr.out.1, bytes_cat, List.append_assoc]
        have HFN := Lib.hid hfin
        clear hfin HC hr
        by_cases h0 : 0 < k
        · by_cases hm : (k : Int) % q.a = 0
          · have d2 : ((k : Int) % q.a == 0) = true := beq_iff_eq.2 hm
            have HM := Lib.hid (And.intro h0 hm)
            clear hm
            go_wp2_with fail
            refine (digits_int c (by omega) (by omega) wr).mono ?_
            rintro e w9 ⟨rfl, hb9⟩
            have HN := HFN.out (47 :: Lib.itoa c) w9 (by rw [if_pos HM.out]; rfl) hb9
            have e9 : (G ++ ⟨#[47]⟩) ++ ⟨(Lib.itoa c).toArray⟩ = G ++ ⟨(47 :: Lib.itoa c).toArray⟩ := by
              rw [ByteArray.append_assoc]
              exact congrArg (G ++ ·) (bytes_cat [47] (Lib.itoa c))
            obtain ⟨s9, hs9⟩ : ∃ s : ByteArray, s = ⟨(Lib.itoa c).toArray⟩ := ⟨_, rfl⟩
            have hz9 : s9.size ≤ 20 := by rw [hs9]; exact itoa_size (by omega) (by omega)
            rw [← e9, ← hs9] at HN
            rw [show str (Lib.itoa c) = .string s9 by rw [hs9]; rfl]
            have HNN := Lib.hid HN
            clear HN hb9 e9 hs9 HFN HM d2
            go_wp2
            go_roundw
            case rel => exact ⟨k + 1, _, rfl, by go_num, by omega, HNN.out.1, HNN.out.2⟩
            case measure => simp [intOf]; omega
          · have d2 : ((k : Int) % q.a == 0) = false := beq_eq_false_iff_ne.2 hm
            have HM := Lib.hid hm
            clear hm
            go_wp2_with fail
            refine (digits_int c (by omega) (by omega) wr).mono ?_
            rintro e w9 ⟨rfl, hb9⟩
            have HN := HFN.out (Lib.itoa c) w9 (by rw [if_neg (fun h => HM.out h.2)]; rfl) hb9
            obtain ⟨s9, hs9⟩ : ∃ s : ByteArray, s = ⟨(Lib.itoa c).toArray⟩ := ⟨_, rfl⟩
            have hz9 : s9.size ≤ 20 := by rw [hs9]; exact itoa_size (by omega) (by omega)
            rw [← hs9] at HN
            rw [show str (Lib.itoa c) = .string s9 by rw [hs9]; rfl]
            have HNN := Lib.hid HN
            clear HN hb9 hs9 HFN HM d2
            go_wp2
            go_roundw
            case rel => exact ⟨k + 1, _, rfl, by go_num, by omega, HNN.out.1, HNN.out.2⟩
            case measure => simp [intOf]; omega
        · go_wp2_with fail
          refine (digits_int c (by omega) (by omega) wr).mono ?_
          rintro e w9 ⟨rfl, hb9⟩
          have HN := HFN.out (Lib.itoa c) w9 (by rw [if_neg (fun h => h0 h.1)]; rfl) hb9
          obtain ⟨s9, hs9⟩ : ∃ s : ByteArray, s = ⟨(Lib.itoa c).toArray⟩ := ⟨_, rfl⟩
          have hz9 : s9.size ≤ 20 := by rw [hs9]; exact itoa_size (by omega) (by omega)
          rw [← hs9] at HN
          rw [show str (Lib.itoa c) = .string s9 by rw [hs9]; rfl]
          have HNN := Lib.hid HN
          clear HN hb9 hs9 HFN
          go_wp2
          go_roundw
          case rel => exact ⟨k + 1, _, rfl, by go_num, by omega, HNN.out.1, HNN.out.2⟩
          case measure => simp [intOf]; omega
      · obtain rfl : k = l2 := by omega
        have HF := Lib.hid (show G = (fmtT p).1 ∧ (fmtT p).2 = 0 ∧ Below w.heap.size w wr by
          rw [HFM.out]
          refine ⟨?_, rfl, H8.out.1.trans (hr.out.2.mono H8.out.1.size)⟩
          rw [hr.out.1, H8.out.2.2.1, List.take_length]
          rfl)
        clear hr H8 HFM
        go_wp2
        go_ret2
        exact ⟨by rw [HF.out.1, HF.out.2.1]; rfl, HF.out.2.2⟩
  · have d1 : (E != 0) = true := by rw [bne_iff_ne]; exact hz
    have HF := Lib.hid (show fmtT p = (⟨#[]⟩, E) by unfold fmtT; rw [if_neg (by rw [← HEE.out]; exact hz), HEE.out])
    clear hz
    go_wp2
    go_ret2
    exact ⟨by rw [HF.out]; rfl, H1.out.1⟩
end Go.Proofs.YtlinldbbhdpgcaaGreatDoor
/-
  strings.Builder: WriteString and WriteByte, where the branch of a copied builder was cut off from the translation.
-/
namespace Go.Proofs.YtlinldbbhdpgcaaGreatDoor
open Go.RowKit
open Go.Lib
theorem bSize : (Tryz.prog.info? 58).map (·.size) = some 2 := by kernel_rfl
theorem bLies : liesAt Tryz.prog Tryz.prog.depth 58 (2 / Tryz.prog.cellsOf 58) 0 58 1 = true := by kernel_rfl
theorem bByte : (Tryz.prog.info? 5).map (fun i => (i.zero, i.size, i.bytes)) = some (some (.int .u8 0), 1, 1) := by kernel_rfl
set_option maxRecDepth 100000 in
theorem check_any (B b : Nat) (bs : List Value) (w : World) (h : Lib.IsBuilder 58 5 B b bs w) :
    Calls Tryz.prog 65 #[.pointer (some ⟨b, 0, none⟩)] w fun e w' => e = .returned (.tuple #[]) ∧ Lib.BuilderAt 58 5 B b (.pointer (some ⟨b, 0, none⟩)) bs w' ∧ Below B w w' := by
  obtain ⟨j, hj, hjs⟩ := Option.map_eq_some_iff.1 bSize
  have hne := fun W => Lib.run_neq_ptr_same (P := Tryz.prog) W ⟨b, 0, none⟩ Tryz.underlying56 hj
  rcases h with h | h
  · have hu := Lib.run_to_unsafe w ⟨b, 0, none⟩ Tryz.underlying56 Tryz.underlying119 hj (by rw [hjs]; decide) h.shape (Nat.zero_lt_succ 1)
    have hv := Lib.run_from_unsafe w ⟨b, 0, none⟩ Tryz.underlying119 Tryz.underlying56 hj h.shape bLies
    have c0 := h.cell0
    have f0 := h.frozen0
    have H := Lib.hid h
    clear h
    have hx : (callFunc 97 #[.pointer (some ⟨b, 0, none⟩)]).run Tryz.prog w = .ok (.value (.pointer (some ⟨b, 0, none⟩))) w := by
      rw [run_callFunc_extern Tryz.func97 (by kernel_rfl) (by kernel_rfl) (by kernel_rfl) (e := Extern.AbiNoEscape.same) (by kernel_rfl), Lib.run_noEscape]
      rfl
    go_enter Tryz.func65, Tryz.ntmps65
    go_wp2
    go_end0
    exact ⟨rfl, H.out.used _, (Below.refl B w).setCell (p := ⟨b, 0, none⟩) H.out.1 _⟩
  · have c0 := h.cell0
    have H := Lib.hid h
    clear h
    go_enter Tryz.func65, Tryz.ntmps65
    go_wp2
    go_end0
    exact ⟨rfl, H.out, Below.refl B _⟩
set_option maxRecDepth 100000 in
/-- WriteString: the bytes are appended. -/
theorem wstr_any (B b : Nat) (l : List UInt8) (s : ByteArray) (w : World) (h : Lib.IsBuilder 58 5 B b (Lib.byteCells l) w) (hlen : l.length + s.size ≤ 1000000) (hB : B ≤ w.heap.size) :
    Calls Tryz.prog 26 #[.pointer (some ⟨b, 0, none⟩), .string s] w fun e w' => e = .returned (.tuple #[.int .i64 s.size, .nilIface]) ∧ Lib.IsBuilder 58 5 B b (Lib.byteCells (l ++ s.data.toList)) w' ∧ Below B w w' := by
  obtain ⟨i0, hi, hz0, hz1, hz2⟩ := info_parts bByte
  have HC := Lib.hid (check_any B b _ w h)
  have HLB := Lib.hid (Lib.byteCells_length l)
  clear h
  go_enter Tryz.func26, Tryz.ntmps26
  go_wp2_with fail
  refine HC.out.mono ?_
  rintro e w1 ⟨rfl, ⟨hb, v, hbk, hown, hne⟩, hb1⟩
  have c0 : w1.cell? ⟨b, 0, none⟩ = some (.pointer (some ⟨b, 0, none⟩)) := by rw [Lib.cell_of_heap hbk]; rfl
  have c1 : w1.cell? ⟨b, 1, none⟩ = some v := by rw [Lib.cell_of_heap hbk]; rfl
  have hz1' := hb1.size
  have hlt : b < w1.heap.size := by
    rcases Nat.lt_or_ge b w1.heap.size with h | h
    · exact h
    · rw [Array.getElem?_eq_none h] at hbk; cases hbk
  go_wp2_with (at_builtin; refine Lib.wpList_append_own_string _ rfl _ _ 41 9 rfl B 5 i0 Tryz.underlying41 Tryz.underlying9 hi hz0 hz1 hz2 _ _ _ rfl hown s rfl (by rw [HLB.out]; unfold maxLen; omega) (by rw [HLB.out]; omega) (by omega) ?_)
  intro v' w2 hown' hg _
  have hb2 : w2.heap[b]? = some (.cells #[.pointer (some ⟨b, 0, none⟩), v] 58 (0, 0)) := (hg.block b hlt (fun e => hne e.symm)).trans hbk
  have d0 : w2.cell? ⟨b, 0, none⟩ = some (.pointer (some ⟨b, 0, none⟩)) := by rw [Lib.cell_of_heap hb2]; rfl
  have d1 : w2.cell? ⟨b, 1, none⟩ = some v := by rw [Lib.cell_of_heap hb2]; rfl
  have f1 : w2.frozen? ⟨b, 1, none⟩ = false := Lib.frozen_of_heap hb2 1
  obtain ⟨ao, n', cap, rfl⟩ : ∃ ao n' cap, v' = .slice ao n' cap := by
    rcases hown'.2 with ⟨hv, _⟩ | ⟨g, cap, cur, hv, _⟩
    · exact ⟨_, _, _, hv⟩
    · exact ⟨_, _, _, hv⟩
  have HF := Lib.hid (show Below B w w2 from hb1.grown hg (by omega) (fun k hk => (hown.lt k hk).1))
  have HO := Lib.hid (show w2.ownsRow B 5 1 (.slice ao n' cap) (Lib.byteCells (l ++ s.data.toList)).length (Lib.byteCells (l ++ s.data.toList)) by
    rw [Lib.byteCells_append, ← Lib.strCells_eq, List.length_append, Lib.strCells_length]
    exact hown')
  have HB2 := Lib.hid hb2
  clear hown hown' hg hbk hb2 c0 c1 hne hb1 HC
  go_wp2
  go_ret2
  exact ⟨rfl, .inr (Lib.BuilderAt.put hb HB2.out HO.out (by decide)), HF.out.setCell (p := ⟨b, 1, none⟩) hb _⟩
theorem isB_keep {T e : TypeId} {B b : Nat} {bs : List Value} {w w' : World} (hb : Below w.heap.size w w') (h : Lib.IsBuilder T e B b bs w) : Lib.IsBuilder T e B b bs w' := by
  have key : ∀ p, Lib.BuilderAt T e B b p bs w → Lib.BuilderAt T e B b p bs w' := fun p h => by
    have hlt := h.lt
    obtain ⟨hB, v, hbk, hown, hne⟩ := h
    exact ⟨hB, v, (hb.block b hlt).trans hbk, World.ownsRow.kept hown (row := none) ⟨hb.os, hb.tape, hb.output, hb.size, fun k hk _ => hb.block k hk⟩ (by cases v.ownBlock <;> simp), hne⟩
  rcases h with h | h
  · exact .inl (key _ h)
  · exact .inr (key _ h)

theorem byteCells_one (c : UInt8) : Lib.byteCells [c] = [.int .u8 c.toNat] := rfl
set_option maxRecDepth 100000 in
/-- WriteByte: the byte is appended. -/
theorem wbyte_any (B b : Nat) (l : List UInt8) (c : UInt8) (w : World) (h : Lib.IsBuilder 58 5 B b (Lib.byteCells l) w) (hlen : l.length ≤ 1000000) (hB : B ≤ w.heap.size) :
    Calls Tryz.prog 28 #[.pointer (some ⟨b, 0, none⟩), .int .u8 c.toNat] w fun e w' => e = .returned .nilIface ∧ Lib.IsBuilder 58 5 B b (Lib.byteCells (l ++ [c])) w' ∧ Below B w w' := by
  obtain ⟨i0, hi, hz0, hz1, hz2⟩ := info_parts bByte
  have HC := Lib.hid (check_any B b _ w h)
  have HLB := Lib.hid (Lib.byteCells_length l)
  clear h
  go_enter Tryz.func28, Tryz.ntmps28
  go_wp2_with fail
  refine HC.out.mono ?_
  rintro e w1 ⟨rfl, ⟨hb, v, hbk, hown, hne⟩, hb1⟩
  have c0 : w1.cell? ⟨b, 0, none⟩ = some (.pointer (some ⟨b, 0, none⟩)) := by rw [Lib.cell_of_heap hbk]; rfl
  have c1 : w1.cell? ⟨b, 1, none⟩ = some v := by rw [Lib.cell_of_heap hbk]; rfl
  have hz1' := hb1.size
  have hlt : b < w1.heap.size := by
    rcases Nat.lt_or_ge b w1.heap.size with h | h
    · exact h
    · rw [Array.getElem?_eq_none h] at hbk; cases hbk
  have hB1 : B ≤ w1.heap.size := by omega
  have HLL := Lib.hid hlen
  clear hlen
  go_wp2_with (at_builtin; go_must (refine wpList_append_lies (P := Tryz.prog) _ rfl (.tmp 11) (.tmp 13) 41 rfl B 5 i0 (.int .u8 0) 1 1 Tryz.underlying41 hi hz0 hz1 hz2 rfl (by decide) v _ _ rfl (World.ownsRow.alloc hown _) ⟨w1.heap.size, 0, none⟩ 1 1 [.int .u8 c.toNat] rfl rfl (by intro j u hu; match j, hu with | 0, hu => simp at hu; subst hu; simp [Addr.add]) (by intro u hu; simp at hu; subst hu; rfl) (by omega) (by rw [HLB.out]; have := HLL.out; unfold maxLen; omega) (by rw [HLB.out]; have := HLL.out; omega) (by simp; omega) (w1.heap.size + 1) (by simp) ?_))
  intro g cap w2 hown' hg' hgd hgl
  have hg : w1.grownBy w2 v.ownBlock := ⟨hg'.os, hg'.tape, hg'.output, by have := hg'.size; simp at this; omega, fun k hk hne => (hg'.block k (by simp; omega) hne).trans (heap_alloc_old w1 _ hk)⟩
  have hb2 : w2.heap[b]? = some (.cells #[.pointer (some ⟨b, 0, none⟩), v] 58 (0, 0)) := (hg.block b hlt (fun e => hne e.symm)).trans hbk
  have d0 : w2.cell? ⟨b, 0, none⟩ = some (.pointer (some ⟨b, 0, none⟩)) := by rw [Lib.cell_of_heap hb2]; rfl
  have d1 : w2.cell? ⟨b, 1, none⟩ = some v := by rw [Lib.cell_of_heap hb2]; rfl
  have f1 : w2.frozen? ⟨b, 1, none⟩ = false := Lib.frozen_of_heap hb2 1
  have hgb : b < w2.heap.size := by have := hg.size; omega
  obtain ⟨n', hn'⟩ : ∃ n', n' = (byteCells l).length + 1 := ⟨_, rfl⟩
  have HF := Lib.hid (show Below B w w2 from hb1.grown hg (by omega) (fun k hk => (hown.lt k hk).1))
  have HO := Lib.hid (show w2.ownsRow B 5 1 (.slice (some ⟨g, 0, none⟩) n' cap) (Lib.byteCells (l ++ [c])).length (Lib.byteCells (l ++ [c])) by
    rw [Lib.byteCells_append, byteCells_one, List.length_append, List.length_singleton, hn']
    exact hown')
  have HB2 := Lib.hid hb2
  rw [← hn']
  clear hown hown' hg hg' hgd hgl hbk hb2 c0 c1 hne hb1 HC hn'
  go_wp2
  go_ret
  exact ⟨rfl, .inr (Lib.BuilderAt.put hb HB2.out HO.out (by decide)), HF.out.setCell (p := ⟨b, 1, none⟩) hb _⟩
end Go.Proofs.YtlinldbbhdpgcaaGreatDoor
/-
  THE PROGRAM's Format.
-/
namespace Go.Proofs.YtlinldbbhdpgcaaGreatDoor
open Go.RowKit
attribute [local go_sem] sub_cell sub_frozen
attribute [local irreducible] RP.plainUpon RP.stepC
set_option maxRecDepth 100000 in
set_option maxHeartbeats 2000000 in
theorem pfmt_any (p : PatD) (hl : p.xs.length ≤ 1000000) (A : Option Addr) (cap : Nat) (w : World) (hi : PatIn w p A) (hw : LibOK w) :
    Calls Tryz.prog 8 #[.agg #[.int .i64 p.a, .int .i64 p.b, .int .i64 p.c, .slice A p.xs.length cap]] w fun e w' => e = .returned (.tuple #[.string (fmtT p).1, .int .i64 (fmtT p).2]) ∧ Below w.heap.size w w' := by
  obtain ⟨E, hE⟩ : ∃ E, E = valP p := ⟨_, rfl⟩
  obtain ⟨q, hq⟩ : ∃ q, q = lstO p := ⟨_, rfl⟩
  have HV := Lib.hid (fun w hi => least_lst p hl A cap w hi)
  rw [← hE, ← hq] at HV
  have HI := Lib.hid (And.intro hi hw)
  have HEE := Lib.hid (And.intro hE hq)
  obtain ⟨lq, hlq⟩ : ∃ lq, lq = p.xs.length := ⟨_, rfl⟩
  have HLQ := Lib.hid hlq
  rw [← hlq] at HV ⊢
  clear hi hE hlq hq hw
  go_enter Tryz.func8, Tryz.ntmps8
  go_wp2_with fail
  have hb0 := below_new w (.cells #[.int .i64 p.a, .int .i64 p.b, .int .i64 p.c, .slice A lq cap] 24)
  obtain ⟨W, hW⟩ : ∃ W, W = w.alloc (.cells #[.int .i64 p.a, .int .i64 p.b, .int .i64 p.c, .slice A lq cap] 24) := ⟨_, rfl⟩
  rw [← hW] at hb0 ⊢
  refine (HV.out W (HI.out.1.below hb0)).mono ?_
  rintro e w1 ⟨v, rfl, hown, hb1⟩
  obtain ⟨A2, c2, rfl, hL2⟩ := hown.isL
  obtain ⟨l2, hl2⟩ : ∃ l2, l2 = q.xs.length := ⟨_, rfl⟩
  rw [← hl2] at hown hL2 ⊢
  have hb1' := hb0.trans (hb1.mono hb0.size)
  have H1 := Lib.hid (And.intro hb1' (And.intro (HI.out.2.below hb1') (And.intro hL2 hl2)))
  clear hW hb0 hb1 hb1' HV hown hL2 hl2
  go_upto_if 15 with fail
  have hb3 := below_new w1 (.cells #[.int .i64 q.a, .int .i64 q.b, .int .i64 q.c, .slice A2 l2 c2] 24)
  have hx3 := PBox.new w1 q.a q.b q.c (.slice A2 l2 c2)
  obtain ⟨w2, hw2⟩ : ∃ w2, w2 = w1.alloc (.cells #[.int .i64 q.a, .int .i64 q.b, .int .i64 q.c, .slice A2 l2 c2] 24) := ⟨_, rfl⟩
  rw [← hw2] at hb3 hx3 ⊢
  obtain ⟨pb, hpb⟩ : ∃ pb, pb = w1.heap.size := ⟨_, rfl⟩
  rw [← hpb] at hx3 ⊢
  have H2 := Lib.hid (And.intro (H1.out.1.trans (hb3.mono H1.out.1.size)) (And.intro (H1.out.2.1.below hb3) (And.intro (IsL.below hb3 H1.out.2.2.1) (And.intro H1.out.2.2.2 hx3))))
  clear hw2 hb3 hx3 hpb H1
  by_cases hz : E = 0
  · subst hz
    have hv : valP p = 0 := HEE.out.1.symm
    have hgood := lstO_good hv
    have HFM := Lib.hid (show fmtT p = (⟨(formT q).toArray⟩, 0) by unfold fmtT; rw [if_pos hv, HEE.out.2])
    rw [← HEE.out.2] at hgood
    have HG := Lib.hid hgood
    clear hv hgood
    go_upto_region 5 with fail
    have hbn := below_new w2 (.cells #[.pointer none, .slice none 0 0] 58)
    have hbi := Lib.fresh_isBuilder 58 5 w2
    obtain ⟨w3, hw3⟩ : ∃ w3, w3 = w2.alloc (.cells #[.pointer none, .slice none 0 0] 58) := ⟨_, rfl⟩
    rw [← hw3] at hbn hbi ⊢
    have hgs : w2.heap.size < w3.heap.size := by rw [hw3]; simp
    obtain ⟨gb, hgb⟩ : ∃ gb, gb = w2.heap.size := ⟨_, rfl⟩
    rw [← hgb] at hbi hgs ⊢
    have hx3 := H2.out.2.2.2.2.keep hbn
    obtain ⟨x0, x1, x2, x3, x4⟩ := hx3.cells
    have hpg : pb < gb := by rw [hgb]; exact (Array.getElem?_eq_some_iff.1 H2.out.2.2.2.2).1
    have H3 := Lib.hid (And.intro (H2.out.1.trans (hbn.mono H2.out.1.size)) (And.intro (H2.out.2.1.below hbn) (And.intro (IsL.below hbn H2.out.2.2.1) (And.intro H2.out.2.2.2.1 (And.intro hx3 (And.intro hbi (show w.heap.size ≤ gb by rw [hgb]; exact H2.out.1.size)))))))
    have HI2 := Lib.hid (show 0 < l2 → ∃ b o, A2 = some ⟨b, o, none⟩ ∧ b < gb ∧ ∀ i, i < l2 → w2.cell? ⟨b, o + i, none⟩ = some (.int .i64 (q.xs.getD i 0)) by rw [hgb]; exact H2.out.2.2.1.2)
    have HBN := Lib.hid (show Below gb w2 w3 by rw [hgb]; exact hbn)
    clear hw3 hbn hbi hgb hx3 H2
    refine RP.region_treeW (C := fun w' => ∃ x : SubW w3.heap.size w3, w' = x.val) (fun _ _ _ => False) [0, 1, 5, 6, 10, 11] (.one 2 (.read 3 (.read 4 (.one 7 (.read 8 (.read 9 (.one 12 (.one 13 (.one 14 .nil))))))))) 15 (fun _ _ _ h => h.elim) (by kernel_rfl) (by kernel_rfl) (sub_start _ w3) ?_
    simp only [pickL, List.getElem?_cons_zero, List.getElem?_cons_succ]
    repeat (go_big_quiet_step (fail))
    refine wpQuiet_nil ?_
    obtain ⟨w5, hw5⟩ : ∃ w5 : World, w5 = { w3 with drawn := w3.drawn + 1 } := ⟨_, rfl⟩
    have hb5 : Below w3.heap.size w3 w5 := by rw [hw5]; exact (Below.refl _ _).drew
    rw [← hw5]
    have ha := HG.out.a0
    have ha1 := HG.out.a1
    have hbb0 := HG.out.b0
    have hbb := HG.out.b1
    have hc0 := HG.out.c0
    have hc1 := HG.out.c1
    simp only [RP.treeS, atOp, List.getElem?_cons_zero, List.getElem?_cons_succ]
    obtain ⟨s1, hs1⟩ : ∃ s : ByteArray, s = ⟨(Lib.itoa q.a).toArray⟩ := ⟨_, rfl⟩
    obtain ⟨s2, hs2⟩ : ∃ s : ByteArray, s = ⟨(Lib.itoa q.b).toArray⟩ := ⟨_, rfl⟩
    obtain ⟨s3, hs3⟩ : ∃ s : ByteArray, s = ⟨(Lib.itoa q.c).toArray⟩ := ⟨_, rfl⟩
    have z1 : s1.size ≤ 20 := by rw [hs1]; exact itoa_size (by omega) (by omega)
    have z2 : s2.size ≤ 20 := by rw [hs2]; exact itoa_size (by omega) (by omega)
    have z3 : s3.size ≤ 20 := by rw [hs3]; exact itoa_size (by omega) (by omega)
    have HS1 := Lib.hid hs1
    have HS2 := Lib.hid hs2
    have HS3 := Lib.hid hs3
    clear hs1 hs2 hs3
    refine ⟨sub_of hb5, ?_⟩
    refine RP.p_call 27 #[.int .i64 q.a] rfl (by go_simp) ?_
    refine (itoa_any q.a (by omega) (by omega) w5 (H3.out.2.1.below hb5)).mono ?_
    rintro e w6 ⟨rfl, hb6⟩
    rw [← HS1.out]
    refine .inl ⟨_, rfl, ?_⟩
    have hb6' := hb5.trans (hb6.mono hb5.size)
    refine ⟨sub_of hb6', ?_⟩
    refine ⟨_, s_read (.string (⟨#[103, 114, 105, 100, 32]⟩ ++ s1)) rfl (fun w _ => by go_simp <;> omega), sub_of hb6', ?_⟩
    refine ⟨_, s_read (.string ((⟨#[103, 114, 105, 100, 32]⟩ ++ s1) ++ ⟨#[32]⟩)) rfl (fun w _ => by go_simp <;> omega), sub_of hb6', ?_⟩
    refine RP.p_call 27 #[.int .i64 q.b] rfl (by go_simp) ?_
    refine (itoa_any q.b (by omega) (by omega) w6 (H3.out.2.1.below hb6')).mono ?_
    rintro e w7 ⟨rfl, hb7⟩
    rw [← HS2.out]
    refine .inl ⟨_, rfl, ?_⟩
    have hb7' := hb6'.trans (hb7.mono hb6'.size)
    refine ⟨sub_of hb7', ?_⟩
    refine ⟨_, s_read (.string (((⟨#[103, 114, 105, 100, 32]⟩ ++ s1) ++ ⟨#[32]⟩) ++ s2)) rfl (fun w _ => by go_simp <;> omega), sub_of hb7', ?_⟩
    refine ⟨_, s_read (.string ((((⟨#[103, 114, 105, 100, 32]⟩ ++ s1) ++ ⟨#[32]⟩) ++ s2) ++ ⟨#[32]⟩)) rfl (fun w _ => by go_simp <;> omega), sub_of hb7', ?_⟩
    refine RP.p_call 27 #[.int .i64 q.c] rfl (by go_simp) ?_
    refine (itoa_any q.c (by omega) (by omega) w7 (H3.out.2.1.below hb7')).mono ?_
    rintro e w8 ⟨rfl, hb8⟩
    rw [← HS3.out]
    refine .inl ⟨_, rfl, ?_⟩
    have hb8' := hb7'.trans (hb8.mono hb7'.size)
    refine ⟨sub_of hb8', ?_⟩
    refine RP.p_val (.string (((((⟨#[103, 114, 105, 100, 32]⟩ ++ s1) ++ ⟨#[32]⟩) ++ s2) ++ ⟨#[32]⟩) ++ s3)) w8 rfl (by go_simp <;> omega) ?_
    refine ⟨sub_of hb8', ?_⟩
    refine RP.p_val (.string ((((((⟨#[103, 114, 105, 100, 32]⟩ ++ s1) ++ ⟨#[32]⟩) ++ s2) ++ ⟨#[32]⟩) ++ s3) ++ ⟨#[32]⟩)) w8 rfl (by go_simp <;> omega) ?_
    refine ⟨sub_of hb8', ?_⟩
    obtain ⟨F, hF⟩ : ∃ F, F = (((((⟨#[103, 114, 105, 100, 32]⟩ ++ s1) ++ ⟨#[32]⟩) ++ s2) ++ ⟨#[32]⟩) ++ s3) ++ ⟨#[32]⟩ := ⟨_, rfl⟩
    have hFF : F = ⟨(frontT q).toArray⟩ := by rw [hF, HS1.out, HS2.out, HS3.out]; exact front_cat q
    have hF5 : F.size ≤ 100 := by
      rw [hF]
      simp only [ByteArray.size_append]
      have e1 : (⟨#[103, 114, 105, 100, 32]⟩ : ByteArray).size = 5 := rfl
      have e2 : (⟨#[32]⟩ : ByteArray).size = 1 := rfl
      omega
    rw [← hF]
    have hbi8 := isB_keep hb8' H3.out.2.2.2.2.2.1
    have hg8 : gb ≤ w8.heap.size := by have := hb8'.size; omega
    refine RP.p_call 26 #[.pointer (some ⟨gb, 0, none⟩), .string F] rfl (by go_simp) ?_
    refine (wstr_any gb gb [] F w8 hbi8 (by simp; omega) hg8).mono ?_
    rintro e w9 ⟨rfl, hbi9, hb9⟩
    refine .inl ⟨_, rfl, ?_⟩
    have hbx : Below gb w3 w9 := (hb8'.mono (by omega)).trans hb9
    have hl2 : l2 ≤ 144 := by rw [H3.out.2.2.2.1]; exact HG.out.len144
    have H9 := Lib.hid (And.intro (H3.out.1.trans (hbx.mono H3.out.2.2.2.2.2.2)) (And.intro (H3.out.2.2.2.2.1.below hbx hpg) (HBN.out.trans hbx)))
    have R0 := Lib.hid (show Lib.IsBuilder 58 5 gb gb (Lib.byteCells (frontT q ++ cellsT q.a 0 (q.xs.take 0))) w9 by
      have e : ([] : List UInt8) ++ F.data.toList = frontT q ++ cellsT q.a 0 (q.xs.take 0) := by rw [hFF]; simp [cellsT]
      rw [← e]
      exact hbi9)
    have HLL := Lib.hid (show (frontT q).length ≤ 100 by
      have e : F.size = (frontT q).length := by rw [hFF]; exact List.size_toArray
      omega)
    have hs9 : gb ≤ w9.heap.size := by have := hb9.size; omega
    have HFS := Lib.hid (And.intro H3.out.2.2.2.1 (And.intro H3.out.2.1 H3.out.2.2.2.2.2.2))
    clear hw5 hb5 hb6 hb6' hb7 hb7' hb8 hb8' hF hFF HS1 HS2 HS3 H3 x0 x1 x2 x3 x4 hbi8 hbi9 hb9 hbx hg8 z1 z2 z3 hbb0 hbb hc0 hc1 hF5 hgs HBN
    obtain ⟨x0, x1, x2, x3, x4⟩ := H9.out.2.1.cells
    go_simp
    go_wp2
    go_loopw [36] (fun t wr => ∃ k : Nat, t = .int .i64 k ∧ k ≤ l2 ∧ Hid (Lib.IsBuilder 58 5 gb gb (Lib.byteCells (frontT q ++ cellsT q.a 0 (q.xs.take k))) wr ∧ Below gb w9 wr)) (fun t _ => l2 - (intOf t).toNat)
    case atStart => exact ⟨0, rfl, by omega, R0.out, Below.refl _ _⟩
    case round =>
      obtain ⟨k, rfl, hk, hr⟩ := hrel
      clear R0 x0 x1 x2 x3 x4
      have hx9 := H9.out.2.1.below hr.out.2 hpg
      obtain ⟨x0, x1, x2, x3, x4⟩ := hx9.cells
      clear hx9
      have hgr : gb ≤ wr.heap.size := Nat.le_trans hs9 hr.out.2.size
      by_cases hlt : k < l2
      · have hkx : k < q.xs.length := by rw [← HFS.out.1]; exact hlt
        obtain ⟨b2, o2, rfl, hb2l, hc2⟩ := HI2.out (by omega)
        have y0 := ((H9.out.2.2.trans hr.out.2).cell (p := ⟨b2, o2 + k, none⟩) hb2l).trans (hc2 k hlt)
        have hb2r : b2 < wr.heap.size := by omega
        obtain ⟨c, hc⟩ : ∃ c, c = q.xs.getD k 0 := ⟨_, rfl⟩
        rw [← hc] at y0
        have hcq : c = q.xs[k] := by rw [hc, List.getD, List.getElem?_eq_getElem hkx]; rfl
        obtain ⟨hcb0, hcb1⟩ := HG.out.col c (by rw [hcq]; exact List.getElem_mem hkx)
        have HC := Lib.hid (show cellsT q.a 0 (q.xs.take (k + 1)) = cellsT q.a 0 (q.xs.take k) ++ ((if 0 < k ∧ (k : Int) % q.a = 0 then [47] else []) ++ [UInt8.ofNat (48 + c.toNat)]) by
          rw [cellsT_take q.a q.xs k hkx, cellT, ← hcq])
        have h48 : ((UInt8.ofNat (48 + c.toNat)).toNat : Int) = 48 + c := by
          rw [UInt8.toNat_ofNat_of_lt' (by show 48 + c.toNat < 256; omega)]
          omega
        have hlen : (frontT q ++ cellsT q.a 0 (q.xs.take k)).length ≤ 1000 := by
          have h1 := cellsT_len q.a (q.xs.take k) 0
          have h2 := HLL.out
          rw [List.length_append]
          rw [List.length_take] at h1
          omega
        have HLN := Lib.hid hlen
        have H48 := Lib.hid h48
        clear hc hcq hc2 hkx hlen h48
        have hfin : ∀ (m : List UInt8) (wz : World), m = (if 0 < k ∧ (k : Int) % q.a = 0 then [47] else []) ++ [UInt8.ofNat (48 + c.toNat)] → Lib.IsBuilder 58 5 gb gb (Lib.byteCells ((frontT q ++ cellsT q.a 0 (q.xs.take k)) ++ m)) wz → Below gb wr wz → Hid (Lib.IsBuilder 58 5 gb gb (Lib.byteCells (frontT q ++ cellsT q.a 0 (q.xs.take (k + 1)))) wz ∧ Below gb w9 wz) := fun m wz hm h1 h2 => ⟨by rw [HC.out, ← hm, ← List.append_assoc]; exact h1, hr.out.2.trans h2⟩
        have HFN := Lib.hid hfin
        have HR := Lib.hid hr.out.1
        clear hfin HC hr
        by_cases h0 : 0 < k
        · by_cases hm : (k : Int) % q.a = 0
          · have d2 : ((k : Int) % q.a == 0) = true := beq_iff_eq.2 hm
            have HM := Lib.hid (And.intro h0 hm)
            clear hm
            have hwb := wbyte_any gb gb _ 47 wr HR.out (by have := HLN.out; omega) hgr
            go_wp2_with fail
            refine Calls.mono (show Calls _ _ _ _ _ from hwb) ?_
            rintro e w10 ⟨rfl, hbo, hbel⟩
            have hx10 : w10.cell? ⟨b2, o2 + k, none⟩ = wr.cell? ⟨b2, o2 + k, none⟩ := hbel.cell (p := ⟨b2, o2 + k, none⟩) hb2l
            have hwb2 := wbyte_any gb gb _ (UInt8.ofNat (48 + c.toNat)) w10 hbo (by have := HLN.out; rw [List.length_append, List.length_singleton]; omega) (by have := hbel.size; omega)
            rw [H48.out] at hwb2
            have HBL := Lib.hid hbel
            clear hwb hbo hbel hx10
            go_wp2_with fail
            refine hwb2.mono ?_
            rintro e w11 ⟨rfl, hbo2, hbel2⟩
            have R2 := HFN.out [47, UInt8.ofNat (48 + c.toNat)] w11 (by rw [if_pos HM.out]; rfl) (by rw [List.append_assoc] at hbo2; exact hbo2) (HBL.out.trans hbel2)
            clear hwb2 hbo2 hbel2 HBL HFN HM HR HLN
            go_wp2
            go_roundw
            case rel => exact ⟨k + 1, by go_num, by omega, R2⟩
            case measure => simp [intOf]; omega
          · have d2 : ((k : Int) % q.a == 0) = false := beq_eq_false_iff_ne.2 hm
            have HM := Lib.hid hm
            clear hm
            have hwb2 := wbyte_any gb gb _ (UInt8.ofNat (48 + c.toNat)) wr HR.out (by have := HLN.out; omega) hgr
            rw [H48.out] at hwb2
            go_wp2_with fail
            refine hwb2.mono ?_
            rintro e w11 ⟨rfl, hbo2, hbel2⟩
            have R2 := HFN.out [UInt8.ofNat (48 + c.toNat)] w11 (by rw [if_neg (fun h => HM.out h.2)]; rfl) hbo2 hbel2
            clear hwb2 hbo2 hbel2 HFN HM HR HLN
            go_wp2
            go_roundw
            case rel => exact ⟨k + 1, by go_num, by omega, R2⟩
            case measure => simp [intOf]; omega
        · have hwb2 := wbyte_any gb gb _ (UInt8.ofNat (48 + c.toNat)) wr HR.out (by have := HLN.out; omega) hgr
          rw [H48.out] at hwb2
          go_wp2_with fail
          refine hwb2.mono ?_
          rintro e w11 ⟨rfl, hbo2, hbel2⟩
          have R2 := HFN.out [UInt8.ofNat (48 + c.toNat)] w11 (by rw [if_neg (fun h => h0 h.1)]; rfl) hbo2 hbel2
          clear hwb2 hbo2 hbel2 HFN HR HLN
          go_wp2
          go_roundw
          case rel => exact ⟨k + 1, by go_num, by omega, R2⟩
          case measure => simp [intOf]; omega
      · obtain rfl : k = l2 := by omega
        have hS := hr.out.1
        rw [HFS.out.1, List.take_length] at hS
        have HS := Lib.hid hS
        have HB := Lib.hid (H9.out.1.trans (hr.out.2.mono HFS.out.2.2))
        clear hr hS
        go_wp2_with fail
        refine (Tryz.Builder_String_any gb gb _ wr HS.out hgr).mono ?_
        rintro e w10 ⟨rfl, hb10⟩
        have HF := Lib.hid (show fmtT p = (⟨(frontT q ++ cellsT q.a 0 q.xs).toArray⟩, 0) ∧ Below w.heap.size w w10 from ⟨HFM.out, HB.out.trans (hb10.mono HFS.out.2.2)⟩)
        clear HS HB H9 hb10 HFS
        go_wp2
        go_ret2
        exact ⟨by rw [HF.out.1]; rfl, HF.out.2⟩
  · have d1 : (E != 0) = true := by rw [bne_iff_ne]; exact hz
    have HF := Lib.hid (show fmtT p = (⟨#[]⟩, E) by unfold fmtT; rw [if_neg (by rw [← HEE.out.1]; exact hz), HEE.out.1])
    clear hz
    go_wp2
    go_ret2
    exact ⟨by rw [HF.out]; rfl, H2.out.1⟩
end Go.Proofs.YtlinldbbhdpgcaaGreatDoor
/-
  THE TEXT OF A PATTERN IS READ AS IT: PLAIN.
-/
namespace Go.Proofs.YtlinldbbhdpgcaaGreatDoor
open Go.RowKit
def dgt (c : Int) : UInt8 := UInt8.ofNat (48 + c.toNat)
theorem dgt_nat {c : Int} (h0 : 0 ≤ c) (h1 : c < 8) : (dgt c).toNat = 48 + c.toNat := UInt8.toNat_ofNat_of_lt' (by show 48 + c.toNat < 256; omega)
theorem dgt_no {l : List Int} (h : ∀ x ∈ l, 0 ≤ x ∧ x < 8) (b : UInt8) (hb : b.toNat < 48) : b ∉ l.map dgt := by
  intro hm
  obtain ⟨x, hx, e⟩ := List.mem_map.1 hm
  have := dgt_nat (h x hx).1 (h x hx).2
  rw [e] at this
  omega
theorem cells_in {A : Nat} : ∀ (l : List Int) (j : Nat), l.length + j % A ≤ A → 0 < j % A → cellsT (A : Int) j l = l.map dgt
  | [], _, _, _ => rfl
  | c :: l, j, h1, h2 => by
    have hne : ¬ (0 < j ∧ (j : Int) % (A : Int) = 0) := fun h => by omega
    rw [cellsT, cellT, if_neg hne, List.map_cons]
    simp only [List.length_cons] at h1
    cases l with
    | nil => rfl
    | cons d l =>
      simp only [List.length_cons] at h1
      have hlt : j % A + 1 < A := by omega
      have hm : (j + 1) % A = j % A + 1 := by
        rw [Nat.add_mod, Nat.mod_eq_of_lt (show 1 < A by omega), Nat.mod_eq_of_lt hlt]
      rw [cells_in (d :: l) (j + 1) (by simp only [List.length_cons]; omega) (by omega)]
      rfl
theorem cells_row {A : Nat} (l : List Int) (i : Nat) (hA : 0 < A) (hl : l.length = A) (hi : i % A = 0) : cellsT (A : Int) i l = (if 0 < i then [47] else []) ++ l.map dgt := by
  cases l with
  | nil => simp at hl; omega
  | cons c l =>
    rw [cellsT, cellT, List.map_cons]
    have e : (if 0 < i ∧ (i : Int) % (A : Int) = 0 then ([47] : List UInt8) else []) = if 0 < i then [47] else [] := by
      have : (i : Int) % (A : Int) = 0 := by omega
      simp [this]
    rw [e]
    simp only [List.length_cons] at hl
    cases l with
    | nil => simp [cellsT, dgt]
    | cons d l =>
      simp only [List.length_cons] at hl
      have hm : (i + 1) % A = 1 := by
        rw [Nat.add_mod, hi, Nat.zero_add, Nat.mod_mod, Nat.mod_eq_of_lt (by omega)]
      rw [cells_in (d :: l) (i + 1) (by simp only [List.length_cons]; omega) (by omega)]
      simp [dgt]
theorem split_cells {A : Nat} (hA : 0 < A) : ∀ (C i : Nat) (xs : List Int), xs.length = A * (C + 1) → i % A = 0 → (∀ x ∈ xs, 0 ≤ x ∧ x < 8) → ∃ (B : List UInt8) (R : List (List Int)), cellsT (A : Int) i xs = (if 0 < i then [47] else []) ++ B ∧ R.length = C + 1 ∧ (∀ r ∈ R, r.length = A) ∧ R.flatten = xs ∧ splitL 47 B = R.map (·.map dgt) := by
  intro C
  induction C with
  | zero =>
    intro i xs hl hi hc
    rw [Nat.mul_one] at hl
    refine ⟨xs.map dgt, [xs], cells_row xs i hA hl hi, rfl, by simpa using hl, by simp, ?_⟩
    rw [splitL_none (dgt_no hc 47 (by decide))]
    rfl
  | succ C ih =>
    intro i xs hl hi hc
    have hlen : xs.length = A + A * (C + 1) := by rw [hl, Nat.mul_succ]; omega
    have hr : (xs.take A).length = A := by rw [List.length_take]; omega
    obtain ⟨B, R, h1, h2, h3, h4, h5⟩ := ih (i + A) (xs.drop A) (by rw [List.length_drop]; omega) (by rw [Nat.add_mod_right]; exact hi) (fun x hx => hc x (List.mem_of_mem_drop hx))
    rw [if_pos (by omega)] at h1
    have hcr : ∀ x ∈ xs.take A, 0 ≤ x ∧ x < 8 := fun x hx => hc x (List.mem_of_mem_take hx)
    refine ⟨(xs.take A).map dgt ++ 47 :: B, xs.take A :: R, ?_, by rw [List.length_cons, h2], fun r hm => ?_, by rw [List.flatten_cons, h4, List.take_append_drop], ?_⟩
    · have e : cellsT (A : Int) i xs = cellsT (A : Int) i (xs.take A ++ xs.drop A) := by rw [List.take_append_drop]
      rw [e, cellsT_app, hr, h1, cells_row _ i hA hr hi, List.append_assoc]
      rfl
    · rcases List.mem_cons.1 hm with rfl | hm
      · exact hr
      · exact h3 r hm
    · rw [splitL_app (dgt_no hcr 47 (by decide)), h5]
      rfl
theorem digL_dgt {l : List Int} (h : ∀ x ∈ l, 0 ≤ x ∧ x < 8) {s : ByteArray} (hs : s.data.toList = l.map dgt) : digL s = l ∧ DigT s ∧ s.size = l.length := by
  refine ⟨?_, fun c hc => ?_, ?_⟩
  · unfold digL
    rw [hs, List.map_map]
    have : ∀ x ∈ l, ((fun c : UInt8 => (c.toNat : Int) - 48) ∘ dgt) x = x := fun x hx => by
      show ((dgt x).toNat : Int) - 48 = x
      rw [dgt_nat (h x hx).1 (h x hx).2]
      have := (h x hx).1
      omega
    rw [List.map_congr_left this, List.map_id']
  · rw [hs] at hc
    obtain ⟨x, hx, rfl⟩ := List.mem_map.1 hc
    rw [dgt_nat (h x hx).1 (h x hx).2]
    have := h x hx
    omega
  · have e : s.size = s.data.toList.length := rfl
    rw [e, hs, List.length_map]
theorem rows_cells {q : PatD} (h : GoodP q) : rowsO q.a q.c [⟨(cellsT q.a 0 q.xs).toArray⟩] = some (q.xs, []) := by
  obtain ⟨A, hA⟩ : ∃ A : Nat, q.a = A := ⟨q.a.toNat, by have := h.a0; omega⟩
  obtain ⟨C, hC⟩ : ∃ C : Nat, q.c = ((C + 1 : Nat) : Int) := ⟨q.c.toNat - 1, by have := h.c0; omega⟩
  have ha := h.a0
  have hl : q.xs.length = A * (C + 1) := by
    have := h.len
    rw [hA, hC] at this
    exact_mod_cast this.symm
  obtain ⟨B, R, h1, h2, h3, h4, h5⟩ := split_cells (A := A) (by omega) C 0 q.xs hl (Nat.zero_mod A) h.col
  rw [if_neg (by omega), List.nil_append] at h1
  obtain ⟨s, hs⟩ : ∃ s : ByteArray, s = ⟨(cellsT q.a 0 q.xs).toArray⟩ := ⟨_, rfl⟩
  rw [← hs]
  have hm : (rowsS s).map (·.data.toList) = R.map (·.map dgt) := by
    have h6 : (rowsS s).map (·.data.toList) = splitL 47 s.data.toList := splitB_one s 47
    rw [h6, hs, ← h5, ← h1, hA]
  have hcol : ∀ r ∈ R, ∀ x ∈ r, 0 ≤ x ∧ x < 8 := fun r hr x hx => h.col x (by rw [← h4]; exact List.mem_flatten.2 ⟨r, hr, hx⟩)
  have hlen : (rowsS s).length = C + 1 := by
    have := congrArg List.length hm
    rw [List.length_map, List.length_map, h2] at this
    exact this
  have hrow : ∀ y ∈ rowsS s, ∃ r ∈ R, y.data.toList = r.map dgt := fun y hy => by
    have : y.data.toList ∈ (rowsS s).map (·.data.toList) := List.mem_map.2 ⟨y, hy, rfl⟩
    rw [hm] at this
    obtain ⟨r, hr, e⟩ := List.mem_map.1 this
    exact ⟨r, hr, e.symm⟩
  have hg : gridL s = q.xs := by
    unfold gridL
    have key : ∀ (ys : List ByteArray) (T : List (List Int)), ys.map (·.data.toList) = T.map (·.map dgt) → (∀ r ∈ T, ∀ x ∈ r, 0 ≤ x ∧ x < 8) → ys.flatMap digL = T.flatten := by
      intro ys
      induction ys with
      | nil => intro T e _; cases T with | nil => rfl | cons r T => cases e
      | cons y ys ih =>
        intro T e hT
        cases T with
        | nil => cases e
        | cons r T =>
          simp only [List.map_cons, List.cons.injEq] at e
          rw [List.flatMap_cons, List.flatten_cons, (digL_dgt (hT r (by simp)) e.1).1, ih T e.2 (fun r hr => hT r (by simp [hr]))]
    rw [key _ R hm hcol, h4]
  have hG : GridT q.a q.c s := by
    refine ⟨by rw [hlen, hC], fun y hy => ?_⟩
    obtain ⟨r, hr, e⟩ := hrow y hy
    obtain ⟨-, e2, e3⟩ := digL_dgt (hcol r hr) e
    exact ⟨by rw [e3, h3 r hr, hA], ha, e2⟩
  simp only [rowsO]
  rw [if_pos hG, hg]
theorem cells_no (a : Int) (b : UInt8) (hb : b.toNat < 47) : ∀ (l : List Int) (i : Nat), (∀ x ∈ l, 0 ≤ x ∧ x < 8) → b ∉ cellsT a i l
  | [], _, _ => by simp [cellsT]
  | c :: l, i, h => by
    rw [cellsT, List.mem_append, cellT]
    rintro (hm | hm)
    · rcases List.mem_append.1 hm with hm | hm
      · split at hm
        · have := List.mem_singleton.1 hm
          rw [this] at hb
          exact absurd hb (by decide)
        · simp at hm
      · have e := List.mem_singleton.1 hm
        have h2 := dgt_nat (h c (by simp)).1 (h c (by simp)).2
        have h3 : b.toNat = 48 + c.toNat := by rw [e]; exact h2
        omega
    · exact cells_no a b hb l (i + 1) (fun x hx => h x (by simp [hx])) hm
theorem itoa_no {v : Int} (h0 : -1000000 < v) (h1 : v < 1000000) (b : UInt8) (hb : b.toNat < 45) : b ∉ Lib.itoa v := fun hm => by
  rcases itoa_chars (by omega) (by omega) b hm with h | h
  · rw [h] at hb; exact absurd hb (by decide)
  · omega
/-- The words of a pattern's text. -/
theorem words_form {q : PatD} (h : GoodP q) : splitL 32 (formT q) = [[103, 114, 105, 100], Lib.itoa q.a, Lib.itoa q.b, Lib.itoa q.c, cellsT q.a 0 q.xs] := by
  have h1 := h.a0
  have h2 := h.a1
  have h3 := h.b0
  have h4 := h.b1
  have h5 := h.c0
  have h6 := h.c1
  have e : formT q = [103, 114, 105, 100] ++ 32 :: (Lib.itoa q.a ++ 32 :: (Lib.itoa q.b ++ 32 :: (Lib.itoa q.c ++ 32 :: cellsT q.a 0 q.xs))) := by simp [formT, frontT]
  rw [e, splitL_app (by decide), splitL_app (itoa_no (by omega) (by omega) 32 (by decide)), splitL_app (itoa_no (by omega) (by omega) 32 (by decide)), splitL_app (itoa_no (by omega) (by omega) 32 (by decide)), splitL_none (cells_no q.a 32 (by decide) q.xs 0 h.col)]
def formX (q : PatD) : ExprD := .leaf (txt [103, 114, 105, 100]) [q.a, q.b, q.c] q.xs
theorem head_form {q : PatD} (h : GoodP q) (r : List ByteArray) : headO (txt [103, 114, 105, 100]) (⟨(Lib.itoa q.a).toArray⟩ :: ⟨(Lib.itoa q.b).toArray⟩ :: ⟨(Lib.itoa q.c).toArray⟩ :: ⟨(cellsT q.a 0 q.xs).toArray⟩ :: r) = some (([q.a, q.b, q.c], q.xs, 0), r) := by
  have h1 := h.a0
  have h2 := h.a1
  have h3 := h.b0
  have h4 := h.b1
  have h5 := h.c0
  have h6 := h.c1
  have va : numV ⟨(Lib.itoa q.a).toArray⟩ = some q.a := numV_of rfl (by omega) (by omega)
  have vb : numV ⟨(Lib.itoa q.b).toArray⟩ = some q.b := numV_of rfl (by omega) (by omega)
  have vc : numV ⟨(Lib.itoa q.c).toArray⟩ = some q.c := numV_of rfl (by omega) (by omega)
  have hn : numsO 3 (⟨(Lib.itoa q.a).toArray⟩ :: ⟨(Lib.itoa q.b).toArray⟩ :: ⟨(Lib.itoa q.c).toArray⟩ :: ⟨(cellsT q.a 0 q.xs).toArray⟩ :: r) = some ([q.a, q.b, q.c], ⟨(cellsT q.a 0 q.xs).toArray⟩ :: r) := by
    simp [numsO, va, vb, vc]
  have hr : rowsO q.a q.c (⟨(cellsT q.a 0 q.xs).toArray⟩ :: r) = some (q.xs, r) := by
    have := rows_cells h
    simp only [rowsO] at this ⊢
    split at this
    · rename_i hg
      rw [if_pos hg]
      simp only [Option.some.injEq, Prod.mk.injEq] at this ⊢
      exact ⟨this.1, trivial⟩
    · cases this
  rw [headO_grid rfl, hn]
  simp only [Option.bind_some, List.getD_cons_zero, List.getD_cons_succ]
  rw [hr]
  rfl
theorem expr_form {q : PatD} (h : GoodP q) (k : Nat) (r : List ByteArray) : exprO (k + 1) (txt [103, 114, 105, 100] :: ⟨(Lib.itoa q.a).toArray⟩ :: ⟨(Lib.itoa q.b).toArray⟩ :: ⟨(Lib.itoa q.c).toArray⟩ :: ⟨(cellsT q.a 0 q.xs).toArray⟩ :: r) = some (formX q, r) :=
  exprO_succ.2 ⟨_, _, _, _, [], head_form h r, rfl, rfl⟩
theorem val_form {q : PatD} (h : GoodP q) (hq : lst (colF q) = q) : valX (formX q) = (q, 0) := by
  have e : leafP (txt [103, 114, 105, 100]) [q.a, q.b, q.c] q.xs = q := by unfold leafP; rw [if_pos rfl]; rfl
  simp only [formX, valX]
  rw [e, lstO_zero h.val, hq, h.val]
theorem form_size {q : PatD} (h : GoodP q) : (formT q).length ≤ 1000 := by
  have h1 := h.len144
  have h2 := cellsT_len q.a q.xs 0
  have h3 := h.a0
  have h4 := h.a1
  have h5 := h.b0
  have h6 := h.b1
  have h7 := h.c0
  have h8 := h.c1
  have hl : ∀ v : Int, 0 ≤ v → v ≤ 1000 → (Lib.itoa v).length ≤ 15 := fun v g0 g1 => by
    obtain ⟨p1, -, p3, -⟩ := itoa_parts (v := v) (by omega) (by omega)
    rcases p1 with ⟨p1, -⟩ | ⟨-, p1⟩
    · omega
    · rw [p1]; exact p3
  have y1 := hl q.a (by omega) (by omega)
  have y2 := hl q.b (by omega) (by omega)
  have y3 := hl q.c (by omega) (by omega)
  simp only [formT, frontT, List.length_append, List.length_cons, List.length_nil]
  omega
/-- The text of a least pattern is read as it. -/
theorem prs_form {q : PatD} (h : GoodP q) (hq : lst (colF q) = q) : prsT ⟨(formT q).toArray⟩ = (q, 0) := by
  have hw : wordsS ⟨(formT q).toArray⟩ = [txt [103, 114, 105, 100], ⟨(Lib.itoa q.a).toArray⟩, ⟨(Lib.itoa q.b).toArray⟩, ⟨(Lib.itoa q.c).toArray⟩, ⟨(cellsT q.a 0 q.xs).toArray⟩] := by
    refine (List.map_inj_right (f := fun x : ByteArray => x.data.toList) (fun a b e => ByteArray.ext (Array.ext' e))).1 ?_
    · have h2 : (wordsS ⟨(formT q).toArray⟩).map (·.data.toList) = splitL 32 (formT q) := splitB_one _ 32
      rw [h2, words_form h]
      rfl
  have hs : ¬ 4000 < (⟨(formT q).toArray⟩ : ByteArray).size := by
    have h1 := form_size h
    have h2 : (⟨(formT q).toArray⟩ : ByteArray).size = (formT q).length := List.size_toArray
    omega
  rw [prsT_yes hs (x := formX q) (by rw [hw]; exact expr_form h 11 []), val_form h hq]
theorem lst_again {p : PatD} (h : valP p = 0) : lst (colF (lstO p)) = lstO p := by
  rw [lstO_zero h, (lst_pat h).lst_col]
end Go.Proofs.YtlinldbbhdpgcaaGreatDoor
