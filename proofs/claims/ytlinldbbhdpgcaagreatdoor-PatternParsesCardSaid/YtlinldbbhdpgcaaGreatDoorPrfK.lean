/-
  THE REFERENCE: Shift. The table of a moved pattern.
-/
import Derived.Test.YtlinldbbhdpgcaaGreatDoorPatU
import Derived.Test.YtlinldbbhdpgcaaGreatDoorPrfE
import Derived.Test.YtlinldbbhdpgcaaGreatDoorLawP
namespace Go.Proofs.YtlinldbbhdpgcaaGreatDoor
open Go.RowKit
attribute [local go_sem] sub_cell sub_frozen
attribute [local irreducible] RP.plainUpon RP.stepC
/-- A pattern's cells lie below B, apart from the block ob. -/
def PIn (w : World) (B ob : Nat) (q : PatD) (A : Option Addr) : Prop := 0 < q.xs.length → ∃ b o, A = some ⟨b, o, none⟩ ∧ b < B ∧ b ≠ ob ∧ ∀ j, j < q.xs.length → w.cell? ⟨b, o + j, none⟩ = some (.int .i64 (q.xs.getD j 0))
theorem PIn.in {w : World} {B ob : Nat} {q : PatD} {A : Option Addr} (h : PIn w B ob q A) (hB : B ≤ w.heap.size) : PatIn w q A :=
  ⟨rfl, fun hp => by
    obtain ⟨b, o, rfl, h1, -, h3⟩ := h hp
    exact ⟨b, o, rfl, by omega, h3⟩⟩
theorem PIn.step {w w' : World} {B ob : Nat} {q : PatD} {A : Option Addr} (h : PIn w B ob q A) (hb : Below B w w') (u : Value) : PIn (w'.setCell ⟨ob, 3, none⟩ u) B ob q A := fun hp => by
  obtain ⟨b, o, rfl, h1, h2, h3⟩ := h hp
  refine ⟨b, o, rfl, h1, h2, fun j hj => ?_⟩
  exact (World.cell?_of_block (a := ⟨b, _, none⟩) ((Below.heap_setCell w' ⟨ob, 3, none⟩ u b h2).trans (hb.block b h1))).trans (h3 j hj)
theorem PIn.of {w : World} {B ob : Nat} {q : PatD} {A : Option Addr} (h : PatIn w q A) (hB : w.heap.size ≤ B) (ho : w.heap.size ≤ ob) : PIn w B ob q A := fun hp => by
  obtain ⟨b, o, rfl, h1, h2⟩ := h.2 hp
  exact ⟨b, o, rfl, by omega, by omega, h2⟩
theorem PIn.keep {w w' : World} {B ob : Nat} {q : PatD} {A : Option Addr} (h : PIn w B ob q A) (hb : Below B w w') : PIn w' B ob q A := fun hp => by
  obtain ⟨b, o, rfl, h1, h2, h3⟩ := h hp
  exact ⟨b, o, rfl, h1, h2, fun j hj => (hb.cell (p := ⟨b, _, none⟩) h1).trans (h3 j hj)⟩
theorem PIn.from {w W : World} {B ob : Nat} {q : PatD} {A : Option Addr} (h : PatIn w q A) (hb : Below w.heap.size w W) (hB : w.heap.size ≤ B) (ho : w.heap.size ≤ ob) : PIn W B ob q A := fun hp => by
  obtain ⟨b, o, rfl, h1, h2⟩ := h.2 hp
  exact ⟨b, o, rfl, by omega, by omega, fun j hj => (hb.cell (p := ⟨b, _, none⟩) h1).trans (h2 j hj)⟩
/-- Behind the new box of a table. -/
theorem RW.new {w w1 : World} {pb rb : Nat} {a b c : Int} {s : Value} (hp : PBox w1 pb a b c s) (hr : PBox w1 rb 0 0 0 (.slice none 0 0)) (hb : Below w.heap.size w w1) (hrw : w.heap.size ≤ rb) (x y z : Int) :
    RW w (w1.alloc (.cells #[.int .i64 x, .int .i64 y, .int .i64 z, .slice none 0 0] 24)) (w1.heap.size + 1) pb rb w1.heap.size a b c s x y z (.slice none 0 0) [] := by
  have h1 := (Array.getElem?_eq_some_iff.1 hp).1
  have h2 := (Array.getElem?_eq_some_iff.1 hr).1
  have hbn := (Below.refl w1.heap.size w1).alloc (Nat.le_refl _) (.cells #[.int .i64 x, .int .i64 y, .int .i64 z, .slice none 0 0] 24)
  exact ⟨hp.keep hbn, hr.keep hbn, PBox.new w1 _ _ _ _, OwnI.nil _ _, hb.trans (hbn.mono hb.size), by omega, by omega, by omega, by omega, by omega, hb.size, hrw, by simp, by have := hb.size; omega⟩
set_option maxRecDepth 100000 in
theorem rnear_any (x y : Int) (w : World) :
    Calls Tryz.prog 79 #[.int .i64 x, .int .i64 y] w fun e w' => e = .returned (.bool (!([x, y] : List Int).any farC)) ∧ w = w' := by
  obtain ⟨r, hr⟩ : ∃ r, r = !([x, y] : List Int).any farC := ⟨_, rfl⟩
  rw [← hr]
  have hwx := fun w => pwithin_any x (-100000) 100000 _ rfl w
  have hwy := fun w => pwithin_any y (-100000) 100000 _ rfl w
  have ex : (decide (-100000 ≤ x) && decide (x ≤ 100000)) = !farC x := by
    unfold farC
    by_cases h1 : x < -100000
    · rw [decide_eq_true h1, decide_eq_false (show ¬ -100000 ≤ x by omega)]; rfl
    · rw [decide_eq_false h1, decide_eq_true (show -100000 ≤ x by omega)]
      by_cases h2 : 100000 < x
      · rw [decide_eq_true h2, decide_eq_false (show ¬ x ≤ 100000 by omega)]; rfl
      · rw [decide_eq_false h2, decide_eq_true (show x ≤ 100000 by omega)]; rfl
  have ey : (decide (-100000 ≤ y) && decide (y ≤ 100000)) = !farC y := by
    unfold farC
    by_cases h1 : y < -100000
    · rw [decide_eq_true h1, decide_eq_false (show ¬ -100000 ≤ y by omega)]; rfl
    · rw [decide_eq_false h1, decide_eq_true (show -100000 ≤ y by omega)]
      by_cases h2 : 100000 < y
      · rw [decide_eq_true h2, decide_eq_false (show ¬ y ≤ 100000 by omega)]; rfl
      · rw [decide_eq_false h2, decide_eq_true (show y ≤ 100000 by omega)]; rfl
  rw [ex] at hwx
  rw [ey] at hwy
  simp only [List.any_cons, List.any_nil, Bool.or_false, Bool.not_or] at hr
  obtain ⟨fx, hfx⟩ : ∃ fx, fx = farC x := ⟨_, rfl⟩
  obtain ⟨fy, hfy⟩ : ∃ fy, fy = farC y := ⟨_, rfl⟩
  rw [← hfx] at hwx hr
  rw [← hfy] at hwy hr
  have HX := Lib.hid hwx
  have HY := Lib.hid hwy
  have HR := Lib.hid hr
  clear hwx hwy hr ex ey hfx hfy
  cases fx with
  | true =>
    go_enter Tryz.func79, Tryz.ntmps79
    go_wp2_with fail
    refine (HX.out _).mono ?_
    rintro e w1 ⟨rfl, rfl⟩
    go_wp2
    go_ret
    exact ⟨by rw [HR.out]; rfl, rfl⟩
  | false =>
    go_enter Tryz.func79, Tryz.ntmps79
    go_wp2_with fail
    refine (HX.out _).mono ?_
    rintro e w1 ⟨rfl, rfl⟩
    go_wp2_with fail
    refine (HY.out _).mono ?_
    rintro e w2 ⟨rfl, rfl⟩
    go_wp2
    go_ret
    exact ⟨by rw [HR.out]; cases fy <;> rfl, rfl⟩
/-- The least pattern of a table. -/
theorem rleast_tab (G : Int → Int → Int) (n m : Nat) (y : Int) (hB : Base G n y m) (hn2 : n ≤ 100000) (hm2 : m ≤ 100000) (hnm : n * m ≤ 1000000) (hy0 : 0 ≤ y) (hy1 : y ≤ 100000) (A : Option Addr) (cap : Nat) (w : World) (hi : IsL w A (tabN G n (m * n)).length (tabN G n (m * n))) :
    Calls Tryz.prog 58 #[.agg #[.int .i64 n, .int .i64 y, .int .i64 m, .slice A (tabN G n (m * n)).length cap]] w fun e w' => ∃ v, e = .returned (.agg #[.int .i64 (lst G).a, .int .i64 (lst G).b, .int .i64 (lst G).c, v]) ∧ OwnI w' w.heap.size v (lst G).xs ∧ Below w.heap.size w w' := by
  have hn := hB.a0
  have hm := hB.c0
  have hcol : colF ⟨n, y, m, tabN G n (m * n)⟩ = G := by
    have := hB.col
    rw [Int.toNat_natCast, Int.toNat_natCast, Nat.mul_comm n m] at this
    exact this
  have hl : (tabN G n (m * n)).length = m * n := tabN_length _ _ _
  have hmn : m * n ≤ 1000000 := by rw [Nat.mul_comm]; exact hnm
  have hW : PatW ⟨n, y, m, tabN G n (m * n)⟩ := ⟨hn, by simp only; omega, hy0, by simp only; omega, hm, by simp only; omega, by simp only; rw [hl, Int.natCast_mul, Int.mul_comm], by simp only; omega⟩
  obtain ⟨h1, h2⟩ := hB.lst
  have := rleast_any ⟨n, y, m, tabN G n (m * n)⟩ hW _ _ _ (by rw [hcol]; exact h1) A cap w hi
  rw [hcol, ← h2] at this
  exact this
set_option maxRecDepth 100000 in
set_option maxHeartbeats 2000000 in
theorem rshift_any (p : PatD) (hl : p.xs.length ≤ 1000000) (dx dy : Int) (A : Option Addr) (cap : Nat) (w : World) (hi : PatIn w p A) :
    Calls Tryz.prog 51 #[.agg #[.int .i64 p.a, .int .i64 p.b, .int .i64 p.c, .slice A p.xs.length cap], .int .i64 dx, .int .i64 dy] w (OutP w (shiftT p dx dy) (.int .i64 (chkP p [dx, dy]))) := by
  obtain ⟨T, hT⟩ : ∃ T, T = shiftT p dx dy := ⟨_, rfl⟩
  obtain ⟨Z, hZ⟩ : ∃ Z, Z = chkP p [dx, dy] := ⟨_, rfl⟩
  obtain ⟨E, hE⟩ : ∃ E, E = valP p := ⟨_, rfl⟩
  rw [← hT, ← hZ]
  unfold shiftT at hT
  rw [← hZ] at hT
  have HZ := Lib.hid hZ
  unfold chkP at hZ
  rw [← hE] at hZ
  have HZU := Lib.hid hZ
  have HV := Lib.hid (fun w hi => rvalidateP_any p hl E hE.symm A cap w hi)
  have hne := rnear_any dx dy
  obtain ⟨f, hf⟩ : ∃ f, f = ([dx, dy] : List Int).any farC := ⟨_, rfl⟩
  rw [← hf] at hne HZU
  have HNE := Lib.hid hne
  have HT := Lib.hid hT
  have HE := Lib.hid hE
  have HI := Lib.hid hi
  clear hi hT hE hZ hne hf
  obtain ⟨lq, hlq⟩ : ∃ lq, lq = p.xs.length := ⟨_, rfl⟩
  have HLQ := Lib.hid hlq
  rw [← hlq] at HV ⊢
  clear hlq
  obtain ⟨q, hq⟩ : ∃ q, q = p := ⟨_, rfl⟩
  obtain ⟨a, b, c, xs⟩ := p
  simp only at HV HLQ hl ⊢
  rw [← hq] at HV HI HT HE HZ
  have HQ := Lib.hid hq
  clear hq
  go_enter Tryz.func51, Tryz.ntmps51
  go_wp2_with fail
  obtain ⟨a0, a1, a2, a3⟩ := al2 w (.cells #[.int .i64 a, .int .i64 b, .int .i64 c, .slice A lq cap] 24) (.cells #[.int .i64 0, .int .i64 0, .int .i64 0, .slice none 0 0] 24)
  obtain ⟨V, hV⟩ : ∃ V, V = (w.alloc (.cells #[.int .i64 a, .int .i64 b, .int .i64 c, .slice A lq cap] 24)).alloc (.cells #[.int .i64 0, .int .i64 0, .int .i64 0, .slice none 0 0] 24) := ⟨_, rfl⟩
  rw [← hV] at a0 a1 a2 a3 ⊢
  refine (HV.out V (HI.out.below a3)).mono ?_
  rintro e w1 ⟨rfl, hb1⟩
  have H1 := Lib.hid (show PBox w1 w.heap.size a b c (.slice A lq cap) ∧ PBox w1 (w.heap.size + 1) 0 0 0 (.slice none 0 0) ∧ Below w.heap.size w w1 from
    ⟨PBox.keep (w := V) a1 hb1, PBox.keep (w := V) a2 hb1, a3.trans (hb1.mono a3.size)⟩)
  clear hV a0 a1 a2 a3 HV hb1 V
  by_cases hz : E = 0
  · subst hz
    have hZ := HZU.out
    rw [if_neg (by simp)] at hZ
    cases f with
    | true =>
      rw [if_pos rfl] at hZ
      subst hZ
      have HT2 := Lib.hid (show T = zeroP by rw [HT.out, if_pos (by decide)])
      have HP := Lib.hid (put_zero H1.out.2.1 H1.out.2.2 (by omega))
      obtain ⟨r0, r1, r2, r3, r4⟩ := PBox.cells H1.out.2.1
      have f0 : (w1).frozen? ⟨w.heap.size + 1, 0, none⟩ = false := frozen_of_row (w1) (w.heap.size + 1) 0 _ _ H1.out.2.1
      have f1 : (w1).frozen? ⟨w.heap.size + 1, 1, none⟩ = false := frozen_of_row (w1) (w.heap.size + 1) 1 _ _ H1.out.2.1
      have f2 : (w1).frozen? ⟨w.heap.size + 1, 2, none⟩ = false := frozen_of_row (w1) (w.heap.size + 1) 2 _ _ H1.out.2.1
      have f3 : (w1).frozen? ⟨w.heap.size + 1, 3, none⟩ = false := frozen_of_row (w1) (w.heap.size + 1) 3 _ _ H1.out.2.1
      clear HT HE H1 HZ HZU
      go_wp2_with fail
      refine (HNE.out _).mono ?_
      rintro e w2 ⟨rfl, rfl⟩
      go_wp2
      refine bodyPost_ret (v := .tuple #[.agg #[.int .i64 0, .int .i64 0, .int .i64 0, .slice none 0 0], .int .i64 1]) (ret_pat2 rfl rfl rfl HP.out.1) rfl ?_
      rw [HT2.out]
      exact OutP.zero HP.out.2
    | false =>
      rw [if_neg (by simp)] at hZ
      subst hZ
      have hT := HT.out
      rw [if_neg (by simp)] at hT
      obtain ⟨hv, hfar⟩ := chkP_zero HZ.out.symm
      have hg := valP_zero hv
      have hfx := hfar dx (by simp)
      have hfy := hfar dy (by simp)
      have hqa : q.a = a := by rw [HQ.out]
      have hqb : q.b = b := by rw [HQ.out]
      have hqc : q.c = c := by rw [HQ.out]
      have hqx : q.xs = xs := by rw [HQ.out]
      obtain ⟨n, hn⟩ : ∃ n : Nat, a = n := ⟨a.toNat, by have := hg.a0; omega⟩
      obtain ⟨m, hm⟩ : ∃ m : Nat, c = m := ⟨c.toNat, by have := hg.c0; omega⟩
      subst hn
      subst hm
      obtain ⟨G, hG⟩ : ∃ G, G = shiftF (colF q) dx dy := ⟨_, rfl⟩
      have hbase : Base G n b m := by rw [hG, ← hqa, ← hqb, ← hqc]; exact (lst_pat hv).shift
      rw [← hG] at hT
      have hn144 : n ≤ 144 := by have := hg.a1; omega
      have hm144 : m ≤ 144 := by have := hg.c1; omega
      have hnm : n * m ≤ 144 := by
        have := hg.ac
        rw [hqa, hqc, ← Int.natCast_mul] at this
        omega
      have HC := Lib.hid (fun (i k : Nat) (hi : i < n) (hk : k < m) w2 (hp2 : PatIn w2 q A) => (show Calls Tryz.prog 80 #[.agg #[.int .i64 n, .int .i64 b, .int .i64 m, .slice A lq cap], .int .i64 ((i : Int) - dx), .int .i64 ((k : Int) - dy)] w2 fun e w3 => e = .returned (.int .i64 (G i k)) ∧ Below w2.heap.size w2 w3 from by
        have := rcolor_any q hg.ok.wide A lq cap (i - dx) (k - dy) (by omega) (by omega) (by omega) (by omega) w2 (by rw [HLQ.out, ← hqx]; exact hp2)
        rw [hqa, hqb, hqc] at this
        rw [hG]; exact this))
      have HRE := Lib.hid (fun Ax cx wx hx => rleast_tab G n m b hbase (by omega) (by omega) (by omega) (by have := hg.b0; omega) (by have := hg.b1; omega) Ax cx wx hx)
      have HTT := Lib.hid hT
      clear hT hv hfar hg hG hbase HT HE HZ HZU hqa hqb hqc hqx
      obtain ⟨q0, q1, q2, q3, q4⟩ := H1.out.1.cells
      go_wp2_with fail
      refine (HNE.out _).mono ?_
      rintro e w2 ⟨rfl, rfl⟩
      go_wp2
      have R3a := RW.new (w := w) (w1 := w1) H1.out.1 H1.out.2.1 H1.out.2.2 (by omega) n b m
      have hbw : Below w.heap.size w (w1.alloc (.cells #[.int .i64 n, .int .i64 b, .int .i64 m, .slice none 0 0] 24)) := H1.out.2.2.alloc H1.out.2.2.size _
      obtain ⟨W3, hW3⟩ : ∃ W3, W3 = w1.alloc (.cells #[.int .i64 n, .int .i64 b, .int .i64 m, .slice none 0 0] 24) := ⟨_, rfl⟩
      rw [← hW3] at R3a hbw ⊢
      have R3b : PIn W3 (w1.heap.size + 1) w1.heap.size q A := PIn.from HI.out hbw (by have := H1.out.2.2.size; omega) H1.out.2.2.size
      obtain ⟨y, hy⟩ : ∃ y, y = b := ⟨_, rfl⟩
      subst hy
      obtain ⟨ob, hob⟩ : ∃ ob, ob = w1.heap.size := ⟨_, rfl⟩
      obtain ⟨B, hB⟩ : ∃ B, B = ob + 1 := ⟨_, rfl⟩
      rw [← hob] at R3a R3b ⊢
      rw [← hB] at R3a R3b
      obtain ⟨pb, hpb⟩ : ∃ pb, pb = w.heap.size := ⟨_, rfl⟩
      obtain ⟨rb, hrb⟩ : ∃ rb, rb = w.heap.size + 1 := ⟨_, rfl⟩
      have R3c : RW w W3 B pb rb ob n y m (.slice A lq cap) n y m (.slice none 0 0) [] := by rw [hpb, hrb]; exact R3a
      have R3 := Lib.hid (show ∃ v, RW w W3 B pb rb ob n y m (.slice A lq cap) (n : Int) y (m : Int) v (tabN G n (0 * n)) ∧ PIn W3 B ob q A from ⟨_, by rw [Nat.zero_mul]; exact R3c, R3b⟩)
      rw [← hrb, ← hpb]
      clear R3a R3b R3c hbw hW3 hob hB q0 q1 q2 q3 q4 H1 hpb hrb
      obtain ⟨Aq, hAq⟩ : ∃ Aq, Aq = A := ⟨_, rfl⟩
      obtain ⟨cq, hcq⟩ : ∃ cq, cq = cap := ⟨_, rfl⟩
      subst hAq
      subst hcq
      go_loopw [10] (fun t wr => ∃ k : Nat, t = .int .i64 k ∧ k ≤ m ∧ Hid (∃ v, RW w wr B pb rb ob n y m (.slice Aq lq cq) (n : Int) y (m : Int) v (tabN G n (k * n)) ∧ PIn wr B ob q Aq)) (fun t _ => m - (intOf t).toNat)
      case atStart => exact ⟨0, rfl, by omega, R3⟩
      case round =>
        clear R3
        obtain ⟨k, rfl, hk, hr⟩ := hrel
        obtain ⟨v, hT, hPI⟩ := hr.out
        obtain ⟨o0, o1, o2, o3, o4⟩ := hT.o.cells
        obtain ⟨p0, p1, p2, p3, p4⟩ := hT.p.cells
        by_cases hlt : k < m
        · have dkm : decide ((k : Int) < (m : Int)) = true := decide_eq_true (by omega)
          have R0 := Lib.hid (show ∃ v, RW w wr B pb rb ob n y m (.slice Aq lq cq) (n : Int) y (m : Int) v (tabN G n (k * n + 0)) ∧ PIn wr B ob q Aq from ⟨v, hT, hPI⟩)
          clear hr hT hPI
          go_wp2
          go_loopw [11] (fun t wq => ∃ i : Nat, t = .int .i64 i ∧ i ≤ n ∧ Hid (∃ v, RW w wq B pb rb ob n y m (.slice Aq lq cq) (n : Int) y (m : Int) v (tabN G n (k * n + i)) ∧ PIn wq B ob q Aq)) (fun t _ => n - (intOf t).toNat)
          case atStart => exact ⟨0, rfl, by omega, R0⟩
          case round =>
            clear R0 o0 o1 o2 o3 o4 p0 p1 p2 p3 p4 v
            obtain ⟨i, rfl, hi, hq⟩ := hrel
            obtain ⟨v, hT, hPI⟩ := hq.out
            obtain ⟨p0, p1, p2, p3, p4⟩ := hT.p.cells
            obtain ⟨o0, o1, o2, o3, o4⟩ := hT.o.cells
            by_cases hil : i < n
            · have din : decide ((i : Int) < (n : Int)) = true := decide_eq_true (by omega)
              have HT := Lib.hid (And.intro hT hPI)
              have hlen : k * n + i ≤ 1000000000 - 1 := by
                have h1 : (k + 1) * n ≤ m * n := Nat.mul_le_mul_right n (by omega)
                rw [Nat.add_mul, Nat.one_mul, Nat.mul_comm m n] at h1
                omega
              have HTN := Lib.hid (tabN_step (F := G) (k := k) hil)
              have HCC := Lib.hid (HC.out i k hil hlt)
              obtain ⟨z, hz⟩ : ∃ z, z = G i k := ⟨_, rfl⟩
              have HZ := Lib.hid hz
              have hpB := hT.pB
              have hoB := hT.oB
              have kx : IntKind.i64.wrap ((i : Int) - dx) = (i : Int) - dx := IntWalk.i64_in _ (by omega); have ky : IntKind.i64.wrap ((k : Int) - dy) = (k : Int) - dy := IntWalk.i64_in _ (by omega)
              clear hT hq hz hPI
              go_upto_region 13 with fail
              refine RP.region_treeP (C := fun w' => ∃ x : SubW B wr, w' = x.val) (fun _ _ _ => False) [0, 1, 2, 3, 4, 5, 6, 7, 8] (OT.seq [9, 10, 11, 12]) 13 (fun _ _ _ h => h.elim) (by kernel_rfl) (by kernel_rfl) (sub_start B wr) ?_
              simp only [pickL, List.getElem?_cons_zero, List.getElem?_cons_succ]
              repeat (go_big_quiet_step (fail))
              refine wpQuiet_nil ?_
              obtain ⟨w2, hw2⟩ : ∃ w2 : World, w2 = { wr with drawn := wr.drawn + 1 } := ⟨_, rfl⟩
              rw [← hw2]
              have hb2 : Below wr.heap.size wr w2 := by rw [hw2]; exact (Below.refl _ _).drew
              have hsz := HT.out.1.sz
              clear hw2
              simp only [RP.treeS, OT.seq, atOp, List.getElem?_cons_zero, List.getElem?_cons_succ]
              refine ⟨sub_of (hb2.mono hsz), ?_⟩
              skip
              refine RP.p_call 80 #[.agg #[.int .i64 n, .int .i64 y, .int .i64 m, .slice Aq lq cq], .int .i64 ((i : Int) - dx), .int .i64 ((k : Int) - dy)] rfl (by go_simp) ?_
              refine (HCC.out w2 ((HT.out.2.in hsz).below hb2)).mono ?_
              rintro e w3 ⟨rfl, hb3⟩
              have hb3' := hb2.trans (hb3.mono hb2.size)
              refine .inl ⟨_, rfl, ?_⟩
              rw [← HZ.out]
              refine ⟨sub_of (hb3'.mono hsz), ?_⟩
              refine RP.p_val (.slice (some ⟨w3.heap.size, 0, none⟩) 1 1) (w3.alloc (.cells #[.int .i64 z] 3)) rfl (by go_simp) ?_
              have hal := (Below.refl w3.heap.size w3).alloc (Nat.le_refl _) (.cells #[.int .i64 z] 3)
              have hb4 := hb3'.trans (hal.mono hb3'.size)
              obtain ⟨v', w5, r1, r2, r3, -⟩ := ap_i64 w3 22 B v _ z (OwnI.keep hb3' HT.out.1.own) (by rw [tabN_length]; omega) (Nat.le_trans hsz hb3'.size)
              obtain ⟨A5, n5, hv5, -⟩ := r2.isL
              obtain ⟨m5, hm5⟩ : ∃ m5, m5 = (tabN G n (k * n + i) ++ [z]).length := ⟨_, rfl⟩
              rw [← hm5] at hv5
              clear hm5
              subst hv5
              have hb5 := (hb3'.mono hsz).grown r3 (Nat.le_trans hsz hb3'.size) (fun g hg => (HT.out.1.own.lt' g hg).1)
              refine ⟨sub_of (hb4.mono hsz), ?_⟩
              refine RP.p_val (.slice A5 m5 n5) w5 rfl (ap_exec _ _ 22 rfl v (.slice (some ⟨w3.heap.size, 0, none⟩) 1 1) _ w5 rfl rfl r1) ?_
              refine ⟨sub_of hb5, ?_⟩
              refine RP.p_val (.pointer (some ⟨ob, 3, none⟩)) w5 rfl (by go_simp) ?_
              refine ⟨sub_of hb5, ?_⟩
              have z1 := (hb5.cell (p := ⟨ob, 3, none⟩) hoB).trans o3
              have z2 : w5.frozen? ⟨ob, 3, none⟩ = false := frozen_of_row w5 ob 3 _ _ ((hb5.block _ hoB).trans HT.out.1.o)
              have T6 := HT.out.1.step hb5 r2
              rw [HZ.out, ← HTN.out] at T6
              have HT6 := Lib.hid (And.intro T6 (HT.out.2.step hb5 (.slice A5 m5 n5)))
              refine RP.p_skip (w5.setCell ⟨ob, 3, none⟩ (.slice A5 m5 n5)) rfl (by go_simp) ?_
              obtain ⟨w6, hw6⟩ : ∃ w6, w6 = w5.setCell ⟨ob, 3, none⟩ (.slice A5 m5 n5) := ⟨_, rfl⟩
              rw [← hw6] at HT6 ⊢
              clear hw6 T6 z1 z2 hb5 r1 r2 r3 hb4 hal hb3' hb3 hb2 HT o0 o1 o2 o3 o4 p0 p1 p2 p3 p4 hpB hoB HCC
              go_simp
              go_wp2
              go_roundw
              case rel => exact ⟨i + 1, by go_num, by omega, Lib.hid ⟨_, HT6.out⟩⟩
              case measure => simp [intOf]; omega
            · obtain rfl : n = i := by omega
              have din : decide ((n : Int) < (n : Int)) = false := decide_eq_false (by omega)
              have R2 := Lib.hid (show ∃ v, RW w wr B pb rb ob n y m (.slice Aq lq cq) (n : Int) y (m : Int) v (tabN G n ((k + 1) * n)) ∧ PIn wr B ob q Aq from by rw [Nat.add_mul, Nat.one_mul]; exact ⟨v, hT, hPI⟩)
              clear hq hT hPI
              go_wp2
              go_roundw
              case rel => exact ⟨k + 1, by go_num, by omega, R2⟩
              case measure => simp [intOf]; omega
        · obtain rfl : m = k := by omega
          have dkm : decide ((m : Int) < (m : Int)) = false := decide_eq_false (by omega)
          have HTE := Lib.hid hT
          clear hr hT hPI hlt
          obtain ⟨A1, n1, rfl, hL1⟩ := HTE.out.own.isL
          obtain ⟨l1, hl1⟩ : ∃ l1, l1 = (tabN G n (m * n)).length := ⟨_, rfl⟩
          have HRE1 := Lib.hid (HRE.out A1 n1 wr hL1)
          rw [← hl1] at HTE HRE1 o3
          clear hL1 hl1
          go_wp2_with fail
          refine HRE1.out.mono ?_
          rintro e w5 ⟨v5, rfl, ho5, hb5⟩
          rw [← HTT.out] at ho5 ⊢
          obtain ⟨A5, n5, rfl, -⟩ := ho5.isL
          have hr5 := HTE.out.r.keep hb5
          have HP := Lib.hid (put_ret hr5 (HTE.out.below.trans (hb5.mono HTE.out.below.size)) HTE.out.wr' T _ ho5 HTE.out.below.size (Array.getElem?_eq_some_iff.1 HTE.out.r).1)
          obtain ⟨r0, r1, r2, r3, r4⟩ := PBox.cells hr5
          have f0 : (w5).frozen? ⟨rb, 0, none⟩ = false := frozen_of_row (w5) (rb) 0 _ _ hr5
          have f1 : (w5).frozen? ⟨rb, 1, none⟩ = false := frozen_of_row (w5) (rb) 1 _ _ hr5
          have f2 : (w5).frozen? ⟨rb, 2, none⟩ = false := frozen_of_row (w5) (rb) 2 _ _ hr5
          have f3 : (w5).frozen? ⟨rb, 3, none⟩ = false := frozen_of_row (w5) (rb) 3 _ _ hr5
          clear ho5 hb5 hr5 HRE1 HTE HRE o0 o1 o2 o3 o4 p0 p1 p2 p3 p4
          go_wp2
          refine bodyPost_ret (v := .tuple #[.agg #[.int .i64 T.a, .int .i64 T.b, .int .i64 T.c, .slice A5 T.xs.length n5], .int .i64 0]) (ret_pat2 rfl rfl rfl HP.out.1) rfl ?_
          exact ⟨_, rfl, HP.out.2⟩
  · have d1 : (E == 0) = false := by rw [beq_eq_false_iff_ne]; exact hz
    have d2 : (E != 0) = true := by rw [bne_iff_ne]; exact hz
    have hZ := HZU.out
    rw [if_pos hz] at hZ
    subst hZ
    have HT2 := Lib.hid (show T = zeroP by rw [HT.out, if_pos hz])
    have HP := Lib.hid (put_zero H1.out.2.1 H1.out.2.2 (by omega))
    obtain ⟨r0, r1, r2, r3, r4⟩ := PBox.cells H1.out.2.1
    have f0 : (w1).frozen? ⟨w.heap.size + 1, 0, none⟩ = false := frozen_of_row (w1) (w.heap.size + 1) 0 _ _ H1.out.2.1
    have f1 : (w1).frozen? ⟨w.heap.size + 1, 1, none⟩ = false := frozen_of_row (w1) (w.heap.size + 1) 1 _ _ H1.out.2.1
    have f2 : (w1).frozen? ⟨w.heap.size + 1, 2, none⟩ = false := frozen_of_row (w1) (w.heap.size + 1) 2 _ _ H1.out.2.1
    have f3 : (w1).frozen? ⟨w.heap.size + 1, 3, none⟩ = false := frozen_of_row (w1) (w.heap.size + 1) 3 _ _ H1.out.2.1
    clear hz HT HE H1 HZ HZU
    go_wp2
    refine bodyPost_ret (v := .tuple #[.agg #[.int .i64 0, .int .i64 0, .int .i64 0, .slice none 0 0], .int .i64 Z]) (ret_pat2 rfl rfl rfl HP.out.1) rfl ?_
    rw [HT2.out]
    exact OutP.zero HP.out.2
end Go.Proofs.YtlinldbbhdpgcaaGreatDoor
/-
  THE REFERENCE: inLattice; Turn, Mirror.
-/
namespace Go.Proofs.YtlinldbbhdpgcaaGreatDoor
open Go.RowKit
attribute [local go_sem] sub_cell sub_frozen
attribute [local irreducible] RP.plainUpon RP.stepC
/-- The same, where the new box was laid in other words. -/
theorem RW.new2 {w w1 W : World} {pb rb : Nat} {a b c : Int} {s : Value} (hp : PBox w1 pb a b c s) (hr : PBox w1 rb 0 0 0 (.slice none 0 0)) (hb : Below w.heap.size w w1) (hrw : w.heap.size ≤ rb) {x y z : Int} (hbn : Below w1.heap.size w1 W) (ho : PBox W w1.heap.size x y z (.slice none 0 0)) :
    RW w W (w1.heap.size + 1) pb rb w1.heap.size a b c s x y z (.slice none 0 0) [] := by
  have h1 := (Array.getElem?_eq_some_iff.1 hp).1
  have h2 := (Array.getElem?_eq_some_iff.1 hr).1
  have h3 := (Array.getElem?_eq_some_iff.1 ho).1
  exact ⟨hp.keep hbn, hr.keep hbn, ho, OwnI.nil _ _, hb.trans (hbn.mono hb.size), by omega, by omega, by omega, by omega, by omega, hb.size, hrw, by omega, by have := hb.size; omega⟩
theorem tmod_zero_iff {n d : Int} : n.tmod d = 0 ↔ n % d = 0 := by
  rw [← Int.dvd_iff_tmod_eq_zero, Int.dvd_iff_emod_eq_zero]
theorem tdiv_exact {n d : Int} (h : n % d = 0) : n.tdiv d = n / d := Int.tdiv_eq_ediv_of_dvd (Int.dvd_of_emod_eq_zero h)
set_option maxRecDepth 100000 in
set_option maxHeartbeats 1000000 in
theorem rlat_any (a b c : Int) (s : Value) (dx dy : Int) (a0 : 0 < a) (a1 : a ≤ 100000) (b0 : 0 ≤ b) (b1 : b ≤ 100000) (c0 : 0 < c) (c1 : c ≤ 10000000) (x0 : -1000000000 ≤ dx) (x1 : dx ≤ 1000000000) (y0 : -1000000000 ≤ dy) (y1 : dy ≤ 1000000000) (w : World) :
    Calls Tryz.prog 81 #[.agg #[.int .i64 a, .int .i64 b, .int .i64 c, s], .int .i64 dx, .int .i64 dy] w fun e w' => e = .returned (.bool (decide (Lat a b c dx dy))) ∧ Below w.heap.size w w' := by
  obtain ⟨r, hr⟩ : ∃ r, r = decide (Lat a b c dx dy) := ⟨_, rfl⟩
  rw [← hr]
  by_cases hm : dy % c = 0
  · have t0 : dy.tmod c = 0 := tmod_zero_iff.2 hm
    have t1 : (dy.tmod c == 0) = true := by rw [t0]; rfl
    obtain ⟨q, hq⟩ : ∃ q, q = dy / c := ⟨_, rfl⟩
    have t2 : dy.tdiv c = q := by rw [hq]; exact tdiv_exact hm
    have hqb := ediv_bd c0 (B := 1000000000) y0 y1
    rw [← hq] at hqb
    have hb := pmul_bd hqb.1 hqb.2 b0 b1
    obtain ⟨v, hv⟩ : ∃ v, v = q * b := ⟨_, rfl⟩
    rw [← hv] at hb
    have k0 : IntKind.i64.wrap q = q := IntWalk.i64_in _ (by omega)
    have k1 : IntKind.i64.wrap (q * b) = v := by rw [hv]; exact IntWalk.i64_in _ (by omega)
    have k2 : IntKind.i64.wrap (dx - v) = dx - v := IntWalk.i64_in _ (by omega)
    have HM := Lib.hid (modulo_any (dx - v) a a0 (by omega))
    have hrr : r = ((dx - v) % a == 0) := by
      rw [hr]
      by_cases h : (dx - v) % a = 0
      · rw [h, decide_eq_true (show Lat a b c dx dy from ⟨hm, by rw [← hq, ← hv]; exact h⟩)]; rfl
      · rw [decide_eq_false (show ¬ Lat a b c dx dy from fun hl => h (by rw [hv, hq]; exact hl.2)), beq_eq_false_iff_ne.2 h]
    have HR := Lib.hid hrr
    have hcz : (c == 0) = false := by rw [beq_eq_false_iff_ne]; omega
    clear hr hm hq hv hrr
    go_enter Tryz.func81, Tryz.ntmps81
    go_upto_region 1 with fail
    go_quiet ((go_at_call 76; exact Calls.quiet_of_same ((HM.out _).mono fun _ _ h => ⟨h.1, h.2.symm⟩)))
    go_wp2
    go_ret
    exact ⟨by rw [HR.out]; rfl, below_drewN (below_new _ _) _⟩
  · have t1 : (dy.tmod c == 0) = false := by rw [beq_eq_false_iff_ne]; exact fun h => hm (tmod_zero_iff.1 h)
    have HR := Lib.hid (show r = false by rw [hr, decide_eq_false (fun h => hm h.1)])
    have hcz : (c == 0) = false := by rw [beq_eq_false_iff_ne]; omega
    clear hr hm
    go_enter Tryz.func81, Tryz.ntmps81
    go_upto_region 1 with fail
    go_quiet (fail)
    go_wp2
    go_ret
    exact ⟨by rw [HR.out]; rfl, below_drewN (below_new _ _) _⟩
set_option maxRecDepth 100000 in
set_option maxHeartbeats 2000000 in
theorem rmirror_any (p : PatD) (hl : p.xs.length ≤ 1000000) (A : Option Addr) (cap : Nat) (w : World) (hi : PatIn w p A) :
    Calls Tryz.prog 53 #[.agg #[.int .i64 p.a, .int .i64 p.b, .int .i64 p.c, .slice A p.xs.length cap]] w (OutP w (mirT p) (.int .i64 (valP p))) := by
  obtain ⟨T, hT⟩ : ∃ T, T = mirT p := ⟨_, rfl⟩
  obtain ⟨E, hE⟩ : ∃ E, E = valP p := ⟨_, rfl⟩
  rw [← hT, ← hE]
  unfold mirT at hT
  rw [← hE] at hT
  have HV := Lib.hid (fun w hi => rvalidateP_any p hl E hE.symm A cap w hi)
  have HT := Lib.hid hT
  have HE := Lib.hid hE
  have HI := Lib.hid hi
  clear hi hT hE
  obtain ⟨lq, hlq⟩ : ∃ lq, lq = p.xs.length := ⟨_, rfl⟩
  have HLQ := Lib.hid hlq
  rw [← hlq] at HV ⊢
  clear hlq
  obtain ⟨q, hq⟩ : ∃ q, q = p := ⟨_, rfl⟩
  obtain ⟨a, b, c, xs⟩ := p
  simp only at HV HLQ hl ⊢
  rw [← hq] at HV HI HT HE
  have HQ := Lib.hid hq
  clear hq
  go_enter Tryz.func53, Tryz.ntmps53
  go_wp2_with fail
  obtain ⟨a0, a1, a2, a3⟩ := al2 w (.cells #[.int .i64 a, .int .i64 b, .int .i64 c, .slice A lq cap] 24) (.cells #[.int .i64 0, .int .i64 0, .int .i64 0, .slice none 0 0] 24)
  obtain ⟨V, hV⟩ : ∃ V, V = (w.alloc (.cells #[.int .i64 a, .int .i64 b, .int .i64 c, .slice A lq cap] 24)).alloc (.cells #[.int .i64 0, .int .i64 0, .int .i64 0, .slice none 0 0] 24) := ⟨_, rfl⟩
  rw [← hV] at a0 a1 a2 a3 ⊢
  refine (HV.out V (HI.out.below a3)).mono ?_
  rintro e w1 ⟨rfl, hb1⟩
  have H1 := Lib.hid (show PBox w1 w.heap.size a b c (.slice A lq cap) ∧ PBox w1 (w.heap.size + 1) 0 0 0 (.slice none 0 0) ∧ Below w.heap.size w w1 from
    ⟨PBox.keep (w := V) a1 hb1, PBox.keep (w := V) a2 hb1, a3.trans (hb1.mono a3.size)⟩)
  clear hV a0 a1 a2 a3 HV hb1 V
  by_cases hz : E = 0
  · subst hz
    have hT := HT.out
    rw [if_neg (by simp)] at hT
    have hv : valP q = 0 := HE.out.symm
    have hg := valP_zero hv
    have hqa : q.a = a := by rw [HQ.out]
    have hqb : q.b = b := by rw [HQ.out]
    have hqc : q.c = c := by rw [HQ.out]
    have hqx : q.xs = xs := by rw [HQ.out]
    obtain ⟨n, hn⟩ : ∃ n : Nat, a = n := ⟨a.toNat, by have := hg.a0; omega⟩
    obtain ⟨m, hm⟩ : ∃ m : Nat, c = m := ⟨c.toNat, by have := hg.c0; omega⟩
    subst hn
    subst hm
    have hn0 : 0 < n := by have := hg.a0; omega
    have hn144 : n ≤ 144 := by have := hg.a1; omega
    have hm144 : m ≤ 144 := by have := hg.c1; omega
    have hnm : n * m ≤ 144 := by
      have := hg.ac
      rw [hqa, hqc, ← Int.natCast_mul] at this
      omega
    obtain ⟨y, hy⟩ : ∃ y, y = (-b) % (n : Int) := ⟨_, rfl⟩
    have hy0 : 0 ≤ y := by rw [hy]; exact Int.emod_nonneg _ (by omega)
    have hy1 : y < n := by rw [hy]; exact Int.emod_lt_of_pos _ (by omega)
    obtain ⟨G, hG⟩ : ∃ G, G = mirF (colF q) := ⟨_, rfl⟩
    have hbase : Base G n y m := by rw [hG, hy, ← hqa, ← hqb, ← hqc]; exact (lst_pat hv).mir
    rw [← hG] at hT
    have kb : IntKind.i64.wrap (-b) = -b := IntWalk.i64_in _ (by have := hg.b0; have := hg.b1; omega)
    have HMO := Lib.hid (modulo_any (-b) n (by omega) (by omega))
    rw [← hy] at HMO
    have HC := Lib.hid (fun (i k : Nat) (hi : i < n) (hk : k < m) w2 (hp2 : PatIn w2 q A) => (show Calls Tryz.prog 80 #[.agg #[.int .i64 n, .int .i64 b, .int .i64 m, .slice A lq cap], .int .i64 (-(i : Int)), .int .i64 (k : Int)] w2 fun e w3 => e = .returned (.int .i64 (G i k)) ∧ Below w2.heap.size w2 w3 from by
      have := rcolor_any q hg.ok.wide A lq cap (-(i : Int)) k (by omega) (by omega) (by omega) (by omega) w2 (by rw [HLQ.out, ← hqx]; exact hp2)
      rw [hqa, hqb, hqc] at this
      rw [hG]; exact this))
    have HRE := Lib.hid (fun Ax cx wx hx => rleast_tab G n m y hbase (by omega) (by omega) (by omega) (by omega) (by omega) Ax cx wx hx)
    have HTT := Lib.hid hT
    clear hT hv hg hG hbase HT HE hqa hqb hqc hqx hy
    obtain ⟨q0, q1, q2, q3, q4⟩ := H1.out.1.cells
    have hq5 : w.heap.size < w1.heap.size := q4
    go_upto_region 4 with fail
    go_cut [5] (fun t wx => t = .pointer (some ⟨w1.heap.size, 0, none⟩) ∧ Hid (RW w wx (w1.heap.size + 1) w.heap.size (w.heap.size + 1) w1.heap.size n b m (.slice A lq cap) n y m (.slice none 0 0) [] ∧ PIn wx (w1.heap.size + 1) w1.heap.size q A))
    case first =>
      refine RP.region_treeP (C := fun w' => ∃ x : SubW w1.heap.size w1, w' = x.val) (fun _ _ _ => False) [0, 1, 2, 3, 5, 6, 8, 9] (.read 4 (.two 7 (.read 10 (.one 11 .nil)) 11 (.one 7 (.read 10 .nil)))) 12 (fun _ _ _ h => h.elim) (by kernel_rfl) (by kernel_rfl) (sub_start _ w1) ?_
      simp only [pickL, List.getElem?_cons_zero, List.getElem?_cons_succ]
      repeat (go_big_quiet_step (fail))
      refine wpQuiet_nil ?_
      obtain ⟨w5, hw5⟩ : ∃ w5 : World, w5 = { w1 with drawn := w1.drawn + 1 } := ⟨_, rfl⟩
      have hb5 : Below w1.heap.size w1 w5 := by rw [hw5]; exact (Below.refl _ _).drew
      have hs5 : w5.heap.size = w1.heap.size := by rw [hw5]
      rw [← hw5]
      clear q0 q1 q2 q3 q4 hw5
      have hbx : PBox (w5.alloc (.cells #[.int .i64 0, .int .i64 0, .int .i64 0, .slice none 0 0] 24)) w5.heap.size 0 0 0 (.slice none 0 0) := PBox.new w5 _ _ _ _
      have hba := (Below.refl w5.heap.size w5).alloc (Nat.le_refl _) (.cells #[.int .i64 0, .int .i64 0, .int .i64 0, .slice none 0 0] 24)
      obtain ⟨w6, hw6⟩ : ∃ w6, w6 = w5.alloc (.cells #[.int .i64 0, .int .i64 0, .int .i64 0, .slice none 0 0] 24) := ⟨_, rfl⟩
      have hrow := hbx.row n y m (.slice none 0 0)
      rw [← hw6] at hbx hba hrow
      have hbr : Below w5.heap.size w5 (w6.setRow w5.heap.size #[.int .i64 n, .int .i64 y, .int .i64 m, .slice none 0 0]) := hba.grown (row_grown w6 _ _) hba.size (fun g e => by cases e; omega)
      have hRW := RW.new2 (w := w) (w1 := w5) (H1.out.1.keep hb5) (H1.out.2.1.keep hb5) (H1.out.2.2.trans (hb5.mono H1.out.2.2.size)) (by omega) hbr hrow
      have hPI : PIn (w6.setRow w5.heap.size #[.int .i64 n, .int .i64 y, .int .i64 m, .slice none 0 0]) (w1.heap.size + 1) w1.heap.size q A :=
        PIn.from HI.out ((H1.out.2.2.trans (hb5.mono H1.out.2.2.size)).trans (hbr.mono (by rw [hs5]; exact H1.out.2.2.size))) (by have := H1.out.2.2.size; omega) H1.out.2.2.size
      rw [hs5] at hRW hbx hPI
      have HF := Lib.hid (And.intro hRW hPI)
      have hw1 : w1.heap.size ≤ w5.heap.size := by omega
      have hC5 : ∃ x : SubW w1.heap.size w1, w5 = x.val := sub_of hb5
      have hC6 : ∃ x : SubW w1.heap.size w1, w6 = x.val := sub_of (hb5.trans (hba.mono hw1))
      clear hRW hPI hrow
      simp only [RP.treeS, atOp, List.getElem?_cons_zero, List.getElem?_cons_succ]
      refine ⟨hC5, ?_⟩
      refine ⟨_, s_read (.int .i64 (-b)) rfl (fun w _ => by go_simp), hC5, ?_, ?_⟩
      · refine RP.p_call 76 #[.int .i64 (-b), .int .i64 n] rfl (by go_simp) ?_
        refine (HMO.out w5).mono ?_
        rintro e w7 ⟨rfl, rfl⟩
        refine .inl ⟨_, rfl, hC5, ?_⟩
        refine ⟨_, s_read (.agg #[.int .i64 n, .int .i64 y, .int .i64 m, .slice none 0 0]) rfl (fun w _ => by go_simp), hC5, ?_⟩
        refine RP.p_val (.pointer (some ⟨w1.heap.size, 0, none⟩)) w6 rfl (by rw [hw6]; go_simp) ?_
        refine ⟨hC6, ?_⟩
        refine RP.p_skip (w6.setRow w5.heap.size #[.int .i64 n, .int .i64 y, .int .i64 m, .slice none 0 0]) rfl (by rw [hs5]; exact st_pat_run (.tmp 5) (.tmp 24) rfl hbx n y m none 0 0 (by go_simp) (by go_simp)) ?_
        rw [hs5]
        clear hw6 hbx hba hbr hC5 hC6
        go_simp
        go_wp2_with fail
        go_meet
        exact ⟨rfl, HF⟩
      · refine RP.p_val (.pointer (some ⟨w1.heap.size, 0, none⟩)) w6 rfl (by rw [hw6]; go_simp) ?_
        refine ⟨hC6, ?_⟩
        refine RP.p_call 76 #[.int .i64 (-b), .int .i64 n] rfl (by go_simp) ?_
        refine (HMO.out w6).mono ?_
        rintro e w7 ⟨rfl, rfl⟩
        refine .inl ⟨_, rfl, hC6, ?_⟩
        refine ⟨_, s_read (.agg #[.int .i64 n, .int .i64 y, .int .i64 m, .slice none 0 0]) rfl (fun w _ => by go_simp), hC6, ?_⟩
        refine RP.p_skip (w6.setRow w5.heap.size #[.int .i64 n, .int .i64 y, .int .i64 m, .slice none 0 0]) rfl (by rw [hs5]; exact st_pat_run (.tmp 5) (.tmp 24) rfl hbx n y m none 0 0 (by go_simp) (by go_simp)) ?_
        rw [hs5]
        clear hw6 hbx hba hbr hC5 hC6
        go_simp
        go_wp2_with fail
        go_meet
        exact ⟨rfl, HF⟩
    case rest =>
      obtain ⟨rfl, HS⟩ := hcut
      clear q0 q1 q2 q3 q4 H1
      obtain ⟨ob, hob⟩ : ∃ ob, ob = w1.heap.size := ⟨_, rfl⟩
      obtain ⟨B, hB⟩ : ∃ B, B = ob + 1 := ⟨_, rfl⟩
      obtain ⟨pb, hpb⟩ : ∃ pb, pb = w.heap.size := ⟨_, rfl⟩
      obtain ⟨rb, hrb⟩ : ∃ rb, rb = w.heap.size + 1 := ⟨_, rfl⟩
      have hS : RW w wc B pb rb ob n b m (.slice A lq cap) n y m (.slice none 0 0) [] ∧ PIn wc B ob q A := by rw [hpb, hrb, hB, hob]; exact HS.out
      have R3 := Lib.hid (show ∃ v, RW w wc B pb rb ob n b m (.slice A lq cap) (n : Int) y (m : Int) v (tabN G n (0 * n)) ∧ PIn wc B ob q A from ⟨_, by rw [Nat.zero_mul]; exact hS.1, hS.2⟩)
      rw [← hob, ← hrb, ← hpb]
      clear HS hS hob hB hpb hrb hq5
      obtain ⟨Aq, hAq⟩ : ∃ Aq, Aq = A := ⟨_, rfl⟩
      obtain ⟨cq, hcq⟩ : ∃ cq, cq = cap := ⟨_, rfl⟩
      subst hAq
      subst hcq
      go_wp2
      go_loopw [6] (fun t wr => ∃ k : Nat, t = .int .i64 k ∧ k ≤ m ∧ Hid (∃ v, RW w wr B pb rb ob n b m (.slice Aq lq cq) (n : Int) y (m : Int) v (tabN G n (k * n)) ∧ PIn wr B ob q Aq)) (fun t _ => m - (intOf t).toNat)
      case atStart => exact ⟨0, rfl, by omega, R3⟩
      case round =>
        clear R3
        obtain ⟨k, rfl, hk, hr⟩ := hrel
        obtain ⟨v, hT, hPI⟩ := hr.out
        obtain ⟨o0, o1, o2, o3, o4⟩ := hT.o.cells
        obtain ⟨p0, p1, p2, p3, p4⟩ := hT.p.cells
        by_cases hlt : k < m
        · have dkm : decide ((k : Int) < (m : Int)) = true := decide_eq_true (by omega)
          have R0 := Lib.hid (show ∃ v, RW w wr B pb rb ob n b m (.slice Aq lq cq) (n : Int) y (m : Int) v (tabN G n (k * n + 0)) ∧ PIn wr B ob q Aq from ⟨v, hT, hPI⟩)
          clear hr hT hPI
          go_wp2
          go_loopw [7] (fun t wq => ∃ i : Nat, t = .int .i64 i ∧ i ≤ n ∧ Hid (∃ v, RW w wq B pb rb ob n b m (.slice Aq lq cq) (n : Int) y (m : Int) v (tabN G n (k * n + i)) ∧ PIn wq B ob q Aq)) (fun t _ => n - (intOf t).toNat)
          case atStart => exact ⟨0, rfl, by omega, R0⟩
          case round =>
            clear R0 o0 o1 o2 o3 o4 p0 p1 p2 p3 p4 v
            obtain ⟨i, rfl, hi, hq⟩ := hrel
            obtain ⟨v, hT, hPI⟩ := hq.out
            obtain ⟨p0, p1, p2, p3, p4⟩ := hT.p.cells
            obtain ⟨o0, o1, o2, o3, o4⟩ := hT.o.cells
            by_cases hil : i < n
            · have din : decide ((i : Int) < (n : Int)) = true := decide_eq_true (by omega)
              have HT := Lib.hid (And.intro hT hPI)
              have hlen : k * n + i ≤ 1000000000 - 1 := by
                have h1 : (k + 1) * n ≤ m * n := Nat.mul_le_mul_right n (by omega)
                rw [Nat.add_mul, Nat.one_mul, Nat.mul_comm m n] at h1
                omega
              have HTN := Lib.hid (tabN_step (F := G) (k := k) hil)
              have HCC := Lib.hid (HC.out i k hil hlt)
              obtain ⟨z, hz⟩ : ∃ z, z = G i k := ⟨_, rfl⟩
              have HZ := Lib.hid hz
              have hpB := hT.pB
              have hoB := hT.oB
              have kx : IntKind.i64.wrap (-(i : Int)) = -(i : Int) := IntWalk.i64_in _ (by omega)
              clear hT hq hz hPI
              go_upto_region 11 with fail
              refine RP.region_treeP (C := fun w' => ∃ x : SubW B wr, w' = x.val) (fun _ _ _ => False) [0, 1, 2, 3, 5] (OT.seq [4, 6, 7, 8, 9]) 10 (fun _ _ _ h => h.elim) (by kernel_rfl) (by kernel_rfl) (sub_start B wr) ?_
              simp only [pickL, List.getElem?_cons_zero, List.getElem?_cons_succ]
              repeat (go_big_quiet_step (fail))
              refine wpQuiet_nil ?_
              obtain ⟨w2, hw2⟩ : ∃ w2 : World, w2 = { wr with drawn := wr.drawn + 1 } := ⟨_, rfl⟩
              rw [← hw2]
              have hb2 : Below wr.heap.size wr w2 := by rw [hw2]; exact (Below.refl _ _).drew
              have hsz := HT.out.1.sz
              clear hw2
              simp only [RP.treeS, OT.seq, atOp, List.getElem?_cons_zero, List.getElem?_cons_succ]
              refine ⟨sub_of (hb2.mono hsz), ?_⟩
              refine RP.p_val (.int .i64 (-(i : Int))) w2 rfl (by go_simp) ?_; refine ⟨sub_of (hb2.mono hsz), ?_⟩
              refine RP.p_call 80 #[.agg #[.int .i64 n, .int .i64 b, .int .i64 m, .slice Aq lq cq], .int .i64 (-(i : Int)), .int .i64 (k : Int)] rfl (by go_simp) ?_
              refine (HCC.out w2 ((HT.out.2.in hsz).below hb2)).mono ?_
              rintro e w3 ⟨rfl, hb3⟩
              have hb3' := hb2.trans (hb3.mono hb2.size)
              refine .inl ⟨_, rfl, ?_⟩
              rw [← HZ.out]
              refine ⟨sub_of (hb3'.mono hsz), ?_⟩
              refine RP.p_val (.slice (some ⟨w3.heap.size, 0, none⟩) 1 1) (w3.alloc (.cells #[.int .i64 z] 3)) rfl (by go_simp) ?_
              have hal := (Below.refl w3.heap.size w3).alloc (Nat.le_refl _) (.cells #[.int .i64 z] 3)
              have hb4 := hb3'.trans (hal.mono hb3'.size)
              obtain ⟨v', w5, r1, r2, r3, -⟩ := ap_i64 w3 22 B v _ z (OwnI.keep hb3' HT.out.1.own) (by rw [tabN_length]; omega) (Nat.le_trans hsz hb3'.size)
              obtain ⟨A5, n5, hv5, -⟩ := r2.isL
              obtain ⟨m5, hm5⟩ : ∃ m5, m5 = (tabN G n (k * n + i) ++ [z]).length := ⟨_, rfl⟩
              rw [← hm5] at hv5
              clear hm5
              subst hv5
              have hb5 := (hb3'.mono hsz).grown r3 (Nat.le_trans hsz hb3'.size) (fun g hg => (HT.out.1.own.lt' g hg).1)
              refine ⟨sub_of (hb4.mono hsz), ?_⟩
              refine RP.p_val (.slice A5 m5 n5) w5 rfl (ap_exec _ _ 22 rfl v (.slice (some ⟨w3.heap.size, 0, none⟩) 1 1) _ w5 rfl rfl r1) ?_
              refine ⟨sub_of hb5, ?_⟩
              refine RP.p_val (.pointer (some ⟨ob, 3, none⟩)) w5 rfl (by go_simp) ?_
              refine ⟨sub_of hb5, ?_⟩
              have z1 := (hb5.cell (p := ⟨ob, 3, none⟩) hoB).trans o3
              have z2 : w5.frozen? ⟨ob, 3, none⟩ = false := frozen_of_row w5 ob 3 _ _ ((hb5.block _ hoB).trans HT.out.1.o)
              have T6 := HT.out.1.step hb5 r2
              rw [HZ.out, ← HTN.out] at T6
              have HT6 := Lib.hid (And.intro T6 (HT.out.2.step hb5 (.slice A5 m5 n5)))
              refine RP.p_skip (w5.setCell ⟨ob, 3, none⟩ (.slice A5 m5 n5)) rfl (by go_simp) ?_
              obtain ⟨w6, hw6⟩ : ∃ w6, w6 = w5.setCell ⟨ob, 3, none⟩ (.slice A5 m5 n5) := ⟨_, rfl⟩
              rw [← hw6] at HT6 ⊢
              clear hw6 T6 z1 z2 hb5 r1 r2 r3 hb4 hal hb3' hb3 hb2 HT o0 o1 o2 o3 o4 p0 p1 p2 p3 p4 hpB hoB HCC
              go_simp
              go_wp2
              go_roundw
              case rel => exact ⟨i + 1, by go_num, by omega, Lib.hid ⟨_, HT6.out⟩⟩
              case measure => simp [intOf]; omega
            · obtain rfl : n = i := by omega
              have din : decide ((n : Int) < (n : Int)) = false := decide_eq_false (by omega)
              have R2 := Lib.hid (show ∃ v, RW w wr B pb rb ob n b m (.slice Aq lq cq) (n : Int) y (m : Int) v (tabN G n ((k + 1) * n)) ∧ PIn wr B ob q Aq from by rw [Nat.add_mul, Nat.one_mul]; exact ⟨v, hT, hPI⟩)
              clear hq hT hPI
              go_wp2
              go_roundw
              case rel => exact ⟨k + 1, by go_num, by omega, R2⟩
              case measure => simp [intOf]; omega
        · obtain rfl : m = k := by omega
          have dkm : decide ((m : Int) < (m : Int)) = false := decide_eq_false (by omega)
          have HTE := Lib.hid hT
          clear hr hT hPI hlt
          obtain ⟨A1, n1, rfl, hL1⟩ := HTE.out.own.isL
          obtain ⟨l1, hl1⟩ : ∃ l1, l1 = (tabN G n (m * n)).length := ⟨_, rfl⟩
          have HRE1 := Lib.hid (HRE.out A1 n1 wr hL1)
          rw [← hl1] at HTE HRE1 o3
          clear hL1 hl1
          go_wp2_with fail
          refine HRE1.out.mono ?_
          rintro e w5 ⟨v5, rfl, ho5, hb5⟩
          rw [← HTT.out] at ho5 ⊢
          obtain ⟨A5, n5, rfl, -⟩ := ho5.isL
          have hr5 := HTE.out.r.keep hb5
          have HP := Lib.hid (put_ret hr5 (HTE.out.below.trans (hb5.mono HTE.out.below.size)) HTE.out.wr' T _ ho5 HTE.out.below.size (Array.getElem?_eq_some_iff.1 HTE.out.r).1)
          obtain ⟨r0, r1, r2, r3, r4⟩ := PBox.cells hr5
          have f0 : (w5).frozen? ⟨rb, 0, none⟩ = false := frozen_of_row (w5) (rb) 0 _ _ hr5
          have f1 : (w5).frozen? ⟨rb, 1, none⟩ = false := frozen_of_row (w5) (rb) 1 _ _ hr5
          have f2 : (w5).frozen? ⟨rb, 2, none⟩ = false := frozen_of_row (w5) (rb) 2 _ _ hr5
          have f3 : (w5).frozen? ⟨rb, 3, none⟩ = false := frozen_of_row (w5) (rb) 3 _ _ hr5
          clear ho5 hb5 hr5 HRE1 HTE HRE o0 o1 o2 o3 o4 p0 p1 p2 p3 p4
          go_wp2
          refine bodyPost_ret (v := .tuple #[.agg #[.int .i64 T.a, .int .i64 T.b, .int .i64 T.c, .slice A5 T.xs.length n5], .int .i64 0]) (ret_pat2 rfl rfl rfl HP.out.1) rfl ?_
          exact ⟨_, rfl, HP.out.2⟩
  · have d1 : (E == 0) = false := by rw [beq_eq_false_iff_ne]; exact hz
    have d2 : (E != 0) = true := by rw [bne_iff_ne]; exact hz
    have HT2 := Lib.hid (show T = zeroP by rw [HT.out, if_pos hz])
    have HP := Lib.hid (put_zero H1.out.2.1 H1.out.2.2 (by omega))
    obtain ⟨r0, r1, r2, r3, r4⟩ := PBox.cells H1.out.2.1
    have f0 : (w1).frozen? ⟨w.heap.size + 1, 0, none⟩ = false := frozen_of_row (w1) (w.heap.size + 1) 0 _ _ H1.out.2.1
    have f1 : (w1).frozen? ⟨w.heap.size + 1, 1, none⟩ = false := frozen_of_row (w1) (w.heap.size + 1) 1 _ _ H1.out.2.1
    have f2 : (w1).frozen? ⟨w.heap.size + 1, 2, none⟩ = false := frozen_of_row (w1) (w.heap.size + 1) 2 _ _ H1.out.2.1
    have f3 : (w1).frozen? ⟨w.heap.size + 1, 3, none⟩ = false := frozen_of_row (w1) (w.heap.size + 1) 3 _ _ H1.out.2.1
    clear hz HT HE H1
    go_wp2
    refine bodyPost_ret (v := .tuple #[.agg #[.int .i64 0, .int .i64 0, .int .i64 0, .slice none 0 0], .int .i64 E]) (ret_pat2 rfl rfl rfl HP.out.1) rfl ?_
    rw [HT2.out]
    exact OutP.zero HP.out.2
end Go.Proofs.YtlinldbbhdpgcaaGreatDoor
/-
  THE REFERENCE: Turn.
-/
namespace Go.Proofs.YtlinldbbhdpgcaaGreatDoor
open Go.RowKit
attribute [local go_sem] sub_cell sub_frozen
attribute [local irreducible] RP.plainUpon RP.stepC
theorem PIn.set {w : World} {B ob : Nat} {q : PatD} {A : Option Addr} (h : PIn w B ob q A) (i : Nat) (u : Value) : PIn (w.setCell ⟨ob, i, none⟩ u) B ob q A := fun hp => by
  obtain ⟨b, o, rfl, h1, h2, h3⟩ := h hp
  exact ⟨b, o, rfl, h1, h2, fun j hj => (World.cell?_of_block (a := ⟨b, _, none⟩) (Below.heap_setCell w ⟨ob, i, none⟩ u b h2)).trans (h3 j hj)⟩
set_option maxRecDepth 100000 in
set_option maxHeartbeats 2000000 in
theorem rturn_any (p : PatD) (hl : p.xs.length ≤ 1000000) (A : Option Addr) (cap : Nat) (w : World) (hi : PatIn w p A) :
    Calls Tryz.prog 52 #[.agg #[.int .i64 p.a, .int .i64 p.b, .int .i64 p.c, .slice A p.xs.length cap]] w (OutP w (turnT p) (.int .i64 (valP p))) := by
  obtain ⟨T, hT⟩ : ∃ T, T = turnT p := ⟨_, rfl⟩
  obtain ⟨E, hE⟩ : ∃ E, E = valP p := ⟨_, rfl⟩
  rw [← hT, ← hE]
  unfold turnT at hT
  rw [← hE] at hT
  have HV := Lib.hid (fun w hi => rvalidateP_any p hl E hE.symm A cap w hi)
  have HT := Lib.hid hT
  have HE := Lib.hid hE
  have HI := Lib.hid hi
  clear hi hT hE
  obtain ⟨lq, hlq⟩ : ∃ lq, lq = p.xs.length := ⟨_, rfl⟩
  have HLQ := Lib.hid hlq
  rw [← hlq] at HV ⊢
  clear hlq
  obtain ⟨q, hq⟩ : ∃ q, q = p := ⟨_, rfl⟩
  obtain ⟨a, b, c, xs⟩ := p
  simp only at HV HLQ hl ⊢
  rw [← hq] at HV HI HT HE
  have HQ := Lib.hid hq
  clear hq
  go_enter Tryz.func52, Tryz.ntmps52
  go_wp2_with fail
  obtain ⟨a0, a1, a2, a3⟩ := al2 w (.cells #[.int .i64 a, .int .i64 b, .int .i64 c, .slice A lq cap] 24) (.cells #[.int .i64 0, .int .i64 0, .int .i64 0, .slice none 0 0] 24)
  obtain ⟨V, hV⟩ : ∃ V, V = (w.alloc (.cells #[.int .i64 a, .int .i64 b, .int .i64 c, .slice A lq cap] 24)).alloc (.cells #[.int .i64 0, .int .i64 0, .int .i64 0, .slice none 0 0] 24) := ⟨_, rfl⟩
  rw [← hV] at a0 a1 a2 a3 ⊢
  refine (HV.out V (HI.out.below a3)).mono ?_
  rintro e w1 ⟨rfl, hb1⟩
  have H1 := Lib.hid (show PBox w1 w.heap.size a b c (.slice A lq cap) ∧ PBox w1 (w.heap.size + 1) 0 0 0 (.slice none 0 0) ∧ Below w.heap.size w w1 from
    ⟨PBox.keep (w := V) a1 hb1, PBox.keep (w := V) a2 hb1, a3.trans (hb1.mono a3.size)⟩)
  clear hV a0 a1 a2 a3 HV hb1 V
  by_cases hz : E = 0
  · subst hz
    have hT := HT.out
    rw [if_neg (by simp)] at hT
    have hv : valP q = 0 := HE.out.symm
    have hg := valP_zero hv
    have hqa : q.a = a := by rw [HQ.out]
    have hqb : q.b = b := by rw [HQ.out]
    have hqc : q.c = c := by rw [HQ.out]
    have hqx : q.xs = xs := by rw [HQ.out]
    have ga0 := hg.a0
    have gb0 := hg.b0
    have gb1 := hg.b1
    have gc0 := hg.c0
    have ga1 := hg.a1
    have gc1 := hg.c1
    have gac := hg.ac
    rw [hqa] at ga0 ga1 gb1 gac
    rw [hqb] at gb0 gb1
    rw [hqc] at gc0 gc1 gac
    obtain ⟨At, Bt, Ct, ⟨h1, h2, h3, h4, h5, h6, h7⟩, h8, h9, h10, h11⟩ := turn_lat (b := b) ga0 gc0
    have hbase0 : Base (turnF (colF q)) At Bt Ct := by
      have := lst_pat hv
      rw [hqa, hqb, hqc] at this
      exact this.turn h1 h3 h8 h10
    have hAC : a * c = At * Ct := h5.symm
    have hdiv : (a * c).tdiv At = Ct := by rw [hAC, Int.mul_comm]; exact Int.mul_tdiv_cancel _ (by omega)
    obtain ⟨n, hn⟩ : ∃ n : Nat, At = n := ⟨At.toNat, by omega⟩
    obtain ⟨m, hm⟩ : ∃ m : Nat, Ct = m := ⟨Ct.toNat, by omega⟩
    subst hn
    subst hm
    have hn0 : 0 < n := by omega
    have hn144 : n ≤ 144 := by omega
    have hm144 : m ≤ 144 := by omega
    have hnm : n * m ≤ 144 := by
      rw [hAC, ← Int.natCast_mul] at gac
      omega
    obtain ⟨G, hG⟩ : ∃ G, G = turnF (colF q) := ⟨_, rfl⟩
    rw [← hG] at hT hbase0
    obtain ⟨ac, hac⟩ : ∃ ac, ac = a * c := ⟨_, rfl⟩
    have kac : IntKind.i64.wrap (a * c) = ac := by rw [hac]; exact IntWalk.i64_in _ (by have := Int.mul_nonneg (show 0 ≤ a by omega) (show 0 ≤ c by omega); omega)
    have kdv : ac.tdiv (n : Int) = (m : Int) := by rw [hac]; exact hdiv
    have kmm : IntKind.i64.wrap (m : Int) = (m : Int) := IntWalk.i64_in _ (by omega)
    have HLT := Lib.hid (fun dx dy (x0 : -1000000000 ≤ dx) (x1 : dx ≤ 1000000000) (y0 : -1000000000 ≤ dy) (y1 : dy ≤ 1000000000) wx => rlat_any a b c (.slice A lq cap) dx dy ga0 (by omega) gb0 (by omega) gc0 (by omega) x0 x1 y0 y1 wx)
    have HMIN := Lib.hid (And.intro h8 (And.intro h9 (And.intro h10 h11)))
    have HC := Lib.hid (fun (i k : Nat) (hi : i < n) (hk : k < m) w2 (hp2 : PatIn w2 q A) => (show Calls Tryz.prog 80 #[.agg #[.int .i64 a, .int .i64 b, .int .i64 c, .slice A lq cap], .int .i64 (k : Int), .int .i64 (-(i : Int))] w2 fun e w3 => e = .returned (.int .i64 (G i k)) ∧ Below w2.heap.size w2 w3 from by
      have := rcolor_any q hg.ok.wide A lq cap k (-(i : Int)) (by omega) (by omega) (by omega) (by omega) w2 (by rw [HLQ.out, ← hqx]; exact hp2)
      rw [hqa, hqb, hqc] at this
      rw [hG]; exact this))
    have HRE := Lib.hid (fun Ax cx wx hx => rleast_tab G n m Bt hbase0 (by omega) (by omega) (by omega) (by omega) (by omega) Ax cx wx hx)
    have HTT := Lib.hid hT
    clear hT hv hg hG hbase0 HT HE hqa hqb hqc hqx h8 h9 h10 h11 h5 hAC hdiv hac
    obtain ⟨q0, q1, q2, q3, q4⟩ := H1.out.1.cells
    go_wp2
    have R3a := RW.new (w := w) (w1 := w1) H1.out.1 H1.out.2.1 H1.out.2.2 (by omega) 1 0 1
    have hbw : Below w.heap.size w (w1.alloc (.cells #[.int .i64 1, .int .i64 0, .int .i64 1, .slice none 0 0] 24)) := H1.out.2.2.alloc H1.out.2.2.size _
    obtain ⟨W3, hW3⟩ : ∃ W3, W3 = w1.alloc (.cells #[.int .i64 1, .int .i64 0, .int .i64 1, .slice none 0 0] 24) := ⟨_, rfl⟩
    rw [← hW3] at R3a hbw ⊢
    have R3b : PIn W3 (w1.heap.size + 1) w1.heap.size q A := PIn.from HI.out hbw (by have := H1.out.2.2.size; omega) H1.out.2.2.size
    obtain ⟨ob, hob⟩ : ∃ ob, ob = w1.heap.size := ⟨_, rfl⟩
    obtain ⟨B, hB⟩ : ∃ B, B = ob + 1 := ⟨_, rfl⟩
    rw [← hob] at R3a R3b ⊢
    rw [← hB] at R3a R3b
    obtain ⟨pb, hpb⟩ : ∃ pb, pb = w.heap.size := ⟨_, rfl⟩
    obtain ⟨rb, hrb⟩ : ∃ rb, rb = w.heap.size + 1 := ⟨_, rfl⟩
    have R3c : RW w W3 B pb rb ob a b c (.slice A lq cap) 1 0 1 (.slice none 0 0) [] := by rw [hpb, hrb]; exact R3a
    have R0 := Lib.hid (And.intro R3c R3b)
    rw [← hrb, ← hpb]
    clear R3a R3b R3c hbw hW3 hob hB q0 q1 q2 q3 q4 H1 hpb hrb
    obtain ⟨Aq, hAq⟩ : ∃ Aq, Aq = A := ⟨_, rfl⟩
    obtain ⟨cq, hcq⟩ : ∃ cq, cq = cap := ⟨_, rfl⟩
    subst hAq
    subst hcq
    go_loopw [] (fun wr => ∃ x : Int, 1 ≤ x ∧ x ≤ (n : Int) ∧ Hid (RW w wr B pb rb ob a b c (.slice Aq lq cq) x 0 1 (.slice none 0 0) [] ∧ PIn wr B ob q Aq)) (fun wr => ((n : Int) - cellI wr ob 0).toNat)
    case atStart => exact ⟨1, by omega, by omega, R0⟩
    case round =>
      clear R0
      obtain ⟨x, hx1, hxn, hr⟩ := hrel
      have HMR := Lib.hid hr.out.1.x0.1
      obtain ⟨p0, p1, p2, p3, p4⟩ := hr.out.1.p.cells
      obtain ⟨o0, o1, o2, o3, o4⟩ := hr.out.1.o.cells
      have kx : IntKind.i64.wrap (-x) = -x := IntWalk.i64_in _ (by omega)
      go_wp2_with fail
      refine (HLT.out 0 (-x) (by omega) (by omega) (by omega) (by omega) wr).mono ?_
      rintro e w2 ⟨rfl, hb2⟩
      have R1 := Lib.hid (And.intro (hr.out.1.keep hb2) (hr.out.2.keep (hb2.mono hr.out.1.sz)))
      clear hr hb2 p0 p1 p2 p3 p4 o0 o1 o2 o3 o4
      obtain ⟨p0, p1, p2, p3, p4⟩ := R1.out.1.p.cells
      obtain ⟨o0, o1, o2, o3, o4⟩ := R1.out.1.o.cells
      by_cases hxe : x = (n : Int)
      · subst hxe
        rw [decide_eq_true HMIN.out.1]
        have f2 := R1.out.1.of 2
        have R2 := Lib.hid (And.intro (R1.out.1.set2 (m : Int)) (R1.out.2.set 2 (.int .i64 (m : Int))))
        clear R1
        go_wp2
        obtain ⟨w3, hw3⟩ : ∃ w3, w3 = w2.setCell ⟨ob, 2, none⟩ (.int .i64 (m : Int)) := ⟨_, rfl⟩
        rw [← hw3] at R2 ⊢
        clear hw3 p0 p1 p2 p3 p4 o0 o1 o2 o3 o4 f2
        go_loopw [] (fun wr => ∃ x : Int, 0 ≤ x ∧ x ≤ Bt ∧ Hid (RW w wr B pb rb ob a b c (.slice Aq lq cq) n x m (.slice none 0 0) [] ∧ PIn wr B ob q Aq)) (fun wr => (Bt - cellI wr ob 1).toNat)
        case atStart => exact ⟨0, by omega, by omega, R2⟩
        case round =>
          clear R2
          obtain ⟨x, hx0, hxB, hr⟩ := hrel
          have HMR2 := Lib.hid hr.out.1.x0.2.1
          obtain ⟨p0, p1, p2, p3, p4⟩ := hr.out.1.p.cells
          obtain ⟨o0, o1, o2, o3, o4⟩ := hr.out.1.o.cells
          have kx2 : IntKind.i64.wrap (-x) = -x := IntWalk.i64_in _ (by omega)
          go_wp2_with fail
          refine (HLT.out (m : Int) (-x) (by omega) (by omega) (by omega) (by omega) wr).mono ?_
          rintro e w4 ⟨rfl, hb4⟩
          have R1 := Lib.hid (And.intro (hr.out.1.keep hb4) (hr.out.2.keep (hb4.mono hr.out.1.sz)))
          clear hr hb4 p0 p1 p2 p3 p4 o0 o1 o2 o3 o4
          by_cases hxe : x = Bt
          · subst hxe
            rw [decide_eq_true HMIN.out.2.2.1]
            have R3 := Lib.hid (show ∃ v, RW w w4 B pb rb ob a b c (.slice Aq lq cq) (n : Int) x (m : Int) v (tabN G n (0 * n)) ∧ PIn w4 B ob q Aq from ⟨_, by rw [Nat.zero_mul]; exact R1.out.1, R1.out.2⟩)
            clear R1
            obtain ⟨y, hy⟩ : ∃ y, y = x := ⟨_, rfl⟩
            subst hy
            go_wp2
            go_loopw [6] (fun t wr => ∃ k : Nat, t = .int .i64 k ∧ k ≤ m ∧ Hid (∃ v, RW w wr B pb rb ob a b c (.slice Aq lq cq) (n : Int) y (m : Int) v (tabN G n (k * n)) ∧ PIn wr B ob q Aq)) (fun t _ => m - (intOf t).toNat)
            case atStart => exact ⟨0, rfl, by omega, R3⟩
            case round =>
              clear R3
              obtain ⟨k, rfl, hk, hr⟩ := hrel
              obtain ⟨v, hT, hPI⟩ := hr.out
              obtain ⟨o0, o1, o2, o3, o4⟩ := hT.o.cells
              obtain ⟨p0, p1, p2, p3, p4⟩ := hT.p.cells
              by_cases hlt : k < m
              · have dkm : decide ((k : Int) < (m : Int)) = true := decide_eq_true (by omega)
                have R0 := Lib.hid (show ∃ v, RW w wr B pb rb ob a b c (.slice Aq lq cq) (n : Int) y (m : Int) v (tabN G n (k * n + 0)) ∧ PIn wr B ob q Aq from ⟨v, hT, hPI⟩)
                clear hr hT hPI
                go_wp2
                go_loopw [7] (fun t wq => ∃ i : Nat, t = .int .i64 i ∧ i ≤ n ∧ Hid (∃ v, RW w wq B pb rb ob a b c (.slice Aq lq cq) (n : Int) y (m : Int) v (tabN G n (k * n + i)) ∧ PIn wq B ob q Aq)) (fun t _ => n - (intOf t).toNat)
                case atStart => exact ⟨0, rfl, by omega, R0⟩
                case round =>
                  clear R0 o0 o1 o2 o3 o4 p0 p1 p2 p3 p4 v
                  obtain ⟨i, rfl, hi, hq⟩ := hrel
                  obtain ⟨v, hT, hPI⟩ := hq.out
                  obtain ⟨p0, p1, p2, p3, p4⟩ := hT.p.cells
                  obtain ⟨o0, o1, o2, o3, o4⟩ := hT.o.cells
                  by_cases hil : i < n
                  · have din : decide ((i : Int) < (n : Int)) = true := decide_eq_true (by omega)
                    have HT := Lib.hid (And.intro hT hPI)
                    have hlen : k * n + i ≤ 1000000000 - 1 := by
                      have h1 : (k + 1) * n ≤ m * n := Nat.mul_le_mul_right n (by omega)
                      rw [Nat.add_mul, Nat.one_mul, Nat.mul_comm m n] at h1
                      omega
                    have HTN := Lib.hid (tabN_step (F := G) (k := k) hil)
                    have HCC := Lib.hid (HC.out i k hil hlt)
                    obtain ⟨z, hz⟩ : ∃ z, z = G i k := ⟨_, rfl⟩
                    have HZ := Lib.hid hz
                    have hpB := hT.pB
                    have hoB := hT.oB
                    have kx : IntKind.i64.wrap (-(i : Int)) = -(i : Int) := IntWalk.i64_in _ (by omega)
                    clear hT hq hz hPI
                    go_upto_region 16 with fail
                    refine RP.region_treeP (C := fun w' => ∃ x : SubW B wr, w' = x.val) (fun _ _ _ => False) [0, 1, 2, 3, 4] (OT.seq [5, 6, 7, 8, 9]) 10 (fun _ _ _ h => h.elim) (by kernel_rfl) (by kernel_rfl) (sub_start B wr) ?_
                    simp only [pickL, List.getElem?_cons_zero, List.getElem?_cons_succ]
                    repeat (go_big_quiet_step (fail))
                    refine wpQuiet_nil ?_
                    obtain ⟨w2, hw2⟩ : ∃ w2 : World, w2 = { wr with drawn := wr.drawn + 1 } := ⟨_, rfl⟩
                    rw [← hw2]
                    have hb2 : Below wr.heap.size wr w2 := by rw [hw2]; exact (Below.refl _ _).drew
                    have hsz := HT.out.1.sz
                    clear hw2
                    simp only [RP.treeS, OT.seq, atOp, List.getElem?_cons_zero, List.getElem?_cons_succ]
                    refine ⟨sub_of (hb2.mono hsz), ?_⟩
                    refine RP.p_val (.int .i64 (-(i : Int))) w2 rfl (by go_simp) ?_; refine ⟨sub_of (hb2.mono hsz), ?_⟩
                    refine RP.p_call 80 #[.agg #[.int .i64 a, .int .i64 b, .int .i64 c, .slice Aq lq cq], .int .i64 (k : Int), .int .i64 (-(i : Int))] rfl (by go_simp) ?_
                    refine (HCC.out w2 ((HT.out.2.in hsz).below hb2)).mono ?_
                    rintro e w3 ⟨rfl, hb3⟩
                    have hb3' := hb2.trans (hb3.mono hb2.size)
                    refine .inl ⟨_, rfl, ?_⟩
                    rw [← HZ.out]
                    refine ⟨sub_of (hb3'.mono hsz), ?_⟩
                    refine RP.p_val (.slice (some ⟨w3.heap.size, 0, none⟩) 1 1) (w3.alloc (.cells #[.int .i64 z] 3)) rfl (by go_simp) ?_
                    have hal := (Below.refl w3.heap.size w3).alloc (Nat.le_refl _) (.cells #[.int .i64 z] 3)
                    have hb4 := hb3'.trans (hal.mono hb3'.size)
                    obtain ⟨v', w5, r1, r2, r3, -⟩ := ap_i64 w3 22 B v _ z (OwnI.keep hb3' HT.out.1.own) (by rw [tabN_length]; omega) (Nat.le_trans hsz hb3'.size)
                    obtain ⟨A5, n5, hv5, -⟩ := r2.isL
                    obtain ⟨m5, hm5⟩ : ∃ m5, m5 = (tabN G n (k * n + i) ++ [z]).length := ⟨_, rfl⟩
                    rw [← hm5] at hv5
                    clear hm5
                    subst hv5
                    have hb5 := (hb3'.mono hsz).grown r3 (Nat.le_trans hsz hb3'.size) (fun g hg => (HT.out.1.own.lt' g hg).1)
                    refine ⟨sub_of (hb4.mono hsz), ?_⟩
                    refine RP.p_val (.slice A5 m5 n5) w5 rfl (ap_exec _ _ 22 rfl v (.slice (some ⟨w3.heap.size, 0, none⟩) 1 1) _ w5 rfl rfl r1) ?_
                    refine ⟨sub_of hb5, ?_⟩
                    refine RP.p_val (.pointer (some ⟨ob, 3, none⟩)) w5 rfl (by go_simp) ?_
                    refine ⟨sub_of hb5, ?_⟩
                    have z1 := (hb5.cell (p := ⟨ob, 3, none⟩) hoB).trans o3
                    have z2 : w5.frozen? ⟨ob, 3, none⟩ = false := frozen_of_row w5 ob 3 _ _ ((hb5.block _ hoB).trans HT.out.1.o)
                    have T6 := HT.out.1.step hb5 r2
                    rw [HZ.out, ← HTN.out] at T6
                    have HT6 := Lib.hid (And.intro T6 (HT.out.2.step hb5 (.slice A5 m5 n5)))
                    refine RP.p_skip (w5.setCell ⟨ob, 3, none⟩ (.slice A5 m5 n5)) rfl (by go_simp) ?_
                    obtain ⟨w6, hw6⟩ : ∃ w6, w6 = w5.setCell ⟨ob, 3, none⟩ (.slice A5 m5 n5) := ⟨_, rfl⟩
                    rw [← hw6] at HT6 ⊢
                    clear hw6 T6 z1 z2 hb5 r1 r2 r3 hb4 hal hb3' hb3 hb2 HT o0 o1 o2 o3 o4 p0 p1 p2 p3 p4 hpB hoB HCC
                    go_simp
                    go_wp2
                    go_roundw
                    case rel => exact ⟨i + 1, by go_num, by omega, Lib.hid ⟨_, HT6.out⟩⟩
                    case measure => simp [intOf]; omega
                  · obtain rfl : n = i := by omega
                    have din : decide ((n : Int) < (n : Int)) = false := decide_eq_false (by omega)
                    have R2 := Lib.hid (show ∃ v, RW w wr B pb rb ob a b c (.slice Aq lq cq) (n : Int) y (m : Int) v (tabN G n ((k + 1) * n)) ∧ PIn wr B ob q Aq from by rw [Nat.add_mul, Nat.one_mul]; exact ⟨v, hT, hPI⟩)
                    clear hq hT hPI
                    go_wp2
                    go_roundw
                    case rel => exact ⟨k + 1, by go_num, by omega, R2⟩
                    case measure => simp [intOf]; omega
              · obtain rfl : m = k := by omega
                have dkm : decide ((m : Int) < (m : Int)) = false := decide_eq_false (by omega)
                have HTE := Lib.hid hT
                clear hr hT hPI hlt
                obtain ⟨A1, n1, rfl, hL1⟩ := HTE.out.own.isL
                obtain ⟨l1, hl1⟩ : ∃ l1, l1 = (tabN G n (m * n)).length := ⟨_, rfl⟩
                have HRE1 := Lib.hid (HRE.out A1 n1 wr hL1)
                rw [← hl1] at HTE HRE1 o3
                clear hL1 hl1
                go_wp2_with fail
                refine HRE1.out.mono ?_
                rintro e w5 ⟨v5, rfl, ho5, hb5⟩
                rw [← HTT.out] at ho5 ⊢
                obtain ⟨A5, n5, rfl, -⟩ := ho5.isL
                have hr5 := HTE.out.r.keep hb5
                have HP := Lib.hid (put_ret hr5 (HTE.out.below.trans (hb5.mono HTE.out.below.size)) HTE.out.wr' T _ ho5 HTE.out.below.size (Array.getElem?_eq_some_iff.1 HTE.out.r).1)
                obtain ⟨r0, r1, r2, r3, r4⟩ := PBox.cells hr5
                have f0 : (w5).frozen? ⟨rb, 0, none⟩ = false := frozen_of_row (w5) (rb) 0 _ _ hr5
                have f1 : (w5).frozen? ⟨rb, 1, none⟩ = false := frozen_of_row (w5) (rb) 1 _ _ hr5
                have f2 : (w5).frozen? ⟨rb, 2, none⟩ = false := frozen_of_row (w5) (rb) 2 _ _ hr5
                have f3 : (w5).frozen? ⟨rb, 3, none⟩ = false := frozen_of_row (w5) (rb) 3 _ _ hr5
                clear ho5 hb5 hr5 HRE1 HTE HRE o0 o1 o2 o3 o4 p0 p1 p2 p3 p4
                go_wp2
                refine bodyPost_ret (v := .tuple #[.agg #[.int .i64 T.a, .int .i64 T.b, .int .i64 T.c, .slice A5 T.xs.length n5], .int .i64 0]) (ret_pat2 rfl rfl rfl HP.out.1) rfl ?_
                exact ⟨_, rfl, HP.out.2⟩
          · rw [decide_eq_false (HMIN.out.2.2.2 x hx0 (by omega))]
            obtain ⟨p0, p1, p2, p3, p4⟩ := R1.out.1.p.cells
            obtain ⟨o0, o1, o2, o3, o4⟩ := R1.out.1.o.cells
            have f1 := R1.out.1.of 1
            have ky : IntKind.i64.wrap (x + 1) = x + 1 := IntWalk.i64_in _ (by omega)
            have R2 := Lib.hid (And.intro (R1.out.1.set1 (x + 1)) (R1.out.2.set 1 (.int .i64 (x + 1))))
            have hm2 := R2.out.1.x0.2.1
            clear R1
            go_wp2
            go_roundw
            case rel => exact ⟨x + 1, by omega, by omega, R2⟩
            case measure => rw [hm2, HMR2.out]; omega
      · rw [decide_eq_false (HMIN.out.2.1 x (by omega) (by omega))]
        have f0 := R1.out.1.of 0
        have ky : IntKind.i64.wrap (x + 1) = x + 1 := IntWalk.i64_in _ (by omega)
        have R2 := Lib.hid (And.intro (R1.out.1.set0 (x + 1)) (R1.out.2.set 0 (.int .i64 (x + 1))))
        have hm2 := R2.out.1.x0.1
        clear R1
        go_wp2
        go_roundw
        case rel => exact ⟨x + 1, by omega, by omega, R2⟩
        case measure => rw [hm2, HMR.out]; omega
  · have d1 : (E == 0) = false := by rw [beq_eq_false_iff_ne]; exact hz
    have d2 : (E != 0) = true := by rw [bne_iff_ne]; exact hz
    have HT2 := Lib.hid (show T = zeroP by rw [HT.out, if_pos hz])
    have HP := Lib.hid (put_zero H1.out.2.1 H1.out.2.2 (by omega))
    obtain ⟨r0, r1, r2, r3, r4⟩ := PBox.cells H1.out.2.1
    have f0 : (w1).frozen? ⟨w.heap.size + 1, 0, none⟩ = false := frozen_of_row (w1) (w.heap.size + 1) 0 _ _ H1.out.2.1
    have f1 : (w1).frozen? ⟨w.heap.size + 1, 1, none⟩ = false := frozen_of_row (w1) (w.heap.size + 1) 1 _ _ H1.out.2.1
    have f2 : (w1).frozen? ⟨w.heap.size + 1, 2, none⟩ = false := frozen_of_row (w1) (w.heap.size + 1) 2 _ _ H1.out.2.1
    have f3 : (w1).frozen? ⟨w.heap.size + 1, 3, none⟩ = false := frozen_of_row (w1) (w.heap.size + 1) 3 _ _ H1.out.2.1
    clear hz HT HE H1
    go_wp2
    refine bodyPost_ret (v := .tuple #[.agg #[.int .i64 0, .int .i64 0, .int .i64 0, .slice none 0 0], .int .i64 E]) (ret_pat2 rfl rfl rfl HP.out.1) rfl ?_
    rw [HT2.out]
    exact OutP.zero HP.out.2
end Go.Proofs.YtlinldbbhdpgcaaGreatDoor
/-
  THE REFERENCE: Recolor.
-/
namespace Go.Proofs.YtlinldbbhdpgcaaGreatDoor
open Go.RowKit
attribute [local go_sem] sub_cell sub_frozen
attribute [local irreducible] RP.plainUpon RP.stepC
theorem rleast_q (q : PatD) (hW : PatW q) (A : Option Addr) (cap : Nat) (w : World) (hi : PatIn w q A) :
    Calls Tryz.prog 58 #[.agg #[.int .i64 q.a, .int .i64 q.b, .int .i64 q.c, .slice A q.xs.length cap]] w fun e w' => ∃ v, e = .returned (.agg #[.int .i64 (lst (colF q)).a, .int .i64 (lst (colF q)).b, .int .i64 (lst (colF q)).c, v]) ∧ OwnI w' w.heap.size v (lst (colF q)).xs ∧ Below w.heap.size w w' := by
  obtain ⟨h1, h2⟩ := hW.base.lst
  have := rleast_any q hW _ _ _ h1 A cap w hi
  rw [← h2] at this
  exact this
def recL (cs xs : List Int) : List Int := xs.map fun x => cs.getD x.toNat 0
theorem recL_col {a b c : Int} {xs cs : List Int} (h : PatOK ⟨a, b, c, xs⟩) : colF ⟨a, b, c, recL cs xs⟩ = recF cs (colF ⟨a, b, c, xs⟩) := by
  funext x y
  obtain ⟨h1, h2, h3, h4⟩ := home_bd (b := b) (x := x) (y := y) h.a0 h.c0
  simp only at h1 h2 h3 h4
  obtain ⟨g5, g6⟩ := cell_bd h1 h2 h3 h4
  have hl := h.len
  simp only at hl
  unfold recF colF recL
  simp only
  have hk : (y % c * a + homeX a b c x y).toNat < xs.length := by omega
  generalize (y % c * a + homeX a b c x y).toNat = k at hk
  simp [List.getD, hk]
theorem recL_step {cs xs : List Int} {i : Nat} (h : i < xs.length) : (recL cs (xs.take i) ++ xs.drop i).set i (cs.getD (xs.getD i 0).toNat 0) = recL cs (xs.take (i + 1)) ++ xs.drop (i + 1) := by
  have hl : (recL cs (xs.take i)).length = i := by unfold recL; simp; omega
  rw [List.set_append_right _ _ (by omega), hl, Nat.sub_self, List.drop_eq_getElem_cons h, List.set_cons_zero, List.take_succ_eq_append_getElem h]
  unfold recL
  rw [List.map_append, List.append_assoc]
  congr 1
  simp [List.getD, h]
theorem recL_len (cs xs : List Int) : (recL cs xs).length = xs.length := by unfold recL; simp
set_option maxRecDepth 100000 in
set_option maxHeartbeats 2000000 in
theorem rrecolor_any (p : PatD) (hl : p.xs.length ≤ 1000000) (cs : List Int) (A : Option Addr) (cap : Nat) (A2 : Option Addr) (c2 : Nat) (w : World) (hi : PatIn w p A) (hcs : IsL w A2 cs.length cs) :
    Calls Tryz.prog 54 #[.agg #[.int .i64 p.a, .int .i64 p.b, .int .i64 p.c, .slice A p.xs.length cap], .slice A2 cs.length c2] w (OutP w (recT p cs) (.int .i64 (recZ p cs))) := by
  obtain ⟨T, hT⟩ : ∃ T, T = recT p cs := ⟨_, rfl⟩
  obtain ⟨Z, hZ⟩ : ∃ Z, Z = recZ p cs := ⟨_, rfl⟩
  obtain ⟨E, hE⟩ : ∃ E, E = valP p := ⟨_, rfl⟩
  rw [← hT, ← hZ]
  unfold recT at hT
  rw [← hZ] at hT
  have HZ := Lib.hid hZ
  unfold recZ at hZ
  rw [← hE] at hZ
  have HZU := Lib.hid hZ
  have HV := Lib.hid (fun w hi => rvalidateP_any p hl E hE.symm A cap w hi)
  have HCP := Lib.hid (fun w hi => copyP_any p (by omega) A cap w hi)
  have HT := Lib.hid hT
  have HE := Lib.hid hE
  have HI := Lib.hid (And.intro hi hcs)
  obtain ⟨n, hn⟩ : ∃ n, n = cs.length := ⟨_, rfl⟩
  have HN := Lib.hid hn
  rw [← hn] at HZU ⊢
  clear hi hT hE hZ hcs hn
  go_enter Tryz.func54, Tryz.ntmps54
  go_wp2_with fail
  obtain ⟨a0, a1, a2, a3⟩ := al2 w (.cells #[.int .i64 p.a, .int .i64 p.b, .int .i64 p.c, .slice A p.xs.length cap] 24) (.cells #[.int .i64 0, .int .i64 0, .int .i64 0, .slice none 0 0] 24)
  obtain ⟨V, hV⟩ : ∃ V, V = (w.alloc (.cells #[.int .i64 p.a, .int .i64 p.b, .int .i64 p.c, .slice A p.xs.length cap] 24)).alloc (.cells #[.int .i64 0, .int .i64 0, .int .i64 0, .slice none 0 0] 24) := ⟨_, rfl⟩
  rw [← hV] at a0 a1 a2 a3 ⊢
  refine (HV.out V (HI.out.1.below a3)).mono ?_
  rintro e w1 ⟨rfl, hb1⟩
  have H1 := Lib.hid (show PBox w1 w.heap.size p.a p.b p.c (.slice A p.xs.length cap) ∧ PBox w1 (w.heap.size + 1) 0 0 0 (.slice none 0 0) ∧ Below w.heap.size w w1 from
    ⟨PBox.keep (w := V) a1 hb1, PBox.keep (w := V) a2 hb1, a3.trans (hb1.mono a3.size)⟩)
  clear hV a0 a1 a2 a3 HV hb1 V
  by_cases hz : E = 0
  · subst hz
    have hZ := HZU.out
    rw [if_neg (by simp)] at hZ
    by_cases h8 : n = 8
    · have HZ8 := Lib.hid (show Z = if cs.any badC = true then 1 else 0 by
        rw [hZ]
        by_cases hb : cs.any badC = true
        · rw [if_pos (.inr hb), if_pos hb]
        · rw [if_neg (fun h => h.elim (fun h => h h8) hb), if_neg hb])
      have hN8 : (8 : Nat) = cs.length := by rw [← HN.out]; exact h8.symm
      subst h8
      obtain ⟨bc, oc, rfl, hbc, hcc⟩ := HI.out.2.2 (by omega)
      have HCC := Lib.hid (show ∀ i, i < 8 → w1.cell? ⟨bc, oc + i, none⟩ = some (.int .i64 (cs.getD i 0)) from fun i hi => (H1.out.2.2.cell (p := ⟨bc, oc + i, none⟩) hbc).trans (hcc i (by omega)))
      have R0 := Lib.hid (show (cs.take 0).any badC = false ∧ Below w1.heap.size w1 w1 from ⟨by simp, Below.refl _ _⟩)
      have hw1 : w.heap.size ≤ w1.heap.size := H1.out.2.2.size
      have HN8 := Lib.hid hN8
      clear hZ HZU hcc HN hN8
      obtain ⟨q0, q1, q2, q3, q4⟩ := H1.out.1.cells
      obtain ⟨r0, r1, r2, r3, r4⟩ := PBox.cells H1.out.2.1
      have f0 : (w1).frozen? ⟨w.heap.size + 1, 0, none⟩ = false := frozen_of_row (w1) (w.heap.size + 1) 0 _ _ H1.out.2.1
      have f1 : (w1).frozen? ⟨w.heap.size + 1, 1, none⟩ = false := frozen_of_row (w1) (w.heap.size + 1) 1 _ _ H1.out.2.1
      have f2 : (w1).frozen? ⟨w.heap.size + 1, 2, none⟩ = false := frozen_of_row (w1) (w.heap.size + 1) 2 _ _ H1.out.2.1
      have f3 : (w1).frozen? ⟨w.heap.size + 1, 3, none⟩ = false := frozen_of_row (w1) (w.heap.size + 1) 3 _ _ H1.out.2.1
      go_wp2
      go_loopw [7] (fun t wr => ∃ i : Nat, t = .int .i64 i ∧ i ≤ 8 ∧ Hid ((cs.take i).any badC = false ∧ Below w1.heap.size w1 wr)) (fun t _ => 8 - (intOf t).toNat)
      case atStart => exact ⟨0, rfl, by omega, R0⟩
      case round =>
        clear R0
        obtain ⟨i, rfl, hi, hr⟩ := hrel
        have hbw := hr.out.2
        have HBW := Lib.hid hbw
        clear q0 q1 q2 q3 q4 r0 r1 r2 r3 r4 f0 f1 f2 f3
        obtain ⟨r0, r1, r2, r3, r4⟩ := PBox.cells (H1.out.2.1.keep hbw)
        have f0 : (wr).frozen? ⟨w.heap.size + 1, 0, none⟩ = false := frozen_of_row (wr) (w.heap.size + 1) 0 _ _ (H1.out.2.1.keep hbw)
        have f1 : (wr).frozen? ⟨w.heap.size + 1, 1, none⟩ = false := frozen_of_row (wr) (w.heap.size + 1) 1 _ _ (H1.out.2.1.keep hbw)
        have f2 : (wr).frozen? ⟨w.heap.size + 1, 2, none⟩ = false := frozen_of_row (wr) (w.heap.size + 1) 2 _ _ (H1.out.2.1.keep hbw)
        have f3 : (wr).frozen? ⟨w.heap.size + 1, 3, none⟩ = false := frozen_of_row (wr) (w.heap.size + 1) 3 _ _ (H1.out.2.1.keep hbw)
        by_cases hlt : i < 8
        · have y1 := (hbw.cell (p := ⟨bc, oc + i, none⟩) (Nat.lt_of_lt_of_le hbc hw1)).trans (HCC.out i hlt)
          obtain ⟨z, hz⟩ : ∃ z, z = cs.getD i 0 := ⟨_, rfl⟩
          rw [← hz] at y1
          have hil : i < cs.length := by rw [← HN8.out]; exact hlt
          have htk : (cs.take (i + 1)).any badC = badC z := by
            rw [pany_take cs badC hil, hr.out.1, hz, pgetD_at hil]; rfl
          have hwi := fun w => pwithin_any z 0 7 (!badC z) (badC_within z) w
          have hbad : badC z = true → cs.any badC = true := fun h => pany_hit cs badC hil (by rw [pgetD_at hil, ← hz]; exact h)
          obtain ⟨t, ht⟩ : ∃ t, t = badC z := ⟨_, rfl⟩
          rw [← ht] at hwi htk hbad
          have HWI := Lib.hid hwi
          have HTK := Lib.hid htk
          have HBD := Lib.hid hbad
          have hi8 : (i : Int) < 8 := by omega
          clear hz ht hr hwi htk hbad hbw
          cases t with
          | true =>
            have hZ1 := HZ8.out
            rw [if_pos (HBD.out rfl)] at hZ1
            subst hZ1
            have HT2 := Lib.hid (show T = zeroP by rw [HT.out, if_pos (by decide)])
            have HP := Lib.hid (put_zero (H1.out.2.1.keep HBW.out) (H1.out.2.2.trans (HBW.out.mono hw1)) (by omega))
            clear HT HE HZ HZ8 H1 HTK HBD HBW
            go_wp2_with fail
            refine (HWI.out _).mono ?_
            rintro e w2 ⟨rfl, rfl⟩
            go_wp2
            refine bodyPost_ret (v := .tuple #[.agg #[.int .i64 0, .int .i64 0, .int .i64 0, .slice none 0 0], .int .i64 1]) (ret_pat2 rfl rfl rfl HP.out.1) rfl ?_
            rw [HT2.out]
            exact OutP.zero HP.out.2
          | false =>
            have R2 := Lib.hid (And.intro HTK.out HBW.out)
            clear HTK HBD HBW
            go_wp2_with fail
            refine (HWI.out _).mono ?_
            rintro e w2 ⟨rfl, rfl⟩
            go_wp2
            go_roundw
            case rel => exact ⟨i + 1, by go_num, by omega, R2⟩
            case measure => simp [intOf]; omega
        · obtain rfl : 8 = i := by omega
          have hall : cs.any badC = false := by
            have := hr.out.1
            rwa [HN8.out, List.take_length] at this
          have hZ1 := HZ8.out
          rw [hall, if_neg (by simp)] at hZ1
          subst hZ1
          have hT := HT.out
          rw [if_neg (by simp)] at hT
          obtain ⟨hv, hlen, hcol⟩ := recZ_zero HZ.out.symm
          have hg := valP_zero hv
          have HTT := Lib.hid hT
          have HG := Lib.hid (And.intro hg hcol)
          have HB := Lib.hid hbw
          clear hT hv hlen hcol hg hall HZ8 HZ HT HE hr r0 r1 r2 r3 r4 f0 f1 f2 f3 hlt
          obtain ⟨q0, q1, q2, q3, q4⟩ := (H1.out.1.keep hbw).cells
          clear hbw
          obtain ⟨wm, hwm⟩ : ∃ wm, wm = wr := ⟨_, rfl⟩
          subst hwm
          go_wp2_with fail
          refine (HCP.out wm (HI.out.1.below (H1.out.2.2.trans (HB.out.mono hw1)))).mono ?_
          rintro e w3 ⟨v, rfl, hown, hb3⟩
          have hB3 : Below w.heap.size w wm := H1.out.2.2.trans (HB.out.mono hw1)
          obtain ⟨hg, hcol⟩ := HG.out
          have hL0 : 0 < p.xs.length := by have := hg.len; have := Int.mul_pos hg.a0 hg.c0; omega
          obtain ⟨g, k3, rfl⟩ := own_some hown hL0
          obtain ⟨hrow, -, hgB⟩ := Row.of_own hown
          obtain ⟨L, hL⟩ : ∃ L, L = p.xs.length := ⟨_, rfl⟩
          have hb4 := below_new w3 (.cells #[.int .i64 p.a, .int .i64 p.b, .int .i64 p.c, .slice (some ⟨g, 0, none⟩) L k3] 24)
          have hob : PBox (w3.alloc (.cells #[.int .i64 p.a, .int .i64 p.b, .int .i64 p.c, .slice (some ⟨g, 0, none⟩) L k3] 24)) w3.heap.size p.a p.b p.c (.slice (some ⟨g, 0, none⟩) L k3) := PBox.new w3 _ _ _ _
          rw [← hL] at hown ⊢
          have HLL := Lib.hid hL
          clear hL
          go_wp2
          obtain ⟨W4, hW4⟩ : ∃ W4, W4 = w3.alloc (.cells #[.int .i64 p.a, .int .i64 p.b, .int .i64 p.c, .slice (some ⟨g, 0, none⟩) L k3] 24) := ⟨_, rfl⟩
          rw [← hW4] at hb4 hob ⊢
          have hg3 : g < w3.heap.size := hrow.lt
          obtain ⟨ob, hobe⟩ : ∃ ob, ob = w3.heap.size := ⟨_, rfl⟩
          rw [← hobe] at hob ⊢
          have hb34 : Below wm.heap.size wm W4 := hb3.trans (hb4.mono hb3.size)
          have H4 := Lib.hid (show PBox W4 ob p.a p.b p.c (.slice (some ⟨g, 0, none⟩) L k3) ∧ PBox W4 (w.heap.size + 1) 0 0 0 (.slice none 0 0) ∧ Below wm.heap.size wm W4 from ⟨hob, (H1.out.2.1.keep HB.out).keep hb34, hb34⟩)
          have hrow4 : RowI W4 g p.xs := Row.keep hb4 hrow
          have R0 := Lib.hid (show W4.grownBy W4 (some g) ∧ RowI W4 g (recL cs (p.xs.take 0) ++ p.xs.drop 0) from ⟨grown_of (Below.refl _ _) _, by simpa [recL] using hrow4⟩)
          have HL := Lib.hid (And.intro HLL.out (And.intro hg (And.intro hcol hB3)))
          have hgo : g ≠ ob := by omega
          have hL6 : L ≤ 1000000 := by rw [HLL.out]; exact hl
          have hbcg : bc < wm.heap.size := Nat.lt_of_lt_of_le hbc hB3.size
          have hrbg : w.heap.size + 1 < wm.heap.size := (Array.getElem?_eq_some_iff.1 (H1.out.2.1.keep HB.out)).1
          clear hW4 hb4 hob hb34 hrow4 hrow hown hb3 hg hcol hg3 hobe hL0 HLL q0 q1 q2 q3 q4
          go_loopw [9] (fun t wr => ∃ i : Nat, t = .int .i64 i ∧ i ≤ L ∧ Hid (W4.grownBy wr (some g) ∧ RowI wr g (recL cs (p.xs.take i) ++ p.xs.drop i))) (fun t _ => L - (intOf t).toNat)
          case atStart => exact ⟨0, rfl, by omega, R0⟩
          case round =>
            clear R0
            obtain ⟨i, rfl, hi, hr⟩ := hrel
            obtain ⟨q0, q1, q2, q3, q4⟩ := PBox.cells ((hr.out.1.block ob (Array.getElem?_eq_some_iff.1 H4.out.1).1 (fun e => hgo (by cases e; rfl))).trans H4.out.1)
            by_cases hlt : i < L
            · obtain ⟨hL, hg, hcol, hB3⟩ := HL.out
              have hix : i < p.xs.length := by omega
              have hxl := hg.col (p.xs.getD i 0) (pgetD_mem hix)
              obtain ⟨k, hk⟩ : ∃ k : Nat, p.xs.getD i 0 = k := ⟨(p.xs.getD i 0).toNat, by omega⟩
              have hk8 : k < 8 := by omega
              have hli : (recL cs (p.xs.take i) ++ p.xs.drop i).length = L := by rw [List.length_append, recL_len, List.length_take, List.length_drop]; omega
              have y0 := hr.out.2.get i (by omega)
              have hlc : (recL cs (p.xs.take i)).length = i := by rw [recL_len, List.length_take]; omega
              have e0 : (recL cs (p.xs.take i) ++ p.xs.drop i).getD i 0 = p.xs.getD i 0 := by
                rw [List.getD, List.getElem?_append_right (by omega), hlc, Nat.sub_self, List.getElem?_drop]
                rfl
              rw [e0, hk] at y0
              have hbw4 : Below wm.heap.size wm W4 := H4.out.2.2
              have y1 : wr.cell? ⟨bc, oc + k, none⟩ = some (.int .i64 (cs.getD k 0)) :=
                (World.cell?_of_block (a := ⟨bc, oc + k, none⟩) (hr.out.1.block bc (Nat.lt_of_lt_of_le hbcg hbw4.size) (fun e => by cases e; omega))).trans ((hbw4.cell (p := ⟨bc, oc + k, none⟩) hbcg).trans ((HB.out.cell (p := ⟨bc, oc + k, none⟩) (Nat.lt_of_lt_of_le hbc hw1)).trans (HCC.out k hk8)))
              have y2 : wr.frozen? ⟨g, i, none⟩ = false := hr.out.2.free i
              have hgq : g < wr.heap.size := hr.out.2.lt
              have hbq : bc < wr.heap.size := Nat.lt_of_lt_of_le (Nat.lt_of_lt_of_le hbcg hbw4.size) hr.out.1.size
              have hstep := recL_step (cs := cs) hix
              rw [hk, Int.toNat_natCast] at hstep
              have hset := hr.out.2.set i (cs.getD k 0)
              rw [hstep] at hset
              obtain ⟨z, hz⟩ : ∃ z, z = cs.getD k 0 := ⟨_, rfl⟩
              rw [← hz] at y1 hset
              have hgr := hr.out.1
              have R2 := Lib.hid (show W4.grownBy ((wr.drew).setCell ⟨g, i, none⟩ (.int .i64 z)) (some g) ∧ RowI ((wr.drew).setCell ⟨g, i, none⟩ (.int .i64 z)) g (recL cs (p.xs.take (i + 1)) ++ p.xs.drop (i + 1)) from
                ⟨set_grown wr.drew g i (.int .i64 z) (fun h => grown_then (grown_then hgr (grown_of (Below.refl _ wr).drew _)) h), hset⟩)
              have HLT := Lib.hid hlt
              have hz0 : (i : Int) < L := by omega
              clear hL hg hcol hB3 hix hxl hk hli hlc e0 hbw4 hstep hset hgr hz hr
              go_upto_region 15 with fail
              refine RP.region_treeP (C := fun w' => ∃ x : SubW wr.heap.size wr, w' = x.val) (fun _ _ _ => False) [0, 1, 2, 3, 4, 5, 6, 7, 8, 9, 10, 11] .nil 12 (fun _ _ _ h => h.elim) (by kernel_rfl) (by kernel_rfl) (sub_start _ wr) ?_
              simp only [pickL, List.getElem?_cons_zero, List.getElem?_cons_succ]
              repeat (go_big_quiet_step (fail))
              refine wpQuiet_nil ?_
              simp only [RP.treeS, atOp, List.getElem?_cons_zero, List.getElem?_cons_succ]
              obtain ⟨w5, hw5⟩ : ∃ w5 : World, w5 = { wr with drawn := wr.drawn + 1 } := ⟨_, rfl⟩
              rw [← hw5]
              have hc5 : ∃ x : SubW wr.heap.size wr, w5 = x.val := sub_of (by rw [hw5]; exact (Below.refl _ wr).drew)
              rw [show wr.drew = w5 from hw5.symm] at R2
              have z0 : w5.cell? ⟨g, i, none⟩ = some (.int .i64 k) := by rw [hw5]; exact y0
              have z2 : w5.frozen? ⟨g, i, none⟩ = false := by rw [hw5]; exact y2
              clear hw5 y0 y1 y2 q0 q1 q2 q3 q4
              refine ⟨hc5, ?_⟩
              refine RP.p_skip (w5.setCell ⟨g, i, none⟩ (.int .i64 z)) rfl (by go_simp) ?_
              obtain ⟨w6, hw6⟩ : ∃ w6, w6 = w5.setCell ⟨g, i, none⟩ (.int .i64 z) := ⟨_, rfl⟩
              rw [← hw6] at R2 ⊢
              clear hw6 z0 z2 hc5
              go_simp
              go_wp2
              go_roundw
              case rel => exact ⟨i + 1, by go_num, HLT.out, R2⟩
              case measure => have := HLT.out; simp [intOf]; omega
            · obtain rfl : L = i := by omega
              have hL := HL.out.1
              have hrow := hr.out.2
              rw [hL, List.take_length, List.drop_length, List.append_nil] at hrow
              obtain ⟨-, hg, -, hB3⟩ := HL.out
              have hok := hg.ok
              have hW : PatW ⟨p.a, p.b, p.c, recL cs p.xs⟩ := by
                obtain ⟨g1, g2, g3, g4, g5, g6, g7⟩ := hok
                exact ⟨g1, by simp only; omega, g3, by simp only; omega, g5, by simp only; omega, by simp only; rw [recL_len]; exact g7, by simp only; rw [recL_len]; omega⟩
              have hre := rleast_q ⟨p.a, p.b, p.c, recL cs p.xs⟩ hW (some ⟨g, 0, none⟩) k3 wr (RowI.isL hrow)
              rw [recL_col (xs := p.xs) hok, ← HTT.out] at hre
              simp only at hre
              rw [recL_len, ← hL] at hre
              have HRE := Lib.hid hre
              have hbB : Below w.heap.size w wr := (hB3.trans (H4.out.2.2.mono hB3.size)).grown hr.out.1 (Nat.le_trans hB3.size H4.out.2.2.size) (fun g' e => by cases e; have := hB3.size; omega)
              have HBB := Lib.hid hbB
              have hres : PBox wr (w.heap.size + 1) 0 0 0 (.slice none 0 0) := (hr.out.1.block (w.heap.size + 1) (Nat.lt_of_lt_of_le hrbg H4.out.2.2.size) (fun e => by cases e; omega)).trans H4.out.2.1
              have HRS := Lib.hid hres
              clear hL hrow hg hB3 hok hW hre hbB hres hr
              go_wp2_with fail
              refine HRE.out.mono ?_
              rintro e w5 ⟨v5, rfl, ho5, hb5⟩
              obtain ⟨A5, n5, rfl, -⟩ := ho5.isL
              have hr5 := HRS.out.keep hb5
              have HP := Lib.hid (put_ret hr5 (HBB.out.trans (hb5.mono HBB.out.size)) (by omega) T _ ho5 HBB.out.size (Array.getElem?_eq_some_iff.1 HRS.out).1)
              obtain ⟨r0, r1, r2, r3, r4⟩ := PBox.cells hr5
              have f0 : (w5).frozen? ⟨w.heap.size + 1, 0, none⟩ = false := frozen_of_row (w5) (w.heap.size + 1) 0 _ _ hr5
              have f1 : (w5).frozen? ⟨w.heap.size + 1, 1, none⟩ = false := frozen_of_row (w5) (w.heap.size + 1) 1 _ _ hr5
              have f2 : (w5).frozen? ⟨w.heap.size + 1, 2, none⟩ = false := frozen_of_row (w5) (w.heap.size + 1) 2 _ _ hr5
              have f3 : (w5).frozen? ⟨w.heap.size + 1, 3, none⟩ = false := frozen_of_row (w5) (w.heap.size + 1) 3 _ _ hr5
              clear ho5 hb5 hr5 HRE HRS HBB q0 q1 q2 q3 q4
              go_wp2
              refine bodyPost_ret (v := .tuple #[.agg #[.int .i64 T.a, .int .i64 T.b, .int .i64 T.c, .slice A5 T.xs.length n5], .int .i64 0]) (ret_pat2 rfl rfl rfl HP.out.1) rfl ?_
              exact ⟨_, rfl, HP.out.2⟩
    · have d8 : ((n : Int) != 8) = true := by rw [bne_iff_ne]; omega
      have d9 : ((n : Int) == 8) = false := by rw [beq_eq_false_iff_ne]; omega
      rw [if_pos (.inl h8)] at hZ
      subst hZ
      have HT2 := Lib.hid (show T = zeroP by rw [HT.out, if_pos (by decide)])
      have HP := Lib.hid (put_zero H1.out.2.1 H1.out.2.2 (by omega))
      obtain ⟨r0, r1, r2, r3, r4⟩ := PBox.cells H1.out.2.1
      have f0 : (w1).frozen? ⟨w.heap.size + 1, 0, none⟩ = false := frozen_of_row (w1) (w.heap.size + 1) 0 _ _ H1.out.2.1
      have f1 : (w1).frozen? ⟨w.heap.size + 1, 1, none⟩ = false := frozen_of_row (w1) (w.heap.size + 1) 1 _ _ H1.out.2.1
      have f2 : (w1).frozen? ⟨w.heap.size + 1, 2, none⟩ = false := frozen_of_row (w1) (w.heap.size + 1) 2 _ _ H1.out.2.1
      have f3 : (w1).frozen? ⟨w.heap.size + 1, 3, none⟩ = false := frozen_of_row (w1) (w.heap.size + 1) 3 _ _ H1.out.2.1
      clear h8 HT HE H1 HZ HZU HCP
      go_wp2
      refine bodyPost_ret (v := .tuple #[.agg #[.int .i64 0, .int .i64 0, .int .i64 0, .slice none 0 0], .int .i64 1]) (ret_pat2 rfl rfl rfl HP.out.1) rfl ?_
      rw [HT2.out]
      exact OutP.zero HP.out.2
  · have hZ := HZU.out
    rw [if_pos hz] at hZ
    subst hZ
    have d1 : (Z == 0) = false := by rw [beq_eq_false_iff_ne]; exact hz
    have d2 : (Z != 0) = true := by rw [bne_iff_ne]; exact hz
    have HT2 := Lib.hid (show T = zeroP by rw [HT.out, if_pos hz])
    have HP := Lib.hid (put_zero H1.out.2.1 H1.out.2.2 (by omega))
    obtain ⟨r0, r1, r2, r3, r4⟩ := PBox.cells H1.out.2.1
    have f0 : (w1).frozen? ⟨w.heap.size + 1, 0, none⟩ = false := frozen_of_row (w1) (w.heap.size + 1) 0 _ _ H1.out.2.1
    have f1 : (w1).frozen? ⟨w.heap.size + 1, 1, none⟩ = false := frozen_of_row (w1) (w.heap.size + 1) 1 _ _ H1.out.2.1
    have f2 : (w1).frozen? ⟨w.heap.size + 1, 2, none⟩ = false := frozen_of_row (w1) (w.heap.size + 1) 2 _ _ H1.out.2.1
    have f3 : (w1).frozen? ⟨w.heap.size + 1, 3, none⟩ = false := frozen_of_row (w1) (w.heap.size + 1) 3 _ _ H1.out.2.1
    clear hz HT HE H1 HZ HZU
    go_wp2
    refine bodyPost_ret (v := .tuple #[.agg #[.int .i64 0, .int .i64 0, .int .i64 0, .slice none 0 0], .int .i64 Z]) (ret_pat2 rfl rfl rfl HP.out.1) rfl ?_
    rw [HT2.out]
    exact OutP.zero HP.out.2
end Go.Proofs.YtlinldbbhdpgcaaGreatDoor
/-
  THE REFERENCE: told; Swell.
-/
namespace Go.Proofs.YtlinldbbhdpgcaaGreatDoor
open Go.RowKit
attribute [local go_sem] sub_cell sub_frozen
attribute [local irreducible] RP.plainUpon RP.stepC
set_option maxRecDepth 100000 in
set_option maxHeartbeats 1000000 in
theorem told_any (G : Int → Int → Int) (n m : Nat) (y : Int) (hB : Base G n y m) (hn2 : n ≤ 100000) (hm2 : m ≤ 100000) (hnm : n * m ≤ 1000000) (hy0 : 0 ≤ y) (hy1 : y ≤ 100000) (A : Option Addr) (cap : Nat) (w : World) (hi : IsL w A (tabN G n (m * n)).length (tabN G n (m * n))) :
    Calls Tryz.prog 86 #[.agg #[.int .i64 n, .int .i64 y, .int .i64 m, .slice A (tabN G n (m * n)).length cap]] w (OutP w (resT G) (.int .i64 (resZ G))) := by
  have hre := fun wx hx => rleast_tab G n m y hB hn2 hm2 hnm hy0 hy1 A cap wx hx
  obtain ⟨h1, h2⟩ := hB.lst
  have hla := hB.lst_cells
  have hl0 := h1.a0
  have hl1 := h1.c0
  obtain ⟨T, hT⟩ : ∃ T, T = lst G := ⟨_, rfl⟩
  obtain ⟨R, hR⟩ : ∃ R, R = resT G := ⟨_, rfl⟩
  obtain ⟨Z, hZ⟩ : ∃ Z, Z = resZ G := ⟨_, rfl⟩
  rw [← hR, ← hZ]
  unfold resT at hR
  unfold resZ at hZ
  rw [← hT] at hre hR hZ hla hl0 hl1
  obtain ⟨l, hl⟩ : ∃ l, l = (tabN G n (m * n)).length := ⟨_, rfl⟩
  have HI := Lib.hid hi
  rw [← hl] at hre ⊢
  have HRE := Lib.hid hre
  have HR := Lib.hid (And.intro hR hZ)
  have hnm2 : (n : Int) * m ≤ 1000000 := by rw [← Int.natCast_mul]; omega
  obtain ⟨ar, har⟩ : ∃ ar, ar = T.a * T.c := ⟨_, rfl⟩
  have har0 : 0 ≤ ar := by rw [har]; exact Int.mul_nonneg (by omega) (by omega)
  have kar : IntKind.i64.wrap (T.a * T.c) = ar := by rw [har]; exact IntWalk.i64_in _ (by omega)
  rw [← har] at HR
  clear hi hre h1 h2 hla hl0 hl1 hT hR hZ har
  have hl' := Lib.hid hl
  clear hl
  go_enter Tryz.func86, Tryz.ntmps86
  go_wp2_with fail
  obtain ⟨a0, a1, a2, a3⟩ := al2 w (.cells #[.int .i64 n, .int .i64 y, .int .i64 m, .slice A l cap] 24) (.cells #[.int .i64 0, .int .i64 0, .int .i64 0, .slice none 0 0] 24)
  obtain ⟨V, hV⟩ : ∃ V, V = (w.alloc (.cells #[.int .i64 n, .int .i64 y, .int .i64 m, .slice A l cap] 24)).alloc (.cells #[.int .i64 0, .int .i64 0, .int .i64 0, .slice none 0 0] 24) := ⟨_, rfl⟩
  rw [← hV] at a0 a1 a2 a3 ⊢
  refine (HRE.out V (by rw [hl'.out]; exact IsL.below a3 HI.out)).mono ?_
  rintro e w1 ⟨v, rfl, hown, hb1⟩
  have H1 := Lib.hid (show PBox w1 (w.heap.size + 1) 0 0 0 (.slice none 0 0) ∧ Below w.heap.size w w1 from ⟨PBox.keep (w := V) a2 hb1, a3.trans (hb1.mono a3.size)⟩)
  have hsz : w.heap.size + 1 < V.heap.size := by omega
  obtain ⟨A1, k1, rfl, -⟩ := hown.isL
  have HO := Lib.hid (And.intro hown hsz)
  clear hV a0 a1 a2 a3 hb1 hown hsz HRE
  go_upto_region 2 with fail
  have hbn := below_new w1 (.cells #[.int .i64 T.a, .int .i64 T.b, .int .i64 T.c, .slice A1 T.xs.length k1] 24)
  have hbo : PBox (w1.alloc (.cells #[.int .i64 T.a, .int .i64 T.b, .int .i64 T.c, .slice A1 T.xs.length k1] 24)) w1.heap.size T.a T.b T.c (.slice A1 T.xs.length k1) := PBox.new w1 _ _ _ _
  obtain ⟨W2, hW2⟩ : ∃ W2, W2 = w1.alloc (.cells #[.int .i64 T.a, .int .i64 T.b, .int .i64 T.c, .slice A1 T.xs.length k1] 24) := ⟨_, rfl⟩
  rw [← hW2] at hbn hbo ⊢
  have hr2 := H1.out.1.keep hbn
  have hbw := H1.out.2.trans (hbn.mono H1.out.2.size)
  have hown2 := OwnI.keep hbn HO.out.1
  have hne : w.heap.size + 1 ≠ w1.heap.size := by have := (Array.getElem?_eq_some_iff.1 H1.out.1).1; omega
  obtain ⟨q0, q1, q2, q3, q4⟩ := hbo.cells
  clear hW2 hbo
  by_cases h144 : 144 < ar
  · have d1 : decide (144 < ar) = true := decide_eq_true h144
    obtain ⟨hR, hZ⟩ := HR.out
    rw [if_neg (by omega)] at hR hZ
    subst hZ
    have HT2 := Lib.hid hR
    have HP := Lib.hid (put_zero hr2 hbw (by omega))
    obtain ⟨r0, r1, r2, r3, r4⟩ := PBox.cells hr2
    have f0 : (W2).frozen? ⟨w.heap.size + 1, 0, none⟩ = false := frozen_of_row (W2) (w.heap.size + 1) 0 _ _ hr2
    have f1 : (W2).frozen? ⟨w.heap.size + 1, 1, none⟩ = false := frozen_of_row (W2) (w.heap.size + 1) 1 _ _ hr2
    have f2 : (W2).frozen? ⟨w.heap.size + 1, 2, none⟩ = false := frozen_of_row (W2) (w.heap.size + 1) 2 _ _ hr2
    have f3 : (W2).frozen? ⟨w.heap.size + 1, 3, none⟩ = false := frozen_of_row (W2) (w.heap.size + 1) 3 _ _ hr2
    clear hR HR h144 hbn hr2 hbw hown2
    go_wp2
    refine bodyPost_ret (v := .tuple #[.agg #[.int .i64 0, .int .i64 0, .int .i64 0, .slice none 0 0], .int .i64 4]) (ret_pat2 rfl rfl rfl HP.out.1) rfl ?_
    rw [HT2.out]
    exact OutP.zero HP.out.2
  · have d1 : decide (144 < ar) = false := decide_eq_false h144
    obtain ⟨hR, hZ⟩ := HR.out
    rw [if_pos (by omega)] at hR hZ
    subst hZ
    subst hR
    have HP := Lib.hid (put_ret hr2 hbw (by omega) R _ hown2 (by have := HO.out.2; omega) HO.out.2)
    obtain ⟨r0, r1, r2, r3, r4⟩ := PBox.cells hr2
    have f0 : (W2).frozen? ⟨w.heap.size + 1, 0, none⟩ = false := frozen_of_row (W2) (w.heap.size + 1) 0 _ _ hr2
    have f1 : (W2).frozen? ⟨w.heap.size + 1, 1, none⟩ = false := frozen_of_row (W2) (w.heap.size + 1) 1 _ _ hr2
    have f2 : (W2).frozen? ⟨w.heap.size + 1, 2, none⟩ = false := frozen_of_row (W2) (w.heap.size + 1) 2 _ _ hr2
    have f3 : (W2).frozen? ⟨w.heap.size + 1, 3, none⟩ = false := frozen_of_row (W2) (w.heap.size + 1) 3 _ _ hr2
    clear HR h144 hbn hr2 hbw hown2
    go_wp2
    refine bodyPost_ret (v := .tuple #[.agg #[.int .i64 R.a, .int .i64 R.b, .int .i64 R.c, .slice A1 R.xs.length k1], .int .i64 0]) (ret_pat2 rfl rfl rfl HP.out.1) rfl ?_
    exact ⟨_, rfl, HP.out.2⟩
set_option maxRecDepth 100000 in
set_option maxHeartbeats 2000000 in
theorem rswell_any (p : PatD) (hl : p.xs.length ≤ 1000000) (t : Int) (A : Option Addr) (cap : Nat) (w : World) (hi : PatIn w p A) :
    Calls Tryz.prog 56 #[.agg #[.int .i64 p.a, .int .i64 p.b, .int .i64 p.c, .slice A p.xs.length cap], .int .i64 t] w (OutP w (sweT p t) (.int .i64 (sweE p t))) := by
  obtain ⟨T, hT⟩ : ∃ T, T = sweT p t := ⟨_, rfl⟩
  obtain ⟨Z, hZ⟩ : ∃ Z, Z = sweE p t := ⟨_, rfl⟩
  obtain ⟨Y, hY⟩ : ∃ Y, Y = sweZ p t := ⟨_, rfl⟩
  obtain ⟨E, hE⟩ : ∃ E, E = valP p := ⟨_, rfl⟩
  rw [← hT, ← hZ]
  unfold sweT at hT
  unfold sweE at hZ
  rw [← hY] at hT hZ
  have HY := Lib.hid hY
  unfold sweZ at hY
  rw [← hE] at hY
  have HYU := Lib.hid hY
  have HV := Lib.hid (fun w hi => rvalidateP_any p hl E hE.symm A cap w hi)
  have HT := Lib.hid (And.intro hT hZ)
  have HE := Lib.hid hE
  have HI := Lib.hid hi
  have hwi := fun w => pwithin_any t 1 12 _ rfl w
  obtain ⟨f, hf⟩ : ∃ f, f = (decide (1 ≤ t) && decide (t ≤ 12)) := ⟨_, rfl⟩
  rw [← hf] at hwi
  have HWI := Lib.hid hwi
  have HF := Lib.hid hf
  clear hi hT hE hZ hY hwi hf
  go_enter Tryz.func56, Tryz.ntmps56
  go_wp2_with fail
  obtain ⟨a0, a1, a2, a3⟩ := al2 w (.cells #[.int .i64 p.a, .int .i64 p.b, .int .i64 p.c, .slice A p.xs.length cap] 24) (.cells #[.int .i64 0, .int .i64 0, .int .i64 0, .slice none 0 0] 24)
  obtain ⟨V, hV⟩ : ∃ V, V = (w.alloc (.cells #[.int .i64 p.a, .int .i64 p.b, .int .i64 p.c, .slice A p.xs.length cap] 24)).alloc (.cells #[.int .i64 0, .int .i64 0, .int .i64 0, .slice none 0 0] 24) := ⟨_, rfl⟩
  rw [← hV] at a0 a1 a2 a3 ⊢
  refine (HV.out V (HI.out.below a3)).mono ?_
  rintro e w1 ⟨rfl, hb1⟩
  have H1 := Lib.hid (show PBox w1 w.heap.size p.a p.b p.c (.slice A p.xs.length cap) ∧ PBox w1 (w.heap.size + 1) 0 0 0 (.slice none 0 0) ∧ Below w.heap.size w w1 from
    ⟨PBox.keep (w := V) a1 hb1, PBox.keep (w := V) a2 hb1, a3.trans (hb1.mono a3.size)⟩)
  clear hV a0 a1 a2 a3 HV hb1 V
  by_cases hz : E = 0
  · subst hz
    have hY := HYU.out
    rw [if_neg (by simp)] at hY
    cases f with
    | false =>
      have ht : t < 1 ∨ 12 < t := by
        have := HF.out
        rcases Int.lt_or_le t 1 with h | h
        · exact .inl h
        · rcases Int.lt_or_le 12 t with h2 | h2
          · exact .inr h2
          · rw [decide_eq_true h, decide_eq_true h2] at this; cases this
      rw [if_pos ht] at hY
      have HT2 := Lib.hid (show T = zeroP ∧ Z = 1 by rw [HT.out.1, HT.out.2, hY, if_pos (by decide), if_pos (by decide)]; exact ⟨rfl, rfl⟩)
      have HP := Lib.hid (put_zero H1.out.2.1 H1.out.2.2 (by omega))
      have hZ1 := HT2.out.2
      subst hZ1
      obtain ⟨r0, r1, r2, r3, r4⟩ := PBox.cells H1.out.2.1
      have f0 : (w1).frozen? ⟨w.heap.size + 1, 0, none⟩ = false := frozen_of_row (w1) (w.heap.size + 1) 0 _ _ H1.out.2.1
      have f1 : (w1).frozen? ⟨w.heap.size + 1, 1, none⟩ = false := frozen_of_row (w1) (w.heap.size + 1) 1 _ _ H1.out.2.1
      have f2 : (w1).frozen? ⟨w.heap.size + 1, 2, none⟩ = false := frozen_of_row (w1) (w.heap.size + 1) 2 _ _ H1.out.2.1
      have f3 : (w1).frozen? ⟨w.heap.size + 1, 3, none⟩ = false := frozen_of_row (w1) (w.heap.size + 1) 3 _ _ H1.out.2.1
      clear HT HE H1 HY HYU hY ht
      go_wp2_with fail
      refine (HWI.out _).mono ?_
      rintro e w2 ⟨rfl, rfl⟩
      go_wp2
      refine bodyPost_ret (v := .tuple #[.agg #[.int .i64 0, .int .i64 0, .int .i64 0, .slice none 0 0], .int .i64 1]) (ret_pat2 rfl rfl rfl HP.out.1) rfl ?_
      rw [HT2.out.1]
      exact OutP.zero HP.out.2
    | true =>
      have ht : 1 ≤ t ∧ t ≤ 12 := by
        have := HF.out.symm
        rw [Bool.and_eq_true, decide_eq_true_eq, decide_eq_true_eq] at this
        exact this
      rw [if_neg (by omega)] at hY
      obtain ⟨hT, hZ⟩ := HT.out
      rw [hY, if_neg (by simp)] at hT hZ
      have hv : valP p = 0 := HE.out.symm
      have hg := valP_zero hv
      obtain ⟨hLst, hLeq⟩ := (lst_pat hv).lst
      have hLc := (lst_pat hv).lst_col
      have hLa := (lst_pat hv).lst_cells
      have hLg := (lst_pat hv).good (by have := hg.ac; omega) hg.cols
      have hrl := fun wx hx => rleast_q p hg.ok.wide A cap wx hx
      obtain ⟨G, hG⟩ : ∃ G, G = sweF t (colF p) := ⟨_, rfl⟩
      rw [← hG] at hT hZ
      obtain ⟨q, hq⟩ : ∃ q, q = lst (colF p) := ⟨_, rfl⟩
      rw [← hq] at hrl hLst hLg hLc
      have la0 := hLg.a0
      have la1 := hLg.a1
      have lb0 := hLg.b0
      have lb1 := hLg.b1
      have lc0 := hLg.c0
      have lc1 := hLg.c1
      have lac := hLg.ac
      have hbase : Base G (q.a * t) (q.b * t) (q.c * t) := by rw [hG]; exact hLst.toBase.swell (by omega)
      have HQW := Lib.hid (And.intro hLg hLc)
      obtain ⟨a, b, c, xs⟩ := q
      simp only at la0 la1 lb0 lb1 lc0 lc1 lac hbase hrl
      obtain ⟨n, hn⟩ : ∃ n : Nat, t * a = n := ⟨(t * a).toNat, by have := Int.mul_nonneg (show 0 ≤ t by omega) (show 0 ≤ a by omega); omega⟩
      obtain ⟨m, hm⟩ : ∃ m : Nat, t * c = m := ⟨(t * c).toNat, by have := Int.mul_nonneg (show 0 ≤ t by omega) (show 0 ≤ c by omega); omega⟩
      obtain ⟨y, hy⟩ : ∃ y, t * b = y := ⟨_, rfl⟩
      have hn1 : (n : Int) ≤ 12 * 144 := by rw [← hn]; exact Int.mul_le_mul ht.2 la1 (by omega) (by omega)
      have hm1 : (m : Int) ≤ 12 * 144 := by rw [← hm]; exact Int.mul_le_mul ht.2 lc1 (by omega) (by omega)
      have hy0 : 0 ≤ y := by rw [← hy]; exact Int.mul_nonneg (by omega) (by omega)
      have hy1 : y ≤ 12 * 144 := by rw [← hy]; exact Int.mul_le_mul ht.2 (by omega) (by omega) (by omega)
      have hnm : n * m ≤ 1000000 := by
        have e : (n : Int) * m = (t * t) * (a * c) := by
          rw [← hn, ← hm, Int.mul_assoc, Int.mul_left_comm a t c, ← Int.mul_assoc]
        have h1 : (t * t) * (a * c) ≤ (12 * 12) * 144 := Int.mul_le_mul (Int.mul_le_mul ht.2 ht.2 (by omega) (by omega)) lac (Int.mul_nonneg (by omega) (by omega)) (by omega)
        rw [← e, ← Int.natCast_mul] at h1
        omega
      rw [Int.mul_comm a t, Int.mul_comm b t, Int.mul_comm c t, hn, hm, hy] at hbase
      have k1 : IntKind.i64.wrap (t * a) = (n : Int) := by rw [hn]; exact IntWalk.i64_in _ (by omega)
      have k2 : IntKind.i64.wrap (t * b) = y := by rw [hy]; exact IntWalk.i64_in _ (by omega)
      have k3 : IntKind.i64.wrap (t * c) = (m : Int) := by rw [hm]; exact IntWalk.i64_in _ (by omega)
      have HTO := Lib.hid (fun Ax cx wx hx => told_any G n m y hbase (by omega) (by omega) hnm hy0 (by omega) Ax cx wx hx)
      have HRL := Lib.hid hrl
      have HGG := Lib.hid (And.intro hG hq)
      have HTZ := Lib.hid (And.intro hT hZ)
      clear hT hZ hv hg hLst hLeq hLc hLa hLg hrl hG hbase HT HE HY HYU hY hn hm hy lac hq
      obtain ⟨q0, q1, q2, q3, q4⟩ := H1.out.1.cells
      go_wp2_with fail
      refine (HWI.out _).mono ?_
      rintro e w2 ⟨rfl, rfl⟩
      go_wp2_with fail
      refine (HRL.out w1 (HI.out.below H1.out.2.2)).mono ?_
      rintro e w3 ⟨v, rfl, ho3, hb3⟩
      obtain ⟨Aq, cq, rfl, hLq⟩ := ho3.isL
      obtain ⟨q, hqd⟩ : ∃ q : PatD, q = ⟨a, b, c, xs⟩ := ⟨_, rfl⟩
      have hpq : PatIn w3 q Aq := by rw [hqd]; exact hLq
      have HC := Lib.hid (fun (i k : Nat) (hi : i < n) (hk : k < m) w2 (hp2 : PatIn w2 q Aq) => (show Calls Tryz.prog 80 #[.agg #[.int .i64 a, .int .i64 b, .int .i64 c, .slice Aq xs.length cq], .int .i64 ((i : Int) / t), .int .i64 ((k : Int) / t)] w2 fun e w3 => e = .returned (.int .i64 (G i k)) ∧ Below w2.heap.size w2 w3 from by
        have e1 := ediv_bd (show 0 < t by omega) (show -(100000 : Int) ≤ (i : Int) by omega) (show (i : Int) ≤ 100000 by omega)
        have e2 := ediv_bd (show 0 < t by omega) (show -(100000 : Int) ≤ (k : Int) by omega) (show (k : Int) ≤ 100000 by omega)
        have := rcolor_any ⟨a, b, c, xs⟩ HQW.out.1.ok.wide Aq xs.length cq ((i : Int) / t) ((k : Int) / t) (by omega) (by omega) (by omega) (by omega) w2 (by rw [hqd] at hp2; exact hp2)
        rw [HQW.out.2] at this
        rw [HGG.out.1]; exact this))
      obtain ⟨lq, hlq⟩ : ∃ lq, lq = xs.length := ⟨_, rfl⟩
      rw [← hlq] at HC ⊢
      have hbn := below_new w3 (.cells #[.int .i64 a, .int .i64 b, .int .i64 c, .slice Aq lq cq] 24)
      have hbo : PBox (w3.alloc (.cells #[.int .i64 a, .int .i64 b, .int .i64 c, .slice Aq lq cq] 24)) w3.heap.size a b c (.slice Aq lq cq) := PBox.new w3 _ _ _ _
      have H3 := Lib.hid (And.intro (H1.out.2.1.keep hb3) (And.intro (H1.out.2.2.trans (hb3.mono H1.out.2.2.size)) hpq))
      clear hlq hqd hpq hLq ho3 hb3 H1 q0 q1 q2 q3 q4
      go_upto_region 7 with fail
      obtain ⟨W3, hW3⟩ : ∃ W3, W3 = w3.alloc (.cells #[.int .i64 a, .int .i64 b, .int .i64 c, .slice Aq lq cq] 24) := ⟨_, rfl⟩
      rw [← hW3] at hbn hbo ⊢
      obtain ⟨q0, q1, q2, q3, q4⟩ := hbo.cells
      have HB := Lib.hid (And.intro hbn hbo)
      clear hW3 hbn hbo
      go_wp2
      have R3a := RW.new (w := w) (w1 := W3) HB.out.2 (H3.out.1.keep HB.out.1) (H3.out.2.1.trans (HB.out.1.mono H3.out.2.1.size)) (by omega) n y m
      have hbn2 := below_new W3 (.cells #[.int .i64 n, .int .i64 y, .int .i64 m, .slice none 0 0] 24)
      obtain ⟨W4, hW4⟩ : ∃ W4, W4 = W3.alloc (.cells #[.int .i64 n, .int .i64 y, .int .i64 m, .slice none 0 0] 24) := ⟨_, rfl⟩
      rw [← hW4] at R3a hbn2 ⊢
      have R3b : PIn W4 (W3.heap.size + 1) W3.heap.size q Aq := PIn.from H3.out.2.2 (HB.out.1.trans (hbn2.mono HB.out.1.size)) (by have := HB.out.1.size; omega) HB.out.1.size
      obtain ⟨ob, hob⟩ : ∃ ob, ob = W3.heap.size := ⟨_, rfl⟩
      obtain ⟨B, hB⟩ : ∃ B, B = ob + 1 := ⟨_, rfl⟩
      rw [← hob] at R3a R3b ⊢
      rw [← hB] at R3a R3b
      obtain ⟨pb, hpb⟩ : ∃ pb, pb = w3.heap.size := ⟨_, rfl⟩
      obtain ⟨rb, hrb⟩ : ∃ rb, rb = w.heap.size + 1 := ⟨_, rfl⟩
      rw [← hpb, ← hrb] at R3a
      have R3 := Lib.hid (show ∃ v, RW w W4 B pb rb ob a b c (.slice Aq lq cq) (n : Int) y (m : Int) v (tabN G n (0 * n)) ∧ PIn W4 B ob q Aq from ⟨_, by rw [Nat.zero_mul]; exact R3a, R3b⟩)
      rw [← hrb, ← hpb]
      clear R3a R3b hbn2 hW4 hob hB q0 q1 q2 q3 q4 H3 HB hpb hrb k1 k2 k3
      have hz1 : (t == 0) = false := by rw [beq_eq_false_iff_ne]; omega
      go_loopw [9] (fun t wr => ∃ k : Nat, t = .int .i64 k ∧ k ≤ m ∧ Hid (∃ v, RW w wr B pb rb ob a b c (.slice Aq lq cq) (n : Int) y (m : Int) v (tabN G n (k * n)) ∧ PIn wr B ob q Aq)) (fun t _ => m - (intOf t).toNat)
      case atStart => exact ⟨0, rfl, by omega, R3⟩
      case round =>
        clear R3
        obtain ⟨k, rfl, hk, hr⟩ := hrel
        obtain ⟨v, hT, hPI⟩ := hr.out
        obtain ⟨o0, o1, o2, o3, o4⟩ := hT.o.cells
        obtain ⟨p0, p1, p2, p3, p4⟩ := hT.p.cells
        by_cases hlt : k < m
        · have dkm : decide ((k : Int) < (m : Int)) = true := decide_eq_true (by omega)
          have R0 := Lib.hid (show ∃ v, RW w wr B pb rb ob a b c (.slice Aq lq cq) (n : Int) y (m : Int) v (tabN G n (k * n + 0)) ∧ PIn wr B ob q Aq from ⟨v, hT, hPI⟩)
          clear hr hT hPI
          go_wp2
          go_loopw [10] (fun t wq => ∃ i : Nat, t = .int .i64 i ∧ i ≤ n ∧ Hid (∃ v, RW w wq B pb rb ob a b c (.slice Aq lq cq) (n : Int) y (m : Int) v (tabN G n (k * n + i)) ∧ PIn wq B ob q Aq)) (fun t _ => n - (intOf t).toNat)
          case atStart => exact ⟨0, rfl, by omega, R0⟩
          case round =>
            clear R0 o0 o1 o2 o3 o4 p0 p1 p2 p3 p4 v
            obtain ⟨i, rfl, hi, hq⟩ := hrel
            obtain ⟨v, hT, hPI⟩ := hq.out
            obtain ⟨p0, p1, p2, p3, p4⟩ := hT.p.cells
            obtain ⟨o0, o1, o2, o3, o4⟩ := hT.o.cells
            by_cases hil : i < n
            · have din : decide ((i : Int) < (n : Int)) = true := decide_eq_true (by omega)
              have HT := Lib.hid (And.intro hT hPI)
              have hlen : k * n + i ≤ 1000000000 - 1 := by
                have h1 : (k + 1) * n ≤ m * n := Nat.mul_le_mul_right n (by omega)
                rw [Nat.add_mul, Nat.one_mul, Nat.mul_comm m n] at h1
                omega
              have HTN := Lib.hid (tabN_step (F := G) (k := k) hil)
              have HCC := Lib.hid (HC.out i k hil hlt)
              obtain ⟨z, hz⟩ : ∃ z, z = G i k := ⟨_, rfl⟩
              have HZ := Lib.hid hz
              have hpB := hT.pB
              have hoB := hT.oB
              have kx : ((i : Int)).tdiv t = (i : Int) / t := Int.tdiv_eq_ediv_of_nonneg (by omega); have ky : ((k : Int)).tdiv t = (k : Int) / t := Int.tdiv_eq_ediv_of_nonneg (by omega); have ex := ediv_bd (show 0 < t by omega) (show -(100000 : Int) ≤ (i : Int) by omega) (show (i : Int) ≤ 100000 by omega); have ey := ediv_bd (show 0 < t by omega) (show -(100000 : Int) ≤ (k : Int) by omega) (show (k : Int) ≤ 100000 by omega)
              clear hT hq hz hPI
              go_upto_region 14 with fail
              refine RP.region_treeP (C := fun w' => ∃ x : SubW B wr, w' = x.val) (fun _ _ _ => False) [0, 1, 2, 3, 4, 5, 6, 7, 8] (OT.seq [9, 10, 11, 12]) 13 (fun _ _ _ h => h.elim) (by kernel_rfl) (by kernel_rfl) (sub_start B wr) ?_
              simp only [pickL, List.getElem?_cons_zero, List.getElem?_cons_succ]
              repeat (go_big_quiet_step (fail))
              refine wpQuiet_nil ?_
              obtain ⟨w2, hw2⟩ : ∃ w2 : World, w2 = { wr with drawn := wr.drawn + 1 } := ⟨_, rfl⟩
              rw [← hw2]
              have hb2 : Below wr.heap.size wr w2 := by rw [hw2]; exact (Below.refl _ _).drew
              have hsz := HT.out.1.sz
              clear hw2
              simp only [RP.treeS, OT.seq, atOp, List.getElem?_cons_zero, List.getElem?_cons_succ]
              refine ⟨sub_of (hb2.mono hsz), ?_⟩
              skip
              refine RP.p_call 80 #[.agg #[.int .i64 a, .int .i64 b, .int .i64 c, .slice Aq lq cq], .int .i64 ((i : Int) / t), .int .i64 ((k : Int) / t)] rfl (by go_simp) ?_
              refine (HCC.out w2 ((HT.out.2.in hsz).below hb2)).mono ?_
              rintro e w3 ⟨rfl, hb3⟩
              have hb3' := hb2.trans (hb3.mono hb2.size)
              refine .inl ⟨_, rfl, ?_⟩
              rw [← HZ.out]
              refine ⟨sub_of (hb3'.mono hsz), ?_⟩
              refine RP.p_val (.slice (some ⟨w3.heap.size, 0, none⟩) 1 1) (w3.alloc (.cells #[.int .i64 z] 3)) rfl (by go_simp) ?_
              have hal := (Below.refl w3.heap.size w3).alloc (Nat.le_refl _) (.cells #[.int .i64 z] 3)
              have hb4 := hb3'.trans (hal.mono hb3'.size)
              obtain ⟨v', w5, r1, r2, r3, -⟩ := ap_i64 w3 22 B v _ z (OwnI.keep hb3' HT.out.1.own) (by rw [tabN_length]; omega) (Nat.le_trans hsz hb3'.size)
              obtain ⟨A5, n5, hv5, -⟩ := r2.isL
              obtain ⟨m5, hm5⟩ : ∃ m5, m5 = (tabN G n (k * n + i) ++ [z]).length := ⟨_, rfl⟩
              rw [← hm5] at hv5
              clear hm5
              subst hv5
              have hb5 := (hb3'.mono hsz).grown r3 (Nat.le_trans hsz hb3'.size) (fun g hg => (HT.out.1.own.lt' g hg).1)
              refine ⟨sub_of (hb4.mono hsz), ?_⟩
              refine RP.p_val (.slice A5 m5 n5) w5 rfl (ap_exec _ _ 22 rfl v (.slice (some ⟨w3.heap.size, 0, none⟩) 1 1) _ w5 rfl rfl r1) ?_
              refine ⟨sub_of hb5, ?_⟩
              refine RP.p_val (.pointer (some ⟨ob, 3, none⟩)) w5 rfl (by go_simp) ?_
              refine ⟨sub_of hb5, ?_⟩
              have z1 := (hb5.cell (p := ⟨ob, 3, none⟩) hoB).trans o3
              have z2 : w5.frozen? ⟨ob, 3, none⟩ = false := frozen_of_row w5 ob 3 _ _ ((hb5.block _ hoB).trans HT.out.1.o)
              have T6 := HT.out.1.step hb5 r2
              rw [HZ.out, ← HTN.out] at T6
              have HT6 := Lib.hid (And.intro T6 (HT.out.2.step hb5 (.slice A5 m5 n5)))
              refine RP.p_skip (w5.setCell ⟨ob, 3, none⟩ (.slice A5 m5 n5)) rfl (by go_simp) ?_
              obtain ⟨w6, hw6⟩ : ∃ w6, w6 = w5.setCell ⟨ob, 3, none⟩ (.slice A5 m5 n5) := ⟨_, rfl⟩
              rw [← hw6] at HT6 ⊢
              clear hw6 T6 z1 z2 hb5 r1 r2 r3 hb4 hal hb3' hb3 hb2 HT o0 o1 o2 o3 o4 p0 p1 p2 p3 p4 hpB hoB HCC
              go_simp
              go_wp2
              go_roundw
              case rel => exact ⟨i + 1, by go_num, by omega, Lib.hid ⟨_, HT6.out⟩⟩
              case measure => simp [intOf]; omega
            · obtain rfl : n = i := by omega
              have din : decide ((n : Int) < (n : Int)) = false := decide_eq_false (by omega)
              have R2 := Lib.hid (show ∃ v, RW w wr B pb rb ob a b c (.slice Aq lq cq) (n : Int) y (m : Int) v (tabN G n ((k + 1) * n)) ∧ PIn wr B ob q Aq from by rw [Nat.add_mul, Nat.one_mul]; exact ⟨v, hT, hPI⟩)
              clear hq hT hPI
              go_wp2
              go_roundw
              case rel => exact ⟨k + 1, by go_num, by omega, R2⟩
              case measure => simp [intOf]; omega
        · obtain rfl : m = k := by omega
          have dkm : decide ((m : Int) < (m : Int)) = false := decide_eq_false (by omega)
          have HTE := Lib.hid hT
          clear hr hT hPI hlt
          obtain ⟨A1, n1, rfl, hL1⟩ := HTE.out.own.isL
          obtain ⟨l1, hl1⟩ : ∃ l1, l1 = (tabN G n (m * n)).length := ⟨_, rfl⟩
          have HTO1 := Lib.hid (HTO.out A1 n1 wr hL1)
          rw [← hl1] at HTE HTO1 o3
          clear hL1 hl1
          go_wp2_with fail
          refine HTO1.out.mono ?_
          rintro e w5 ⟨v5, rfl, ho5, hb5⟩
          rw [← HTZ.out.1] at ho5 ⊢
          rw [← HTZ.out.2]
          obtain ⟨A5, n5, rfl, -⟩ := ho5.isL
          have hr5 := HTE.out.r.keep hb5
          have HP := Lib.hid (put_ret hr5 (HTE.out.below.trans (hb5.mono HTE.out.below.size)) HTE.out.wr' T _ ho5 HTE.out.below.size (Array.getElem?_eq_some_iff.1 HTE.out.r).1)
          obtain ⟨r0, r1, r2, r3, r4⟩ := PBox.cells hr5
          have f0 : (w5).frozen? ⟨rb, 0, none⟩ = false := frozen_of_row (w5) (rb) 0 _ _ hr5
          have f1 : (w5).frozen? ⟨rb, 1, none⟩ = false := frozen_of_row (w5) (rb) 1 _ _ hr5
          have f2 : (w5).frozen? ⟨rb, 2, none⟩ = false := frozen_of_row (w5) (rb) 2 _ _ hr5
          have f3 : (w5).frozen? ⟨rb, 3, none⟩ = false := frozen_of_row (w5) (rb) 3 _ _ hr5
          clear ho5 hb5 hr5 HTO1 HTE HTO o0 o1 o2 o3 o4 p0 p1 p2 p3 p4
          go_wp2
          refine bodyPost_ret (v := .tuple #[.agg #[.int .i64 T.a, .int .i64 T.b, .int .i64 T.c, .slice A5 T.xs.length n5], .int .i64 Z]) (ret_pat2 rfl rfl rfl HP.out.1) rfl ?_
          exact ⟨_, rfl, HP.out.2⟩
  · have hY := HYU.out
    rw [if_pos hz] at hY
    subst hY
    obtain ⟨hT, hZ⟩ := HT.out
    rw [if_pos hz] at hT hZ
    subst hZ
    have d1 : (Z == 0) = false := by rw [beq_eq_false_iff_ne]; exact hz
    have d2 : (Z != 0) = true := by rw [bne_iff_ne]; exact hz
    have HT2 := Lib.hid hT
    have HP := Lib.hid (put_zero H1.out.2.1 H1.out.2.2 (by omega))
    obtain ⟨r0, r1, r2, r3, r4⟩ := PBox.cells H1.out.2.1
    have f0 : (w1).frozen? ⟨w.heap.size + 1, 0, none⟩ = false := frozen_of_row (w1) (w.heap.size + 1) 0 _ _ H1.out.2.1
    have f1 : (w1).frozen? ⟨w.heap.size + 1, 1, none⟩ = false := frozen_of_row (w1) (w.heap.size + 1) 1 _ _ H1.out.2.1
    have f2 : (w1).frozen? ⟨w.heap.size + 1, 2, none⟩ = false := frozen_of_row (w1) (w.heap.size + 1) 2 _ _ H1.out.2.1
    have f3 : (w1).frozen? ⟨w.heap.size + 1, 3, none⟩ = false := frozen_of_row (w1) (w.heap.size + 1) 3 _ _ H1.out.2.1
    clear hz HT HE H1 HY HYU hT
    go_wp2
    refine bodyPost_ret (v := .tuple #[.agg #[.int .i64 0, .int .i64 0, .int .i64 0, .slice none 0 0], .int .i64 Z]) (ret_pat2 rfl rfl rfl HP.out.1) rfl ?_
    rw [HT2.out]
    exact OutP.zero HP.out.2
end Go.Proofs.YtlinldbbhdpgcaaGreatDoor
