/-
  THE REFERENCE: Shift. The table of a moved pattern.
-/
import Derived.Test.YtgmokojdlbdjeaaGreatDoorPatU
import Derived.Test.YtgmokojdlbdjeaaGreatDoorPrfD
namespace Go.Proofs.YtgmokojdlbdjeaaGreatDoor
open Go.RowKit
attribute [local go_sem] sub_cell sub_frozen
attribute [local irreducible] RP.plainUpon RP.stepC
/-- A pattern's cells lie below B, apart from the block ob. -/
def PIn (w : World) (B ob : Nat) (q : PatD) (A : Option Addr) : Prop := 0 < q.xs.length → ∃ b o, A = some ⟨b, o, none⟩ ∧ b < B ∧ b ≠ ob ∧ ∀ j, j < q.xs.length → w.cell? ⟨b, o + j, none⟩ = some (.int .i64 (q.xs.getD j 0))
theorem PIn.in {w : World} {B ob : Nat} {q : PatD} {A : Option Addr} (h : PIn w B ob q A) (hB : B ≤ w.heap.size) : PatIn w q A :=
  ⟨rfl, fun hp => by
    obtain ⟨b, o, rfl, h1, -, h3⟩ := h hp
    exact ⟨b, o, rfl, by omega, h3⟩⟩
theorem PIn.step {w w' : World} {B ob : Nat} {q : PatD} {A : Option Addr} (h : PIn w B ob q A) (hb : Below B w w') (u : Value) : PIn (w'.setCell ⟨ob, 3, none⟩ u) B ob q A := fun hp => by
  obtain ⟨b, o, rfl, h1, h2, h3⟩ := h hp
  refine ⟨b, o, rfl, h1, h2, fun j hj => ?_⟩
  exact (World.cell?_of_block (a := ⟨b, _, none⟩) ((Below.heap_setCell w' ⟨ob, 3, none⟩ u b h2).trans (hb.block b h1))).trans (h3 j hj)
theorem PIn.of {w : World} {B ob : Nat} {q : PatD} {A : Option Addr} (h : PatIn w q A) (hB : w.heap.size ≤ B) (ho : w.heap.size ≤ ob) : PIn w B ob q A := fun hp => by
  obtain ⟨b, o, rfl, h1, h2⟩ := h.2 hp
  exact ⟨b, o, rfl, by omega, by omega, h2⟩
theorem PIn.keep {w w' : World} {B ob : Nat} {q : PatD} {A : Option Addr} (h : PIn w B ob q A) (hb : Below B w w') : PIn w' B ob q A := fun hp => by
  obtain ⟨b, o, rfl, h1, h2, h3⟩ := h hp
  exact ⟨b, o, rfl, h1, h2, fun j hj => (hb.cell (p := ⟨b, _, none⟩) h1).trans (h3 j hj)⟩
theorem PIn.from {w W : World} {B ob : Nat} {q : PatD} {A : Option Addr} (h : PatIn w q A) (hb : Below w.heap.size w W) (hB : w.heap.size ≤ B) (ho : w.heap.size ≤ ob) : PIn W B ob q A := fun hp => by
  obtain ⟨b, o, rfl, h1, h2⟩ := h.2 hp
  exact ⟨b, o, rfl, by omega, by omega, fun j hj => (hb.cell (p := ⟨b, _, none⟩) h1).trans (h2 j hj)⟩
/-- Behind the new box of a table. -/
theorem RW.new {w w1 : World} {pb rb : Nat} {a b c : Int} {s : Value} (hp : PBox w1 pb a b c s) (hr : PBox w1 rb 0 0 0 (.slice none 0 0)) (hb : Below w.heap.size w w1) (hrw : w.heap.size ≤ rb) (x y z : Int) :
    RW w (w1.alloc (.cells #[.int .i64 x, .int .i64 y, .int .i64 z, .slice none 0 0] 24)) (w1.heap.size + 1) pb rb w1.heap.size a b c s x y z (.slice none 0 0) [] := by
  have h1 := (Array.getElem?_eq_some_iff.1 hp).1
  have h2 := (Array.getElem?_eq_some_iff.1 hr).1
  have hbn := (Below.refl w1.heap.size w1).alloc (Nat.le_refl _) (.cells #[.int .i64 x, .int .i64 y, .int .i64 z, .slice none 0 0] 24)
  exact ⟨hp.keep hbn, hr.keep hbn, PBox.new w1 _ _ _ _, OwnI.nil _ _, hb.trans (hbn.mono hb.size), by omega, by omega, by omega, by omega, by omega, hb.size, hrw, by simp, by have := hb.size; omega⟩
set_option maxRecDepth 100000 in
theorem rnear_any (x y : Int) (w : World) :
    Calls Tryz.prog 61 #[.int .i64 x, .int .i64 y] w fun e w' => e = .returned (.bool (!([x, y] : List Int).any farC)) ∧ w = w' := by
  obtain ⟨r, hr⟩ : ∃ r, r = !([x, y] : List Int).any farC := ⟨_, rfl⟩
  rw [← hr]
  have hwx := fun w => pwithin_any x (-100000) 100000 _ rfl w
  have hwy := fun w => pwithin_any y (-100000) 100000 _ rfl w
  have ex : (decide (-100000 ≤ x) && decide (x ≤ 100000)) = !farC x := by
    unfold farC
    by_cases h1 : x < -100000
    · rw [decide_eq_true h1, decide_eq_false (show ¬ -100000 ≤ x by omega)]; rfl
    · rw [decide_eq_false h1, decide_eq_true (show -100000 ≤ x by omega)]
      by_cases h2 : 100000 < x
      · rw [decide_eq_true h2, decide_eq_false (show ¬ x ≤ 100000 by omega)]; rfl
      · rw [decide_eq_false h2, decide_eq_true (show x ≤ 100000 by omega)]; rfl
  have ey : (decide (-100000 ≤ y) && decide (y ≤ 100000)) = !farC y := by
    unfold farC
    by_cases h1 : y < -100000
    · rw [decide_eq_true h1, decide_eq_false (show ¬ -100000 ≤ y by omega)]; rfl
    · rw [decide_eq_false h1, decide_eq_true (show -100000 ≤ y by omega)]
      by_cases h2 : 100000 < y
      · rw [decide_eq_true h2, decide_eq_false (show ¬ y ≤ 100000 by omega)]; rfl
      · rw [decide_eq_false h2, decide_eq_true (show y ≤ 100000 by omega)]; rfl
  rw [ex] at hwx
  rw [ey] at hwy
  simp only [List.any_cons, List.any_nil, Bool.or_false, Bool.not_or] at hr
  obtain ⟨fx, hfx⟩ : ∃ fx, fx = farC x := ⟨_, rfl⟩
  obtain ⟨fy, hfy⟩ : ∃ fy, fy = farC y := ⟨_, rfl⟩
  rw [← hfx] at hwx hr
  rw [← hfy] at hwy hr
  have HX := Lib.hid hwx
  have HY := Lib.hid hwy
  have HR := Lib.hid hr
  clear hwx hwy hr ex ey hfx hfy
  cases fx with
  | true =>
    go_enter Tryz.func61, Tryz.ntmps61
    go_wp2_with fail
    refine (HX.out _).mono ?_
    rintro e w1 ⟨rfl, rfl⟩
    go_wp2
    go_ret
    exact ⟨by rw [HR.out]; rfl, rfl⟩
  | false =>
    go_enter Tryz.func61, Tryz.ntmps61
    go_wp2_with fail
    refine (HX.out _).mono ?_
    rintro e w1 ⟨rfl, rfl⟩
    go_wp2_with fail
    refine (HY.out _).mono ?_
    rintro e w2 ⟨rfl, rfl⟩
    go_wp2
    go_ret
    exact ⟨by rw [HR.out]; cases fy <;> rfl, rfl⟩
/-- The least pattern of a table. -/
theorem rleast_tab (G : Int → Int → Int) (n m : Nat) (y : Int) (hB : Base G n y m) (hn2 : n ≤ 100000) (hm2 : m ≤ 100000) (hnm : n * m ≤ 1000000) (hy0 : 0 ≤ y) (hy1 : y ≤ 100000) (A : Option Addr) (cap : Nat) (w : World) (hi : IsL w A (tabN G n (m * n)).length (tabN G n (m * n))) :
    Calls Tryz.prog 57 #[.agg #[.int .i64 n, .int .i64 y, .int .i64 m, .slice A (tabN G n (m * n)).length cap]] w fun e w' => ∃ v, e = .returned (.agg #[.int .i64 (lst G).a, .int .i64 (lst G).b, .int .i64 (lst G).c, v]) ∧ OwnI w' w.heap.size v (lst G).xs ∧ Below w.heap.size w w' := by
  have hn := hB.a0
  have hm := hB.c0
  have hcol : colF ⟨n, y, m, tabN G n (m * n)⟩ = G := by
    have := hB.col
    rw [Int.toNat_natCast, Int.toNat_natCast, Nat.mul_comm n m] at this
    exact this
  have hl : (tabN G n (m * n)).length = m * n := tabN_length _ _ _
  have hmn : m * n ≤ 1000000 := by rw [Nat.mul_comm]; exact hnm
  have hW : PatW ⟨n, y, m, tabN G n (m * n)⟩ := ⟨hn, by simp only; omega, hy0, by simp only; omega, hm, by simp only; omega, by simp only; rw [hl, Int.natCast_mul, Int.mul_comm], by simp only; omega⟩
  obtain ⟨h1, h2⟩ := hB.lst
  have := rleast_any ⟨n, y, m, tabN G n (m * n)⟩ hW _ _ _ (by rw [hcol]; exact h1) A cap w hi
  rw [hcol, ← h2] at this
  exact this
set_option maxRecDepth 100000 in
set_option maxHeartbeats 2000000 in
theorem rshift_any (p : PatD) (hl : p.xs.length ≤ 1000000) (dx dy : Int) (A : Option Addr) (cap : Nat) (w : World) (hi : PatIn w p A) :
    Calls Tryz.prog 22 #[.agg #[.int .i64 p.a, .int .i64 p.b, .int .i64 p.c, .slice A p.xs.length cap], .int .i64 dx, .int .i64 dy] w (OutP w (shiftT p dx dy) (.int .i64 (chkP p [dx, dy]))) := by
  obtain ⟨T, hT⟩ : ∃ T, T = shiftT p dx dy := ⟨_, rfl⟩
  obtain ⟨Z, hZ⟩ : ∃ Z, Z = chkP p [dx, dy] := ⟨_, rfl⟩
  obtain ⟨E, hE⟩ : ∃ E, E = valP p := ⟨_, rfl⟩
  rw [← hT, ← hZ]
  unfold shiftT at hT
  rw [← hZ] at hT
  have HZ := Lib.hid hZ
  unfold chkP at hZ
  rw [← hE] at hZ
  have HZU := Lib.hid hZ
  have HV := Lib.hid (fun w hi => rvalidateP_any p hl E hE.symm A cap w hi)
  have hne := rnear_any dx dy
  obtain ⟨f, hf⟩ : ∃ f, f = ([dx, dy] : List Int).any farC := ⟨_, rfl⟩
  rw [← hf] at hne HZU
  have HNE := Lib.hid hne
  have HT := Lib.hid hT
  have HE := Lib.hid hE
  have HI := Lib.hid hi
  clear hi hT hE hZ hne hf
  obtain ⟨lq, hlq⟩ : ∃ lq, lq = p.xs.length := ⟨_, rfl⟩
  have HLQ := Lib.hid hlq
  rw [← hlq] at HV ⊢
  clear hlq
  obtain ⟨q, hq⟩ : ∃ q, q = p := ⟨_, rfl⟩
  obtain ⟨a, b, c, xs⟩ := p
  simp only at HV HLQ hl ⊢
  rw [← hq] at HV HI HT HE HZ
  have HQ := Lib.hid hq
  clear hq
  go_enter Tryz.func22, Tryz.ntmps22
  go_wp2_with fail
  obtain ⟨a0, a1, a2, a3⟩ := al2 w (.cells #[.int .i64 a, .int .i64 b, .int .i64 c, .slice A lq cap] 24) (.cells #[.int .i64 0, .int .i64 0, .int .i64 0, .slice none 0 0] 24)
  obtain ⟨V, hV⟩ : ∃ V, V = (w.alloc (.cells #[.int .i64 a, .int .i64 b, .int .i64 c, .slice A lq cap] 24)).alloc (.cells #[.int .i64 0, .int .i64 0, .int .i64 0, .slice none 0 0] 24) := ⟨_, rfl⟩
  rw [← hV] at a0 a1 a2 a3 ⊢
  refine (HV.out V (HI.out.below a3)).mono ?_
  rintro e w1 ⟨rfl, hb1⟩
  have H1 := Lib.hid (show PBox w1 w.heap.size a b c (.slice A lq cap) ∧ PBox w1 (w.heap.size + 1) 0 0 0 (.slice none 0 0) ∧ Below w.heap.size w w1 from
    ⟨PBox.keep (w := V) a1 hb1, PBox.keep (w := V) a2 hb1, a3.trans (hb1.mono a3.size)⟩)
  clear hV a0 a1 a2 a3 HV hb1 V
  by_cases hz : E = 0
  · subst hz
    have hZ := HZU.out
    rw [if_neg (by simp)] at hZ
    cases f with
    | true =>
      rw [if_pos rfl] at hZ
      subst hZ
      have HT2 := Lib.hid (show T = zeroP by rw [HT.out, if_pos (by decide)])
      have HP := Lib.hid (put_zero H1.out.2.1 H1.out.2.2 (by omega))
      obtain ⟨r0, r1, r2, r3, r4⟩ := PBox.cells H1.out.2.1
      have f0 : (w1).frozen? ⟨w.heap.size + 1, 0, none⟩ = false := frozen_of_row (w1) (w.heap.size + 1) 0 _ _ H1.out.2.1
      have f1 : (w1).frozen? ⟨w.heap.size + 1, 1, none⟩ = false := frozen_of_row (w1) (w.heap.size + 1) 1 _ _ H1.out.2.1
      have f2 : (w1).frozen? ⟨w.heap.size + 1, 2, none⟩ = false := frozen_of_row (w1) (w.heap.size + 1) 2 _ _ H1.out.2.1
      have f3 : (w1).frozen? ⟨w.heap.size + 1, 3, none⟩ = false := frozen_of_row (w1) (w.heap.size + 1) 3 _ _ H1.out.2.1
      clear HT HE H1 HZ HZU
      go_wp2_with fail
      refine (HNE.out _).mono ?_
      rintro e w2 ⟨rfl, rfl⟩
      go_wp2
      refine bodyPost_ret (v := .tuple #[.agg #[.int .i64 0, .int .i64 0, .int .i64 0, .slice none 0 0], .int .i64 1]) (ret_pat2 rfl rfl rfl HP.out.1) rfl ?_
      rw [HT2.out]
      exact OutP.zero HP.out.2
    | false =>
      rw [if_neg (by simp)] at hZ
      subst hZ
      have hT := HT.out
      rw [if_neg (by simp)] at hT
      obtain ⟨hv, hfar⟩ := chkP_zero HZ.out.symm
      have hg := valP_zero hv
      have hfx := hfar dx (by simp)
      have hfy := hfar dy (by simp)
      have hqa : q.a = a := by rw [HQ.out]
      have hqb : q.b = b := by rw [HQ.out]
      have hqc : q.c = c := by rw [HQ.out]
      have hqx : q.xs = xs := by rw [HQ.out]
      obtain ⟨n, hn⟩ : ∃ n : Nat, a = n := ⟨a.toNat, by have := hg.a0; omega⟩
      obtain ⟨m, hm⟩ : ∃ m : Nat, c = m := ⟨c.toNat, by have := hg.c0; omega⟩
      subst hn
      subst hm
      obtain ⟨G, hG⟩ : ∃ G, G = shiftF (colF q) dx dy := ⟨_, rfl⟩
      have hbase : Base G n b m := by rw [hG, ← hqa, ← hqb, ← hqc]; exact (lst_pat hv).shift
      rw [← hG] at hT
      have hn144 : n ≤ 144 := by have := hg.a1; omega
      have hm144 : m ≤ 144 := by have := hg.c1; omega
      have hnm : n * m ≤ 144 := by
        have := hg.ac
        rw [hqa, hqc, ← Int.natCast_mul] at this
        omega
      have HC := Lib.hid (fun (i k : Nat) (hi : i < n) (hk : k < m) w2 (hp2 : PatIn w2 q A) => (show Calls Tryz.prog 62 #[.agg #[.int .i64 n, .int .i64 b, .int .i64 m, .slice A lq cap], .int .i64 ((i : Int) - dx), .int .i64 ((k : Int) - dy)] w2 fun e w3 => e = .returned (.int .i64 (G i k)) ∧ Below w2.heap.size w2 w3 from by
        have := rcolor_any q hg.ok.wide A lq cap (i - dx) (k - dy) (by omega) (by omega) (by omega) (by omega) w2 (by rw [HLQ.out, ← hqx]; exact hp2)
        rw [hqa, hqb, hqc] at this
        rw [hG]; exact this))
      have HRE := Lib.hid (fun Ax cx wx hx => rleast_tab G n m b hbase (by omega) (by omega) (by omega) (by have := hg.b0; omega) (by have := hg.b1; omega) Ax cx wx hx)
      have HTT := Lib.hid hT
      clear hT hv hfar hg hG hbase HT HE HZ HZU hqa hqb hqc hqx
      obtain ⟨q0, q1, q2, q3, q4⟩ := H1.out.1.cells
      go_wp2_with fail
      refine (HNE.out _).mono ?_
      rintro e w2 ⟨rfl, rfl⟩
      go_wp2
      have R3a := RW.new (w := w) (w1 := w1) H1.out.1 H1.out.2.1 H1.out.2.2 (by omega) n b m
      have hbw : Below w.heap.size w (w1.alloc (.cells #[.int .i64 n, .int .i64 b, .int .i64 m, .slice none 0 0] 24)) := H1.out.2.2.alloc H1.out.2.2.size _
      obtain ⟨W3, hW3⟩ : ∃ W3, W3 = w1.alloc (.cells #[.int .i64 n, .int .i64 b, .int .i64 m, .slice none 0 0] 24) := ⟨_, rfl⟩
      rw [← hW3] at R3a hbw ⊢
      have R3b : PIn W3 (w1.heap.size + 1) w1.heap.size q A := PIn.from HI.out hbw (by have := H1.out.2.2.size; omega) H1.out.2.2.size
      obtain ⟨y, hy⟩ : ∃ y, y = b := ⟨_, rfl⟩
      subst hy
      obtain ⟨ob, hob⟩ : ∃ ob, ob = w1.heap.size := ⟨_, rfl⟩
      obtain ⟨B, hB⟩ : ∃ B, B = ob + 1 := ⟨_, rfl⟩
      rw [← hob] at R3a R3b ⊢
      rw [← hB] at R3a R3b
      obtain ⟨pb, hpb⟩ : ∃ pb, pb = w.heap.size := ⟨_, rfl⟩
      obtain ⟨rb, hrb⟩ : ∃ rb, rb = w.heap.size + 1 := ⟨_, rfl⟩
      have R3c : RW w W3 B pb rb ob n y m (.slice A lq cap) n y m (.slice none 0 0) [] := by rw [hpb, hrb]; exact R3a
      have R3 := Lib.hid (show ∃ v, RW w W3 B pb rb ob n y m (.slice A lq cap) (n : Int) y (m : Int) v (tabN G n (0 * n)) ∧ PIn W3 B ob q A from ⟨_, by rw [Nat.zero_mul]; exact R3c, R3b⟩)
      rw [← hrb, ← hpb]
      clear R3a R3b R3c hbw hW3 hob hB q0 q1 q2 q3 q4 H1 hpb hrb
      obtain ⟨Aq, hAq⟩ : ∃ Aq, Aq = A := ⟨_, rfl⟩
      obtain ⟨cq, hcq⟩ : ∃ cq, cq = cap := ⟨_, rfl⟩
      subst hAq
      subst hcq
      go_loopw [10] (fun t wr => ∃ k : Nat, t = .int .i64 k ∧ k ≤ m ∧ Hid (∃ v, RW w wr B pb rb ob n y m (.slice Aq lq cq) (n : Int) y (m : Int) v (tabN G n (k * n)) ∧ PIn wr B ob q Aq)) (fun t _ => m - (intOf t).toNat)
      case atStart => exact ⟨0, rfl, by omega, R3⟩
      case round =>
        clear R3
        obtain ⟨k, rfl, hk, hr⟩ := hrel
        obtain ⟨v, hT, hPI⟩ := hr.out
        obtain ⟨o0, o1, o2, o3, o4⟩ := hT.o.cells
        obtain ⟨p0, p1, p2, p3, p4⟩ := hT.p.cells
        by_cases hlt : k < m
        · have dkm : decide ((k : Int) < (m : Int)) = true := decide_eq_true (by omega)
          have R0 := Lib.hid (show ∃ v, RW w wr B pb rb ob n y m (.slice Aq lq cq) (n : Int) y (m : Int) v (tabN G n (k * n + 0)) ∧ PIn wr B ob q Aq from ⟨v, hT, hPI⟩)
          clear hr hT hPI
          go_wp2
          go_loopw [11] (fun t wq => ∃ i : Nat, t = .int .i64 i ∧ i ≤ n ∧ Hid (∃ v, RW w wq B pb rb ob n y m (.slice Aq lq cq) (n : Int) y (m : Int) v (tabN G n (k * n + i)) ∧ PIn wq B ob q Aq)) (fun t _ => n - (intOf t).toNat)
          case atStart => exact ⟨0, rfl, by omega, R0⟩
          case round =>
            clear R0 o0 o1 o2 o3 o4 p0 p1 p2 p3 p4 v
            obtain ⟨i, rfl, hi, hq⟩ := hrel
            obtain ⟨v, hT, hPI⟩ := hq.out
            obtain ⟨p0, p1, p2, p3, p4⟩ := hT.p.cells
            obtain ⟨o0, o1, o2, o3, o4⟩ := hT.o.cells
            by_cases hil : i < n
            · have din : decide ((i : Int) < (n : Int)) = true := decide_eq_true (by omega)
              have HT := Lib.hid (And.intro hT hPI)
              have hlen : k * n + i ≤ 1000000000 - 1 := by
                have h1 : (k + 1) * n ≤ m * n := Nat.mul_le_mul_right n (by omega)
                rw [Nat.add_mul, Nat.one_mul, Nat.mul_comm m n] at h1
                omega
              have HTN := Lib.hid (tabN_step (F := G) (k := k) hil)
              have HCC := Lib.hid (HC.out i k hil hlt)
              obtain ⟨z, hz⟩ : ∃ z, z = G i k := ⟨_, rfl⟩
              have HZ := Lib.hid hz
              have hpB := hT.pB
              have hoB := hT.oB
              have kx : IntKind.i64.wrap ((i : Int) - dx) = (i : Int) - dx := IntWalk.i64_in _ (by omega); have ky : IntKind.i64.wrap ((k : Int) - dy) = (k : Int) - dy := IntWalk.i64_in _ (by omega)
              clear hT hq hz hPI
              go_upto_region 13 with fail
              refine RP.region_treeP (C := fun w' => ∃ x : SubW B wr, w' = x.val) (fun _ _ _ => False) [0, 1, 2, 3, 4, 5, 6, 7, 8] (OT.seq [9, 10, 11, 12]) 13 (fun _ _ _ h => h.elim) (by kernel_rfl) (by kernel_rfl) (sub_start B wr) ?_
              simp only [pickL, List.getElem?_cons_zero, List.getElem?_cons_succ]
              repeat (go_big_quiet_step (fail))
              refine wpQuiet_nil ?_
              obtain ⟨w2, hw2⟩ : ∃ w2 : World, w2 = { wr with drawn := wr.drawn + 1 } := ⟨_, rfl⟩
              rw [← hw2]
              have hb2 : Below wr.heap.size wr w2 := by rw [hw2]; exact (Below.refl _ _).drew
              have hsz := HT.out.1.sz
              clear hw2
              simp only [RP.treeS, OT.seq, atOp, List.getElem?_cons_zero, List.getElem?_cons_succ]
              refine ⟨sub_of (hb2.mono hsz), ?_⟩
              skip
              refine RP.p_call 62 #[.agg #[.int .i64 n, .int .i64 y, .int .i64 m, .slice Aq lq cq], .int .i64 ((i : Int) - dx), .int .i64 ((k : Int) - dy)] rfl (by go_simp) ?_
              refine (HCC.out w2 ((HT.out.2.in hsz).below hb2)).mono ?_
              rintro e w3 ⟨rfl, hb3⟩
              have hb3' := hb2.trans (hb3.mono hb2.size)
              refine .inl ⟨_, rfl, ?_⟩
              rw [← HZ.out]
              refine ⟨sub_of (hb3'.mono hsz), ?_⟩
              refine RP.p_val (.slice (some ⟨w3.heap.size, 0, none⟩) 1 1) (w3.alloc (.cells #[.int .i64 z] 3)) rfl (by go_simp) ?_
              have hal := (Below.refl w3.heap.size w3).alloc (Nat.le_refl _) (.cells #[.int .i64 z] 3)
              have hb4 := hb3'.trans (hal.mono hb3'.size)
              obtain ⟨v', w5, r1, r2, r3, -⟩ := ap_i64 w3 22 B v _ z (OwnI.keep hb3' HT.out.1.own) (by rw [tabN_length]; omega) (Nat.le_trans hsz hb3'.size)
              obtain ⟨A5, n5, hv5, -⟩ := r2.isL
              obtain ⟨m5, hm5⟩ : ∃ m5, m5 = (tabN G n (k * n + i) ++ [z]).length := ⟨_, rfl⟩
              rw [← hm5] at hv5
              clear hm5
              subst hv5
              have hb5 := (hb3'.mono hsz).grown r3 (Nat.le_trans hsz hb3'.size) (fun g hg => (HT.out.1.own.lt' g hg).1)
              refine ⟨sub_of (hb4.mono hsz), ?_⟩
              refine RP.p_val (.slice A5 m5 n5) w5 rfl (ap_exec _ _ 22 rfl v (.slice (some ⟨w3.heap.size, 0, none⟩) 1 1) _ w5 rfl rfl r1) ?_
              refine ⟨sub_of hb5, ?_⟩
              refine RP.p_val (.pointer (some ⟨ob, 3, none⟩)) w5 rfl (by go_simp) ?_
              refine ⟨sub_of hb5, ?_⟩
              have z1 := (hb5.cell (p := ⟨ob, 3, none⟩) hoB).trans o3
              have z2 : w5.frozen? ⟨ob, 3, none⟩ = false := frozen_of_row w5 ob 3 _ _ ((hb5.block _ hoB).trans HT.out.1.o)
              have T6 := HT.out.1.step hb5 r2
              rw [HZ.out, ← HTN.out] at T6
              have HT6 := Lib.hid (And.intro T6 (HT.out.2.step hb5 (.slice A5 m5 n5)))
              refine RP.p_skip (w5.setCell ⟨ob, 3, none⟩ (.slice A5 m5 n5)) rfl (by go_simp) ?_
              obtain ⟨w6, hw6⟩ : ∃ w6, w6 = w5.setCell ⟨ob, 3, none⟩ (.slice A5 m5 n5) := ⟨_, rfl⟩
              rw [← hw6] at HT6 ⊢
              clear hw6 T6 z1 z2 hb5 r1 r2 r3 hb4 hal hb3' hb3 hb2 HT o0 o1 o2 o3 o4 p0 p1 p2 p3 p4 hpB hoB HCC
              go_simp
              go_wp2
              go_roundw
              case rel => exact ⟨i + 1, by go_num, by omega, Lib.hid ⟨_, HT6.out⟩⟩
              case measure => simp [intOf]; omega
            · obtain rfl : n = i := by omega
              have din : decide ((n : Int) < (n : Int)) = false := decide_eq_false (by omega)
              have R2 := Lib.hid (show ∃ v, RW w wr B pb rb ob n y m (.slice Aq lq cq) (n : Int) y (m : Int) v (tabN G n ((k + 1) * n)) ∧ PIn wr B ob q Aq from by rw [Nat.add_mul, Nat.one_mul]; exact ⟨v, hT, hPI⟩)
              clear hq hT hPI
              go_wp2
              go_roundw
              case rel => exact ⟨k + 1, by go_num, by omega, R2⟩
              case measure => simp [intOf]; omega
        · obtain rfl : m = k := by omega
          have dkm : decide ((m : Int) < (m : Int)) = false := decide_eq_false (by omega)
          have HTE := Lib.hid hT
          clear hr hT hPI hlt
          obtain ⟨A1, n1, rfl, hL1⟩ := HTE.out.own.isL
          obtain ⟨l1, hl1⟩ : ∃ l1, l1 = (tabN G n (m * n)).length := ⟨_, rfl⟩
          have HRE1 := Lib.hid (HRE.out A1 n1 wr hL1)
          rw [← hl1] at HTE HRE1 o3
          clear hL1 hl1
          go_wp2_with fail
          refine HRE1.out.mono ?_
          rintro e w5 ⟨v5, rfl, ho5, hb5⟩
          rw [← HTT.out] at ho5 ⊢
          obtain ⟨A5, n5, rfl, -⟩ := ho5.isL
          have hr5 := HTE.out.r.keep hb5
          have HP := Lib.hid (put_ret hr5 (HTE.out.below.trans (hb5.mono HTE.out.below.size)) HTE.out.wr' T _ ho5 HTE.out.below.size (Array.getElem?_eq_some_iff.1 HTE.out.r).1)
          obtain ⟨r0, r1, r2, r3, r4⟩ := PBox.cells hr5
          have f0 : (w5).frozen? ⟨rb, 0, none⟩ = false := frozen_of_row (w5) (rb) 0 _ _ hr5
          have f1 : (w5).frozen? ⟨rb, 1, none⟩ = false := frozen_of_row (w5) (rb) 1 _ _ hr5
          have f2 : (w5).frozen? ⟨rb, 2, none⟩ = false := frozen_of_row (w5) (rb) 2 _ _ hr5
          have f3 : (w5).frozen? ⟨rb, 3, none⟩ = false := frozen_of_row (w5) (rb) 3 _ _ hr5
          clear ho5 hb5 hr5 HRE1 HTE HRE o0 o1 o2 o3 o4 p0 p1 p2 p3 p4
          go_wp2
          refine bodyPost_ret (v := .tuple #[.agg #[.int .i64 T.a, .int .i64 T.b, .int .i64 T.c, .slice A5 T.xs.length n5], .int .i64 0]) (ret_pat2 rfl rfl rfl HP.out.1) rfl ?_
          exact ⟨_, rfl, HP.out.2⟩
  · have d1 : (E == 0) = false := by rw [beq_eq_false_iff_ne]; exact hz
    have d2 : (E != 0) = true := by rw [bne_iff_ne]; exact hz
    have hZ := HZU.out
    rw [if_pos hz] at hZ
    subst hZ
    have HT2 := Lib.hid (show T = zeroP by rw [HT.out, if_pos hz])
    have HP := Lib.hid (put_zero H1.out.2.1 H1.out.2.2 (by omega))
    obtain ⟨r0, r1, r2, r3, r4⟩ := PBox.cells H1.out.2.1
    have f0 : (w1).frozen? ⟨w.heap.size + 1, 0, none⟩ = false := frozen_of_row (w1) (w.heap.size + 1) 0 _ _ H1.out.2.1
    have f1 : (w1).frozen? ⟨w.heap.size + 1, 1, none⟩ = false := frozen_of_row (w1) (w.heap.size + 1) 1 _ _ H1.out.2.1
    have f2 : (w1).frozen? ⟨w.heap.size + 1, 2, none⟩ = false := frozen_of_row (w1) (w.heap.size + 1) 2 _ _ H1.out.2.1
    have f3 : (w1).frozen? ⟨w.heap.size + 1, 3, none⟩ = false := frozen_of_row (w1) (w.heap.size + 1) 3 _ _ H1.out.2.1
    clear hz HT HE H1 HZ HZU
    go_wp2
    refine bodyPost_ret (v := .tuple #[.agg #[.int .i64 0, .int .i64 0, .int .i64 0, .slice none 0 0], .int .i64 Z]) (ret_pat2 rfl rfl rfl HP.out.1) rfl ?_
    rw [HT2.out]
    exact OutP.zero HP.out.2
end Go.Proofs.YtgmokojdlbdjeaaGreatDoor
