/-
  THE PROGRAM: Recolor, Swell.
-/
import Derived.Test.YtgmokojdlbdjeaaGreatDoorPatQ
namespace Go.Proofs.YtgmokojdlbdjeaaGreatDoor
open Go.RowKit
attribute [local go_sem] sub_cell sub_frozen
attribute [local irreducible] RP.plainUpon RP.stepC
/-- Other colors: what the call answers. -/
def recF (cs : List Int) (F : Int → Int → Int) : Int → Int → Int := fun x y => cs.getD (F x y).toNat 0
def recZ (p : PatD) (cs : List Int) : Int := if valP p ≠ 0 then valP p else if cs.length ≠ 8 ∨ cs.any badC = true then 1 else 0
noncomputable def recT (p : PatD) (cs : List Int) : PatD := if recZ p cs ≠ 0 then zeroP else lst (recF cs (colF p))
theorem Base.recol {F : Int → Int → Int} {a b c : Int} (h : Base F a b c) (cs : List Int) : Base (recF cs F) a b c :=
  ⟨h.a0, h.c0, fun x y => by unfold recF; rw [h.pa], fun x y => by unfold recF; rw [h.pb]⟩
theorem recZ_zero {p : PatD} {cs : List Int} (h : recZ p cs = 0) : valP p = 0 ∧ cs.length = 8 ∧ ∀ x ∈ cs, 0 ≤ x ∧ x < 8 := by
  unfold recZ at h
  split at h
  · rename_i hv; exact absurd h hv
  · rename_i hv
    split at h
    · cases h
    · rename_i h1
      refine ⟨by omega, by omega, fun x hx => ?_⟩
      have h4 : ¬ cs.any badC = true := fun e => h1 (.inr e)
      rw [Bool.not_eq_true, List.any_eq_false] at h4
      have := h4 x hx
      simp only [badC, Bool.or_eq_true, decide_eq_true_eq] at this
      omega
theorem enter_rec (args : Array Value) (w : World) : (callFunc 69 args).run Tryz.prog w = .ok (.enter 69 args) w := by go_simp
set_option maxRecDepth 100000 in
theorem pred_rec (w : World) (xs : List Int) : PPred 69 #[] badC w xs := fun w' x _ _ => by
  show Calls Tryz.prog 69 #[.int .i64 x] w' _
  obtain ⟨r, hr⟩ : ∃ r, r = badC x := ⟨_, rfl⟩
  rw [← hr]
  unfold badC at hr
  by_cases h : x < 0
  · have HR := Lib.hid (show true = r by rw [hr, decide_eq_true h]; rfl)
    have d1 : decide (x < 0) = true := decide_eq_true h
    clear hr
    go_enter Tryz.func69, Tryz.ntmps69
    go_wp2
    go_ret
    exact ⟨by rw [← HR.out]; rfl, Below.refl _ _⟩
  · have HR := Lib.hid (show decide (8 ≤ x) = r by rw [hr, decide_eq_false h]; rfl)
    have d1 : decide (x < 0) = false := decide_eq_false h
    clear hr
    go_enter Tryz.func69, Tryz.ntmps69
    go_wp2
    go_ret
    exact ⟨by rw [← HR.out]; rfl, Below.refl _ _⟩
/-- A box of one slice. -/
def SBox (w : World) (b : Nat) (A : Option Addr) (n c : Nat) : Prop := w.heap[b]? = some (.cells #[.slice A n c] 22 (0, 0))
theorem SBox.keep {w w' : World} {b : Nat} {A : Option Addr} {n c : Nat} (h : SBox w b A n c) (hb : Below w.heap.size w w') : SBox w' b A n c := (hb.block _ (Array.getElem?_eq_some_iff.1 h).1).trans h
theorem SBox.cell {w : World} {b : Nat} {A : Option Addr} {n c : Nat} (h : SBox w b A n c) : w.cell? ⟨b, 0, none⟩ = some (.slice A n c) ∧ b < w.heap.size := ⟨(cell_of_row w b 0 _ _ (0, 0) h).trans rfl, (Array.getElem?_eq_some_iff.1 h).1⟩
set_option maxRecDepth 100000 in
set_option maxHeartbeats 1000000 in
theorem rec_fun (w : World) (bx sb : Nat) (p : PatD) (A : Option Addr) (cap : Nat) (cs : List Int) (A2 : Option Addr) (c2 : Nat) (h : PBox w bx p.a p.b p.c (.slice A p.xs.length cap)) (hs : SBox w sb A2 8 c2) (hp : GoodP p) (hi : PatIn w p A) (hcs : IsL w A2 8 cs) :
    FunV w (.func (.func 70) #[] #[.pointer (some ⟨sb, 0, none⟩), .pointer (some ⟨bx, 0, none⟩)]) (recF cs (colF p)) 50000000 := by
  refine ⟨_, _, rfl, fun args w' => ?_, fun w' hb x y h0 h3 h4 h5 => ?_⟩
  · go_simp
  · obtain ⟨q0, q1, q2, q3, q4⟩ := (h.keep hb).cells
    obtain ⟨q5, q6⟩ := (hs.keep hb).cell
    obtain ⟨bk, o, rfl, hbk, hc⟩ := (IsL.below hb hcs).2 (by omega)
    have hcol := hp.cols x y
    obtain ⟨k, hk⟩ : ∃ k : Nat, colF p x y = k := ⟨(colF p x y).toNat, by omega⟩
    have hk8 : k < 8 := by omega
    have y1 := hc k hk8
    have HC := Lib.hid (fun w2 (hb2 : Below w'.heap.size w' w2) => pcolor_any p hp.ok A p.xs.length cap x y (by omega) (by omega) (by omega) (by omega) w2 ((hi.below hb).below hb2))
    obtain ⟨z, hz⟩ : ∃ z, z = cs.getD k 0 := ⟨_, rfl⟩
    have HZ := Lib.hid (show z = recF cs (colF p) x y by unfold recF; rw [hk]; exact hz)
    rw [← hz] at y1
    rw [hk] at HC
    clear h hi hb hp hz hcs hc hcol hk hs
    show Calls Tryz.prog 70 #[.int .i64 x, .int .i64 y, .pointer (some ⟨sb, 0, none⟩), .pointer (some ⟨bx, 0, none⟩)] w' _
    go_enter Tryz.func70, Tryz.ntmps70
    go_upto_region 1 with fail
    refine RP.region_treeP (C := fun w2 => ∃ x : SubW w'.heap.size w', w2 = x.val) (fun _ _ _ => False) [0, 1, 2, 3] (.one 4 (.one 5 (.one 6 .nil))) 7 (fun _ _ _ h => h.elim) (by kernel_rfl) (by kernel_rfl) (sub_start _ w') ?_
    simp only [pickL, List.getElem?_cons_zero, List.getElem?_cons_succ]
    repeat (go_big_quiet_step (fail))
    refine wpQuiet_nil ?_
    obtain ⟨w5, hw5⟩ : ∃ w5 : World, w5 = { w' with drawn := w'.drawn + 1 } := ⟨_, rfl⟩
    have hb5 : Below w'.heap.size w' w5 := by rw [hw5]; exact (Below.refl _ _).drew
    rw [← hw5]
    clear q0 q1 q2 q3 q5 hw5
    simp only [RP.treeS, atOp, List.getElem?_cons_zero, List.getElem?_cons_succ]
    refine ⟨sub_of hb5, ?_⟩
    refine RP.p_call 60 #[.agg #[.int .i64 p.a, .int .i64 p.b, .int .i64 p.c, .slice A p.xs.length cap], .int .i64 x, .int .i64 y] rfl (by go_simp) ?_
    refine (HC.out w5 hb5).mono ?_
    rintro e w6 ⟨rfl, hb6⟩
    have hb6' := hb5.trans (hb6.mono hb5.size)
    have y2 := (hb6'.cell (p := ⟨bk, o + k, none⟩) hbk).trans y1
    refine .inl ⟨_, rfl, ?_⟩
    refine ⟨sub_of hb6', ?_⟩
    refine RP.p_val (.pointer (some ⟨bk, o + k, none⟩)) w6 rfl (by go_simp; intro h8; omega) ?_
    refine ⟨sub_of hb6', ?_⟩
    refine RP.p_val (.int .i64 z) w6 rfl (by go_simp) ?_
    refine ⟨sub_of hb6', ?_⟩
    refine RP.p_assign _ rfl rfl (.int .i64 z) (by go_simp) ?_
    have HB := Lib.hid hb6'
    clear hb5 hb6 hb6' y1 y2 HC
    go_simp
    go_wp2
    go_ret
    exact ⟨by rw [← HZ.out]; rfl, HB.out⟩
theorem al3 (w : World) (o0 o1 o2 : Obj) : (((w.alloc o0).alloc o1).alloc o2).heap.size = w.heap.size + 3 ∧ (((w.alloc o0).alloc o1).alloc o2).heap[w.heap.size]? = some o0 ∧ (((w.alloc o0).alloc o1).alloc o2).heap[w.heap.size + 1]? = some o1 ∧ (((w.alloc o0).alloc o1).alloc o2).heap[w.heap.size + 1 + 1]? = some o2 ∧ Below w.heap.size w (((w.alloc o0).alloc o1).alloc o2) := by
  have e1 : (w.alloc o0).heap.size = w.heap.size + 1 := by simp
  have e2 : ((w.alloc o0).alloc o1).heap.size = w.heap.size + 1 + 1 := by simp
  have h0 := heap_alloc_new w o0
  have h1 := heap_alloc_new (w.alloc o0) o1
  have h2 := heap_alloc_new ((w.alloc o0).alloc o1) o2
  rw [e1] at h1
  rw [e2] at h2
  exact ⟨by simp, (heap_alloc_old _ _ (by omega)).trans ((heap_alloc_old _ _ (by omega)).trans h0), (heap_alloc_old _ _ (by omega)).trans h1, h2, (by repeat' (first | (with_reducible exact Below.refl _ _) | (with_reducible assumption) | (with_reducible refine below_drewN ?_ _) | (with_reducible refine below_step (by assumption) ?_ ?_) | (with_reducible refine Below.alloc ?_ ?_ _) | (with_reducible refine Below.setCell ?_ ?_ _) | (with_reducible refine Below.drew ?_) | go_size | (exact Below.size (by assumption)) | (refine Nat.le_trans (Below.size (by assumption)) ?_)))⟩
set_option maxRecDepth 100000 in
set_option maxHeartbeats 1000000 in
theorem precolor_any (p : PatD) (hl : p.xs.length ≤ 1000000) (cs : List Int) (hcl : cs.length ≤ 1000000) (A : Option Addr) (cap : Nat) (A2 : Option Addr) (c2 : Nat) (w : World) (hi : PatIn w p A) (hcs : IsL w A2 cs.length cs) :
    Calls Tryz.prog 27 #[.agg #[.int .i64 p.a, .int .i64 p.b, .int .i64 p.c, .slice A p.xs.length cap], .slice A2 cs.length c2] w (OutP w (recT p cs) (.int .i64 (recZ p cs))) := by
  obtain ⟨T, hT⟩ : ∃ T, T = recT p cs := ⟨_, rfl⟩
  obtain ⟨Z, hZ⟩ : ∃ Z, Z = recZ p cs := ⟨_, rfl⟩
  obtain ⟨E, hE⟩ : ∃ E, E = valP p := ⟨_, rfl⟩
  rw [← hT, ← hZ]
  unfold recT at hT
  rw [← hZ] at hT
  have HZ := Lib.hid hZ
  unfold recZ at hZ
  rw [← hE] at hZ
  have HZU := Lib.hid hZ
  have HC := Lib.hid (fun w hi => validateP_any p hl E hE.symm A cap w hi)
  have HPC := Lib.hid (fun w hi => pcontainsFunc 69 #[] badC enter_rec A2 cs.length c2 cs hcl w hi (pred_rec w cs))
  have HT := Lib.hid hT
  have HE := Lib.hid hE
  have HI := Lib.hid (And.intro hi hcs)
  have hmf : ∀ (fn : Fn) (first cap : Array Value) (w : World), (Instr.makeFunc fn first cap).run Tryz.prog w = .ok (.func fn first cap) w := fun _ _ _ _ => rfl
  obtain ⟨n, hn⟩ : ∃ n, n = cs.length := ⟨_, rfl⟩
  have HN := Lib.hid hn
  rw [← hn] at HPC HZU ⊢
  clear hi hT hE hZ hcs hcl hn
  go_enter Tryz.func27, Tryz.ntmps27
  go_wp2_with fail
  obtain ⟨a0, a1, a2, a3, a4⟩ := al3 w (.cells #[.int .i64 p.a, .int .i64 p.b, .int .i64 p.c, .slice A p.xs.length cap] 24) (.cells #[.slice A2 n c2] 22) (.cells #[.int .i64 0, .int .i64 0, .int .i64 0, .slice none 0 0] 24)
  obtain ⟨V, hV⟩ : ∃ V, V = ((w.alloc (.cells #[.int .i64 p.a, .int .i64 p.b, .int .i64 p.c, .slice A p.xs.length cap] 24)).alloc (.cells #[.slice A2 n c2] 22)).alloc (.cells #[.int .i64 0, .int .i64 0, .int .i64 0, .slice none 0 0] 24) := ⟨_, rfl⟩
  rw [← hV] at a0 a1 a2 a3 a4 ⊢
  have hck := HC.out V (HI.out.1.below a4)
  refine hck.mono ?_
  rintro e w1 ⟨rfl, hb1⟩
  have H1 := Lib.hid (show PBox w1 w.heap.size p.a p.b p.c (.slice A p.xs.length cap) ∧ PBox w1 (w.heap.size + 1 + 1) 0 0 0 (.slice none 0 0) ∧ Below w.heap.size w w1 ∧ SBox w1 (w.heap.size + 1) A2 n c2 from
    ⟨PBox.keep (w := V) a1 hb1, PBox.keep (w := V) a3 hb1, a4.trans (hb1.mono a4.size), SBox.keep (w := V) a2 hb1⟩)
  clear hV a0 a1 a2 a3 a4 HC hck hb1 V
  obtain ⟨s0, s1⟩ := H1.out.2.2.2.cell
  by_cases hz : E = 0
  · subst hz
    have hZ := HZU.out
    rw [if_neg (by simp)] at hZ
    by_cases h8 : n = 8
    · subst h8
      by_cases hb : cs.any badC = true
      · have hpc := HPC.out w1 (by rw [HN.out]; exact IsL.below H1.out.2.2.1 HI.out.2)
        rw [hb] at hpc
        rw [if_pos (.inr hb)] at hZ
        subst hZ
        have HT2 := Lib.hid (show T = zeroP by rw [HT.out, if_pos (by decide)])
        have HPC2 := Lib.hid hpc
        clear hb hpc HPC HT HE HZ HZU
        go_wp2_with fail
        refine HPC2.out.mono ?_
        rintro e w2 ⟨rfl, hb2⟩
        have hr2 := H1.out.2.1.keep hb2
        have HP := Lib.hid (put_zero hr2 (H1.out.2.2.1.trans (hb2.mono H1.out.2.2.1.size)) (by omega))
        obtain ⟨r0, r1, r2, r3, r4⟩ := PBox.cells hr2
        have f0 : (w2).frozen? ⟨w.heap.size + 1 + 1, 0, none⟩ = false := frozen_of_row (w2) (w.heap.size + 1 + 1) 0 _ _ hr2
        have f1 : (w2).frozen? ⟨w.heap.size + 1 + 1, 1, none⟩ = false := frozen_of_row (w2) (w.heap.size + 1 + 1) 1 _ _ hr2
        have f2 : (w2).frozen? ⟨w.heap.size + 1 + 1, 2, none⟩ = false := frozen_of_row (w2) (w.heap.size + 1 + 1) 2 _ _ hr2
        have f3 : (w2).frozen? ⟨w.heap.size + 1 + 1, 3, none⟩ = false := frozen_of_row (w2) (w.heap.size + 1 + 1) 3 _ _ hr2
        clear hr2 hb2 HPC2 s0 s1 H1
        go_wp2
        refine bodyPost_ret (v := .tuple #[.agg #[.int .i64 0, .int .i64 0, .int .i64 0, .slice none 0 0], .int .i64 1]) (ret_pat2 rfl rfl rfl HP.out.1) rfl ?_
        rw [HT2.out]
        exact OutP.zero HP.out.2
      · have hpc := HPC.out w1 (by rw [HN.out]; exact IsL.below H1.out.2.2.1 HI.out.2)
        rw [show cs.any badC = false by simpa using hb] at hpc
        rw [if_neg (fun h => h.elim (fun h => h rfl) hb)] at hZ
        subst hZ
        have hT := HT.out
        rw [if_neg (by simp)] at hT
        obtain ⟨hv, hlen, hcol⟩ := recZ_zero HZ.out.symm
        have hg := valP_zero hv
        have hbase := (lst_pat hv).recol cs
        obtain ⟨z1, z2⟩ := res_small hbase hg.ac
        have HFU := Lib.hid (fun w2 (hb : Below w1.heap.size w1 w2) => rec_fun w2 w.heap.size (w.heap.size + 1) p A cap cs A2 c2 (H1.out.1.keep hb) (H1.out.2.2.2.keep hb) hg ((HI.out.1.below H1.out.2.2.1).below hb) (by rw [HN.out]; exact IsL.below hb (IsL.below H1.out.2.2.1 HI.out.2)))
        have hres := fun fv w2 hf => presult_lst _ p.a p.b p.c hbase (by have := hg.a1; omega) (by have := hg.c1; omega) fv w2 hf
        rw [z1, z2, ← hT] at hres
        have HRES := Lib.hid hres
        have HPC2 := Lib.hid hpc
        clear hb hpc HPC hT hv hlen hcol hg hbase z1 z2 hres HT HE HZ HZU
        go_wp2_with fail
        refine HPC2.out.mono ?_
        rintro e w2 ⟨rfl, hb2⟩
        have H2 := Lib.hid (And.intro (H1.out.1.keep hb2) (And.intro (H1.out.2.1.keep hb2) (And.intro (H1.out.2.2.1.trans (hb2.mono H1.out.2.2.1.size)) (HFU.out w2 hb2))))
        clear hb2 HPC2 s0 s1 H1 HFU
        obtain ⟨q0, q1, q2, q3, q4⟩ := H2.out.1.cells
        go_wp2_with fail
        refine (HRES.out _ w2 H2.out.2.2.2).mono ?_
        rintro e w3 ⟨v, rfl, hown, hb3⟩
        obtain ⟨A3, n3, rfl, -⟩ := hown.isL
        have hr3 := H2.out.2.1.keep hb3
        have HP := Lib.hid (put_ret hr3 (H2.out.2.2.1.trans (hb3.mono H2.out.2.2.1.size)) (by omega) T _ hown H2.out.2.2.1.size (Array.getElem?_eq_some_iff.1 H2.out.2.1).1)
        obtain ⟨r0, r1, r2, r3, r4⟩ := PBox.cells hr3
        have f0 : (w3).frozen? ⟨w.heap.size + 1 + 1, 0, none⟩ = false := frozen_of_row (w3) (w.heap.size + 1 + 1) 0 _ _ hr3
        have f1 : (w3).frozen? ⟨w.heap.size + 1 + 1, 1, none⟩ = false := frozen_of_row (w3) (w.heap.size + 1 + 1) 1 _ _ hr3
        have f2 : (w3).frozen? ⟨w.heap.size + 1 + 1, 2, none⟩ = false := frozen_of_row (w3) (w.heap.size + 1 + 1) 2 _ _ hr3
        have f3 : (w3).frozen? ⟨w.heap.size + 1 + 1, 3, none⟩ = false := frozen_of_row (w3) (w.heap.size + 1 + 1) 3 _ _ hr3
        clear hown hb3 hr3 HRES q0 q1 q2 q3 q4 H2
        go_wp2
        refine bodyPost_ret (v := .tuple #[.agg #[.int .i64 T.a, .int .i64 T.b, .int .i64 T.c, .slice A3 T.xs.length n3], .int .i64 0]) (ret_pat2 rfl rfl rfl HP.out.1) rfl ?_
        exact ⟨_, rfl, HP.out.2⟩
    · have d8 : ((n : Int) != 8) = true := by rw [bne_iff_ne]; omega
      have d9 : ((n : Int) == 8) = false := by rw [beq_eq_false_iff_ne]; omega
      rw [if_pos (.inl h8)] at hZ
      subst hZ
      have HT2 := Lib.hid (show T = zeroP by rw [HT.out, if_pos (by decide)])
      have HP := Lib.hid (put_zero H1.out.2.1 H1.out.2.2.1 (by omega))
      obtain ⟨r0, r1, r2, r3, r4⟩ := PBox.cells H1.out.2.1
      have f0 : (w1).frozen? ⟨w.heap.size + 1 + 1, 0, none⟩ = false := frozen_of_row (w1) (w.heap.size + 1 + 1) 0 _ _ H1.out.2.1
      have f1 : (w1).frozen? ⟨w.heap.size + 1 + 1, 1, none⟩ = false := frozen_of_row (w1) (w.heap.size + 1 + 1) 1 _ _ H1.out.2.1
      have f2 : (w1).frozen? ⟨w.heap.size + 1 + 1, 2, none⟩ = false := frozen_of_row (w1) (w.heap.size + 1 + 1) 2 _ _ H1.out.2.1
      have f3 : (w1).frozen? ⟨w.heap.size + 1 + 1, 3, none⟩ = false := frozen_of_row (w1) (w.heap.size + 1 + 1) 3 _ _ H1.out.2.1
      clear h8 HT HE H1 HZ HZU HPC
      go_wp2
      refine bodyPost_ret (v := .tuple #[.agg #[.int .i64 0, .int .i64 0, .int .i64 0, .slice none 0 0], .int .i64 1]) (ret_pat2 rfl rfl rfl HP.out.1) rfl ?_
      rw [HT2.out]
      exact OutP.zero HP.out.2
  · have d1 : (E == 0) = false := by rw [beq_eq_false_iff_ne]; exact hz
    have d2 : (E != 0) = true := by rw [bne_iff_ne]; exact hz
    have hZ := HZU.out
    rw [if_pos hz] at hZ
    subst hZ
    have HT2 := Lib.hid (show T = zeroP by rw [HT.out, if_pos hz])
    have HP := Lib.hid (put_zero H1.out.2.1 H1.out.2.2.1 (by omega))
    obtain ⟨r0, r1, r2, r3, r4⟩ := PBox.cells H1.out.2.1
    have f0 : (w1).frozen? ⟨w.heap.size + 1 + 1, 0, none⟩ = false := frozen_of_row (w1) (w.heap.size + 1 + 1) 0 _ _ H1.out.2.1
    have f1 : (w1).frozen? ⟨w.heap.size + 1 + 1, 1, none⟩ = false := frozen_of_row (w1) (w.heap.size + 1 + 1) 1 _ _ H1.out.2.1
    have f2 : (w1).frozen? ⟨w.heap.size + 1 + 1, 2, none⟩ = false := frozen_of_row (w1) (w.heap.size + 1 + 1) 2 _ _ H1.out.2.1
    have f3 : (w1).frozen? ⟨w.heap.size + 1 + 1, 3, none⟩ = false := frozen_of_row (w1) (w.heap.size + 1 + 1) 3 _ _ H1.out.2.1
    clear hz HT HE H1 HZ HZU HPC
    go_wp2
    refine bodyPost_ret (v := .tuple #[.agg #[.int .i64 0, .int .i64 0, .int .i64 0, .slice none 0 0], .int .i64 Z]) (ret_pat2 rfl rfl rfl HP.out.1) rfl ?_
    rw [HT2.out]
    exact OutP.zero HP.out.2
end Go.Proofs.YtgmokojdlbdjeaaGreatDoor
