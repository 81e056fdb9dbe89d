/-
  WHOLE NUMBERS: Minus, the walk.
-/
import Derived.Test.YtdgmpaijpjkeoaaWhoF
namespace Go.Proofs.Ytdgmpaijpjkeoaa
open Go.RowKit
attribute [local go_sem] grow_cell grow_frozen
/-- The first loop: the digits of b below k are taken off. -/
structure MnA (xs : List Int) (n k : Nat) (ys : List Nat) (a : Nat) : Prop where
  len : xs.length = n
  lo : ∀ j, j < n → -16777216 < xs.getD j 0 ∧ xs.getD j 0 < 16777216
  hi : ∀ j, k ≤ j → j < n → 0 ≤ xs.getD j 0
  vl : vlI xs = (a : Int) - (vlW (ys.take k) : Int)
theorem MnA.start {zs : List Nat} {a : Nat} (h : WN zs a) (ys : List Nat) : MnA (casts zs) zs.length 0 ys a :=
  ⟨casts_length _, fun j hj => by rw [casts_getD hj]; have := h.dgAt hj; omega, fun j _ hj => by rw [casts_getD hj]; omega, by rw [vlI_casts, h.vl]; simp [vlW]⟩
theorem MnA.step {xs : List Int} {n k : Nat} {ys : List Nat} {a b : Nat} (h : MnA xs n k ys a) (hy : WN ys b) (hk : k < ys.length) (hn : k < n) : MnA (xs.set k (xs.getD k 0 - (ys[k] : Int))) n (k + 1) ys a := by
  have h1 := hy.dgAt hk
  have h2 := h.lo k hn
  have h3 := h.hi k (Nat.le_refl _) hn
  have hkx : k < xs.length := by rw [h.len]; exact hn
  refine ⟨by rw [List.length_set]; exact h.len, fun j hj => ?_, fun j hj hjn => ?_, ?_⟩
  · rw [getD_set _ hkx]
    split
    · omega
    · exact h.lo j hj
  · rw [getD_set _ hkx, if_neg (by omega)]
    exact h.hi j (by omega) hjn
  · rw [vlI_set hkx, h.vl, vlW_take hk, Int.natCast_add, Int.natCast_mul]
    have : xs.getD k 0 - (ys[k] : Int) - xs.getD k 0 = -(ys[k] : Int) := by omega
    rw [this, Int.mul_neg]
    omega
/-- The second loop: the digits below k are in range. -/
structure MnB (xs : List Int) (n k : Nat) (d : Nat) : Prop where
  len : xs.length = n
  dg : ∀ j, j < k → j < n → 0 ≤ xs.getD j 0 ∧ xs.getD j 0 < 16777216
  at_ : k < n → -16777216 ≤ xs.getD k 0 ∧ xs.getD k 0 < 16777216
  lo : ∀ j, k < j → j < n → -16777216 < xs.getD j 0 ∧ xs.getD j 0 < 16777216
  vl : vlI xs = (d : Int)
theorem MnA.toB {xs : List Int} {n : Nat} {ys : List Nat} {a b : Nat} (h : MnA xs n ys.length ys a) (hy : WN ys b) (hba : b ≤ a) : MnB xs n 0 (a - b) :=
  ⟨h.len, fun j hj => absurd hj (by omega), fun hn => by have := h.lo 0 hn; omega, fun j _ hj => h.lo j hj, by rw [h.vl, List.take_length, hy.vl]; omega⟩
theorem MnB.keep {xs : List Int} {n k d : Nat} (h : MnB xs n k d) (hk : k < n) (h0 : 0 ≤ xs.getD k 0) : MnB xs n (k + 1) d := by
  refine ⟨h.len, fun j hj hn => ?_, fun hn => ?_, fun j hj hn => h.lo j (by omega) hn, h.vl⟩
  · rcases Nat.lt_succ_iff_lt_or_eq.1 hj with g | rfl
    · exact h.dg j g hn
    · exact ⟨h0, (h.at_ hk).2⟩
  · have := h.lo (k + 1) (by omega) hn; omega
theorem MnB.inner {xs : List Int} {n k d : Nat} (h : MnB xs n k d) (hk : k < n) (h0 : xs.getD k 0 < 0) : k + 1 < n := by
  rcases Nat.lt_or_ge (k + 1) n with g | g
  · exact g
  · have := last_neg (xs := xs) (k := k) (by rw [h.len]; omega) (fun j hj => h.dg j hj (by omega)) (by rw [h.vl]; omega)
    omega
theorem MnB.borrow {xs : List Int} {n k d : Nat} (h : MnB xs n k d) (hk : k + 1 < n) (h0 : xs.getD k 0 < 0) : MnB ((xs.set k (xs.getD k 0 + 16777216)).set (k + 1) (xs.getD (k + 1) 0 - 1)) n (k + 1) d := by
  have hkx : k < xs.length := by rw [h.len]; omega
  have hkx2 : k + 1 < (xs.set k (xs.getD k 0 + 16777216)).length := by rw [List.length_set, h.len]; omega
  have hat := h.at_ (by omega)
  have hlo := h.lo (k + 1) (by omega) hk
  refine ⟨by rw [List.length_set, List.length_set]; exact h.len, fun j hj hn => ?_, fun hn => ?_, fun j hj hn => ?_, ?_⟩
  · rw [getD_set _ hkx2, if_neg (by omega), getD_set _ hkx]
    split
    · omega
    · exact h.dg j (by omega) hn
  · rw [getD_set _ hkx2, if_pos rfl]; omega
  · rw [getD_set _ hkx2, if_neg (by omega), getD_set _ hkx, if_neg (by omega)]
    exact h.lo j (by omega) hn
  · rw [vlI_set hkx2, vlI_set hkx, h.vl, getD_set _ hkx, if_neg (by omega), Nat.pow_succ, Int.natCast_mul]
    have e1 : xs.getD k 0 + 16777216 - xs.getD k 0 = 16777216 := by omega
    have e2 : xs.getD (k + 1) 0 - 1 - xs.getD (k + 1) 0 = -1 := by omega
    rw [e1, e2]
    omega
theorem MnB.done {xs : List Int} {n d : Nat} (h : MnB xs n n d) : ∃ zs : List Nat, casts zs = xs ∧ zs.length = n ∧ (∀ z ∈ zs, z < 16777216) ∧ vlW zs = d := by
  obtain ⟨zs, hz, hd⟩ := casts_of (xs := xs) (fun j hj => h.dg j (by rw [← h.len]; exact hj) (by rw [← h.len]; exact hj))
  refine ⟨zs, hz, by rw [← casts_length, hz, h.len], hd, ?_⟩
  have := h.vl
  rw [← hz, vlI_casts] at this
  omega
set_option maxRecDepth 100000 in
set_option maxHeartbeats 1000000 in
theorem wminus_any (A : Option Addr) (n c a : Nat) (B : Option Addr) (n' c' b : Nat) (hn : n ≤ 1000) (ha : 0 < a) (hba : b ≤ a) (w : World) (hW : IsW w A n a) (hX : IsW w B n' b) :
    Calls Try.prog 115 #[.slice A n c, .slice B n' c'] w (RetW w (a - b)) := by
  obtain ⟨zs, hwn, rfl, hL⟩ := hW
  obtain ⟨ys, hyn, rfl, hM⟩ := hX
  have hz0 : 0 < zs.length := Nat.pos_of_ne_zero (fun e => by have := hwn.zero_iff.1 e; omega)
  have hyz : ys.length ≤ zs.length := by
    rcases Nat.lt_or_ge zs.length ys.length with g | g
    · have := cmp_len hwn hyn g; omega
    · exact g
  obtain ⟨p, o, rfl, hp, -⟩ := hL.2 hz0
  have HZ := Lib.hid hwn
  have HY := Lib.hid hyn
  have HL := Lib.hid hL
  have HM := Lib.hid hM
  have HBA := Lib.hid hba
  clear hwn hyn hL hM hba
  go_enter Try.func115, Try.ntmps115
  go_wp2_with (at_builtin; refine append_all (.tmp 8) (.tmp 9) rfl rfl w rfl rfl p o zs.length c _ rfl HL.out hz0 (by omega) ?_; intro g cap w1 hrow hg hcap hb1)
  have H0 := Lib.hid (show RowI w1 g (casts zs) ∧ Below w.heap.size w w1 from ⟨hrow, hb1⟩)
  clear hrow hb1
  go_loopw [6] (fun i wr => ∃ (xs : List Int) (k : Nat), i = .int .i64 k ∧ k ≤ ys.length ∧ Hid (MnA xs zs.length k ys a ∧ RowI wr g xs ∧ Below w.heap.size w wr)) (fun i _ => ys.length - (intOf i).toNat)
  case atStart => exact ⟨casts zs, 0, rfl, by omega, Lib.hid ⟨MnA.start HZ.out ys, H0.out⟩⟩
  case round =>
    clear H0
    obtain ⟨xs, k, rfl, hk, hr⟩ := hrel
    by_cases hlt : k < ys.length
    · obtain ⟨p', o', rfl, hp', hc'⟩ := (HM.out.below hr.out.2.2).digit hlt rfl
      have hkz : k < zs.length := by omega
      have hst := hr.out.1.step HY.out hlt hkz
      have hyd := HY.out.dgAt hlt
      have hlo := hr.out.1.lo k hkz
      have hcx := hr.out.2.1.get k (by rw [hr.out.1.len]; exact hkz)
      have hfx : wr.frozen? ⟨g, k, none⟩ = false := Row.free hr.out.2.1 k
      have hgl := Row.lt hr.out.2.1
      obtain ⟨y, hy⟩ : ∃ y, y = ys[k] := ⟨_, rfl⟩
      obtain ⟨x, hx⟩ : ∃ x, x = xs.getD k 0 := ⟨_, rfl⟩
      rw [← hy] at hc' hst hyd
      rw [← hx] at hst hlo hcx
      have HST := Lib.hid hst
      have HX := Lib.hid hx
      clear hst hy hx
      go_wp2
      refine region_grow_tail 10 (by kernel_rfl) (by kernel_rfl) ?_
      simp only [List.take_succ_cons, List.take_zero, List.drop_succ_cons, List.drop_zero]
      repeat (go_big_quiet_step (fail))
      refine wpQuiet_nil ?_
      rintro w2 ⟨xg, hxg⟩
      have hb2 := below_grow wr xg
      rw [← hxg] at hb2
      clear hxg xg
      have h2 := Lib.hid (show RowI w2 g xs ∧ Below w.heap.size w w2 from ⟨hr.out.2.1.keep hb2, hr.out.2.2.trans (hb2.mono hr.out.2.2.size)⟩)
      have hcx2 := h2.out.1.get k (by rw [hr.out.1.len]; exact hkz)
      rw [← HX.out] at hcx2
      have hfx2 : w2.frozen? ⟨g, k, none⟩ = false := Row.free h2.out.1 k
      clear hc' hcx hfx hb2 hr
      go_wp2
      go_roundw
      case rel => exact ⟨xs.set k (x - y), k + 1, by go_num, by omega, Lib.hid ⟨HST.out, h2.out.1.set k _, h2.out.2.setCell (by simpa using hg) _⟩⟩
      case measure => simp [intOf]; omega
    · obtain rfl : k = ys.length := by omega
      have HB := Lib.hid (show MnB xs zs.length 0 (a - b) ∧ RowI wr g xs ∧ Below w.heap.size w wr from ⟨hr.out.1.toB HY.out HBA.out, hr.out.2⟩)
      clear hr
      go_wp2
      go_loopw [7] (fun i wr => ∃ (xs : List Int) (k : Nat), i = .int .i64 k ∧ k ≤ zs.length ∧ Hid (MnB xs zs.length k (a - b) ∧ RowI wr g xs ∧ Below w.heap.size w wr)) (fun i _ => zs.length - (intOf i).toNat)
      case atStart => exact ⟨xs, 0, rfl, by omega, HB⟩
      case round =>
        clear HB
        obtain ⟨xs, k, rfl, hk, hr⟩ := hrel
        by_cases hlt2 : k < zs.length
        · have hat := hr.out.1.at_ hlt2
          have hcx := hr.out.2.1.get k (by rw [hr.out.1.len]; exact hlt2)
          have hfx : wr.frozen? ⟨g, k, none⟩ = false := Row.free hr.out.2.1 k
          have hgl := Row.lt hr.out.2.1
          have hkeep := hr.out.1.keep hlt2
          have hin := hr.out.1.inner hlt2
          have hbor := fun h => hr.out.1.borrow (k := k) h
          obtain ⟨x, hx⟩ : ∃ x, x = xs.getD k 0 := ⟨_, rfl⟩
          rw [← hx] at hat hcx hkeep hin hbor
          have HX := Lib.hid hx
          have HK := Lib.hid hkeep
          have HBO := Lib.hid hbor
          by_cases hneg : x < 0
          · have hk2 := hin hneg
            have hlo := hr.out.1.lo (k + 1) (by omega) hk2
            have hcy := hr.out.2.1.get (k + 1) (by rw [hr.out.1.len]; exact hk2)
            have hfy : wr.frozen? ⟨g, k + 1, none⟩ = false := Row.free hr.out.2.1 (k + 1)
            obtain ⟨y, hy⟩ : ∃ y, y = xs.getD (k + 1) 0 := ⟨_, rfl⟩
            rw [← hy] at hcy hlo
            have HST := Lib.hid (HBO.out hk2 hneg)
            rw [← hy] at HST
            clear hx hkeep hbor hin hy
            go_upto_region 11 with fail
            obtain ⟨wa, hwa⟩ : ∃ wa, wa = wr.setCell ⟨g, k, none⟩ (.int .i64 (x + 16777216)) := ⟨_, rfl⟩
            rw [← hwa]
            have ha2 := Lib.hid (show RowI wa g (xs.set k (x + 16777216)) ∧ Below w.heap.size w wa by rw [hwa]; exact ⟨hr.out.2.1.set k _, hr.out.2.2.setCell (by simpa using hg) _⟩)
            have hkl : k < xs.length := by rw [hr.out.1.len]; exact hlt2
            have hcy2 : wa.cell? ⟨g, k + 1, none⟩ = some (.int .i64 y) := by
              rw [ha2.out.1.get (k + 1) (by rw [List.length_set, hr.out.1.len]; exact hk2), getD_set _ hkl, if_neg (by omega)]
              exact (hr.out.2.1.get (k + 1) (by rw [hr.out.1.len]; exact hk2)).symm.trans hcy
            have hfy2 : wa.frozen? ⟨g, k + 1, none⟩ = false := Row.free ha2.out.1 (k + 1)
            clear hwa hcx hfx hcy hfy hr hkl
            go_wp2
            go_roundw
            case rel => exact ⟨(xs.set k (x + 16777216)).set (k + 1) (y - 1), k + 1, by go_num, by omega, Lib.hid ⟨HST.out, ha2.out.1.set (k + 1) _, ha2.out.2.setCell (by simpa using hg) _⟩⟩
            case measure => simp [intOf]; omega
          · have HK2 := Lib.hid (HK.out (by omega))
            clear hx hkeep hbor hin
            go_wp2
            go_roundw
            case rel => exact ⟨xs, k + 1, by go_num, by omega, Lib.hid ⟨HK2.out, hr.out.2⟩⟩
            case measure => simp [intOf]; omega
        · obtain rfl : k = zs.length := by omega
          obtain ⟨ds, hds, hdl, hdd, hdv⟩ := hr.out.1.done
          subst hds
          have HD := Lib.hid (show (∀ z ∈ ds, z < 16777216) ∧ vlW (ds.take zs.length) = a - b ∧ ds.length = zs.length from ⟨hdd, by rw [List.take_of_length_le (by omega)]; exact hdv, hdl⟩)
          have HQ := Lib.hid (show RowI wr g (casts ds) ∧ Below w.heap.size w wr from hr.out.2)
          clear hdl hdd hdv hr
          obtain ⟨m, hm⟩ : ∃ m, m = zs.length := ⟨_, rfl⟩
          go_wp2
          go_loopw [5] (fun v wx => ∃ j : Nat, v = .slice (some ⟨g, 0, none⟩) j cap ∧ j ≤ zs.length ∧ Hid (vlW (ds.take j) = a - b ∧ wx = wr)) (fun v _ => lenV v)
          case atStart => exact ⟨zs.length, rfl, Nat.le_refl _, Lib.hid ⟨HD.out.2.1, rfl⟩⟩
          case round =>
            obtain ⟨j, rfl, hj, hv⟩ := hrel
            have hwr := hv.out.2
            subst hwr
            have HV := Lib.hid hv.out.1
            clear hv hm
            by_cases hz : j = 0
            · subst hz
              have HA := Lib.hid (show 0 = a - b from HV.out)
              go_wp2
              go_ret
              refine ⟨some ⟨g, 0, none⟩, 0, cap, rfl, ?_, HQ.out.2, fun _ h => by cases h; exact hg⟩
              rw [← HA.out]
              exact ⟨[], WN.nil, rfl, rfl, fun h => absurd h (by omega)⟩
            · obtain ⟨j', hj'⟩ : ∃ j', j = j' + 1 := ⟨j - 1, by omega⟩
              have he : (j : Int) - 1 = (j' : Int) := by omega
              have hjp : 0 < j := by omega
              have hj2 : j' < zs.length := by omega
              have hj3 : j' < j := by omega
              have hj4 : j' ≤ cap := by omega
              have hc := HQ.out.1.get j' (by rw [casts_length, HD.out.2.2]; omega)
              have hlt := Row.lt HQ.out.1
              rw [casts_getD (by rw [HD.out.2.2]; omega)] at hc
              have hxl : j' < ds.length := by rw [HD.out.2.2]; omega
              have hstr := strike_last hxl
              have hstop := stop_last (a := a - b) HD.out.1 (by rw [← hj']; exact HV.out) hxl
              rw [← hj'] at hstr hstop
              have HSR := Lib.hid hstr
              have HSO := Lib.hid hstop
              obtain ⟨z, hzz⟩ : ∃ z, z = ds[j'] := ⟨_, rfl⟩
              rw [← hzz] at hc HSR HSO
              have HJ := Lib.hid hj'
              clear hz hj' hstr hstop hzz hxl
              by_cases h0 : z = 0
              · have HS2 := Lib.hid (HSR.out h0)
                have d0 : ((z : Int) == 0) = true := by rw [beq_iff_eq]; omega
                clear h0
                go_wp2
                go_roundw
                case rel => exact ⟨j', rfl, by omega, Lib.hid ⟨by rw [← HS2.out]; exact HV.out, trivial⟩⟩
                case measure => simp [lenV]; omega
              · have HS2 := Lib.hid (HSO.out h0)
                have d0 : ((z : Int) == 0) = false := by rw [beq_eq_false_iff_ne]; omega
                clear h0
                go_wp2
                go_ret
                exact ⟨some ⟨g, 0, none⟩, j, cap, rfl, ⟨ds.take j, HS2.out, by rw [List.length_take, HD.out.2.2]; omega, row_take HQ.out.1 (by rw [HD.out.2.2]; omega)⟩, HQ.out.2, fun _ h => by cases h; exact hg⟩
end Go.Proofs.Ytdgmpaijpjkeoaa
