/-
  BOOKS: the lines and the rest of a text: the program's Read.
-/
import Derived.Test.YtaadelcmhbgpnaaGreatDoorBokK
namespace Go.Proofs.YtaadelcmhbgpnaaGreatDoor
open Go.RowKit
open Go.Lib
set_option maxRecDepth 100000 in
set_option maxHeartbeats 4000000 in
theorem pread_any (s : ByteArray) (hs : s.size ≤ 1000000) (w : World) (hl : LibOK w) :
    Calls Tryz.prog 36 #[.string s] w (OutRd w s.data.toList) := by
  have HL := Lib.hid hl
  have HS0 := Lib.hid (RdS.start s.data.toList)
  obtain ⟨X, hX⟩ : ∃ X, X = s.data.toList := ⟨_, rfl⟩
  clear hl
  go_enter Tryz.func36, Tryz.ntmps36
  go_upto_region 3 with fail
  rw [← hX]
  go_loopw [0, 4, 5] (fun a v c wr => ∃ (L : ByteArray) (ts : List (List UInt8)) (z : Int), a = .string L ∧ c = .int .i64 z ∧ L.size ≤ 1000000 ∧ ts.length ≤ 200 ∧ 0 ≤ z ∧ z < 1000003 ∧ Hid (RdS X ts z L.data.toList) ∧ OwnLn wr w.heap.size v (lnS 1 0 ts) ∧ Below w.heap.size w wr) (fun a _ _ _ => strLen a)
  case atStart => exact ⟨s, [], 0, rfl, rfl, hs, by simp, by omega, by omega, Lib.hid (by rw [hX]; exact HS0.out), OwnLn.nil _ _, Below.refl _ _⟩
  case round =>
    obtain ⟨L, ts, z, rfl, rfl, hL, hts, hz0, hz1, hR, hO, hB⟩ := hrel
    obtain ⟨A, c, rfl, -, -⟩ := hO.parts
    rw [lnS_len] at hO ⊢
    have L1 := Lib.hid (HL.out.below hB)
    have hz := hB.size
    by_cases hlt : ts.length < 200
    · have dl : decide ((ts.length : Int) < 200) = true := decide_eq_true (by omega)
      have HO := Lib.hid hO
      have HB := Lib.hid hB
      clear hO hB
      obtain ⟨m, hm⟩ : ∃ m, m = ts.length + 1 := ⟨_, rfl⟩
      have HC := Lib.hid (pfirst_any L hL m (by omega) z _ L1.out)
      have HMI := Lib.hid (show (ts.length : Int) + 1 = (m : Int) by omega)
      go_wp2_with fail
      rw [HMI.out]
      refine HC.out.mono ?_
      rintro e w1 ⟨hb1, hcs⟩
      have hB1 := HB.out.trans (hb1.mono hz)
      have hz1 := hB1.size
      have HO1 := Lib.hid (HO.out.keep hb1)
      have HB1 := Lib.hid hB1
      rcases hcs with ⟨hf, vm, vt, vz, rfl⟩ | ⟨t, hf, he⟩
      · have HF := Lib.hid (hR.out.fin hts (.inr (by rw [← hm]; exact hf)))
        clear hB1 hb1 L1 HO HB HC hf hR
        go_wp2_with fail
        go_ret2
        exact OutRd.of (by rw [← hX]; exact HF.out) rfl (HO1.out.keep (below_new _ _)) (HB1.out.trans ((below_new _ _).mono hz1))
      · obtain ⟨hS, hln, hrt⟩ := hR.out.step (by rw [← hm]; exact hf)
        obtain ⟨T, hT⟩ : ∃ T : ByteArray, T = ⟨t.toArray⟩ := ⟨_, rfl⟩
        have hTl : T.data.toList = t := by rw [hT]
        have ht80 : T.size ≤ 80 := by rw [← lt_list, hTl]; exact (rightT_iff.1 hrt).2.1
        have hSn := lnS_snoc ts t
        rw [← hR.out.sum, ← hT] at hSn
        have hll := lineT_len (ts.length + 1) z t
        obtain ⟨y0, y1⟩ : 0 ≤ lineZ (ts.length + 1) z t ∧ lineZ (ts.length + 1) z t < 1000003 := sumT_bd _ _
        have htl : t.length = T.size := by rw [← hTl, lt_list]
        rw [htl] at hll
        rw [lt_list] at hln
        rw [← hm] at hS hSn y0 y1 hll hln
        rw [← hT] at he
        obtain ⟨y, hy⟩ : ∃ y, y = lineZ m z t := ⟨_, rfl⟩
        rw [← hy] at hS hSn y0 y1 hll he
        obtain ⟨F, hF⟩ : ∃ F : ByteArray, F = ⟨(itoa (m : Int) ++ 32 :: (itoa y ++ 32 :: (T.data.toList ++ [10]))).toArray⟩ := ⟨_, rfl⟩
        have hFs : F.size = (lineT m z t).length := by
          rw [hF, str_size, hll]
          simp; omega
        rw [← hFs] at hS hln
        have m200 : m ≤ 200 := by omega
        have HS := Lib.hid hS
        have HSN := Lib.hid hSn
        have HTS := Lib.hid hts
        have HF := Lib.hid hF
        have HTL := Lib.hid hTl
        have HM := Lib.hid hm
        have hX0 := Box3.new w1 (.int .i64 m) (.string T) (.int .i64 y) 33
        have hB2 : Below w.heap.size w (w1.alloc (.cells #[.int .i64 m, .string T, .int .i64 y] 33)) := hB1.trans ((below_new w1 _).mono hz1)
        have HO2 := Lib.hid (HO1.out.keep (below_new w1 (.cells #[.int .i64 m, .string T, .int .i64 y] 33)))
        obtain ⟨u, hu⟩ : ∃ u, u = w1.alloc (.cells #[.int .i64 m, .string T, .int .i64 y] 33) := ⟨_, rfl⟩
        obtain ⟨v, hv⟩ : ∃ v, v = w1.heap.size := ⟨_, rfl⟩
        rw [← hu, ← hv] at hX0
        rw [← hu] at hB2 HO2
        have HU := Lib.hid hu
        have HV := Lib.hid hv
        have hz2 := hB2.size
        have HB2 := Lib.hid hB2
        have L2 := Lib.hid (HL.out.below hB2)
        have HFM := Lib.hid (pformat_any m (by omega) y y0 (by omega) T (by omega) u L2.out)
        rw [← hF] at HFM
        unfold lnV at HFM he
        clear hS hSn hll hTl htl hT hrt hy hF hFs hR hB1 hb1 L1 HO HB HC hf hu hv hB2 hm HO1 HB1
        subst he
        go_wp2_with fail
        rw [← HU.out, ← HV.out]
        refine HFM.out.mono ?_
        rintro e w2 ⟨rfl, hb2⟩
        have hX1 := hX0.keep hb2
        have HO3 := Lib.hid (HO2.out.keep hb2)
        have HB3 := Lib.hid (HB2.out.trans (hb2.mono hz2))
        have hz3 := HB3.out.size
        obtain ⟨x0, x1, x2, x3, x4, x5, x6⟩ := hX1
        clear hX0 hb2 HO2 HB2 L2 HFM hz2
        go_wp2_with (at_builtin; refine append_line (.tmp 29) (.tmp 31) rfl rfl w.heap.size _ (lnS 1 0 ts) ⟨m, T, y⟩ w2 rfl rfl HO3.out rfl (by rw [lnS_len]; omega) hz3 ?_)
        intro v' w3 ho hg hd
        have HB4 := Lib.hid (HB3.out.grown hg hz3 (fun g hg => (HO3.out.lt g hg).1))
        have HO4 := Lib.hid ho
        clear ho hg hd HO3 HB3 hz3 x0 x1 x2 x3 x4 x5 x6
        go_wp2_with fail
        have he : (L.extract F.size L.size).data.toList = L.data.toList.drop F.size := by
          rw [ext_list, List.take_of_length_le (by rw [List.length_drop, lt_list]; exact Nat.le_refl _)]
        have hsz : (L.extract F.size L.size).size = L.size - F.size := by rw [ByteArray.size_extract]; omega
        have hF0 : 0 < F.size := by rw [HF.out, str_size]; simp; omega
        refine ⟨⟨L.extract F.size L.size, ts ++ [t], y, rfl, rfl, by omega, by rw [List.length_append, List.length_singleton]; have := HM.out; omega, y0, y1, Lib.hid (by rw [he]; exact HS.out), by rw [HSN.out]; exact HO4.out, HB4.out⟩, ?_⟩
        show (L.extract F.size L.size).size < L.size
        omega
    · have HF := Lib.hid (hR.out.fin hts (.inl (by omega)))
      have dl : decide ((ts.length : Int) < 200) = false := decide_eq_false (by omega)
      have HO := Lib.hid hO
      have HB := Lib.hid hB
      clear hO hB hR
      go_wp2
      go_ret2
      exact OutRd.of (by rw [← hX]; exact HF.out) rfl HO.out HB.out
end Go.Proofs.YtaadelcmhbgpnaaGreatDoor
