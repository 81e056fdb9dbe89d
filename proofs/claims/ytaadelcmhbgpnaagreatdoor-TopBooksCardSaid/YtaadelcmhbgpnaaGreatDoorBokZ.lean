/-
  BOOKS: the laws' own functions: long, sane.
-/
import Derived.Test.YtaadelcmhbgpnaaGreatDoorBokY
import Derived.Test.YtaadelcmhbgpnaaGreatDoorBokR
import Derived.Test.YtaadelcmhbgpnaaGreatDoorBokT
import Derived.Test.YtaadelcmhbgpnaaGreatDoorBokJ
namespace Go.Proofs.YtaadelcmhbgpnaaGreatDoor
open Go.RowKit
open Go.Lib
def longL (xs : List ByteArray) : Bool := xs.any fun x => decide (30000 < x.size)
set_option maxRecDepth 100000 in
theorem long_any (A : Option Addr) (c : Nat) (xs : List ByteArray) (hn : xs.length ≤ 1000000) (w : World) (hI : IsS w A xs.length xs) :
    Calls Tryz.prog 8 #[.slice A xs.length c] w fun e w' => e = .returned (.bool (longL xs)) ∧ w = w' := by
  have HI := Lib.hid hI
  clear hI
  go_enter Tryz.func8, Tryz.ntmps8
  go_upto_region 2 with fail
  go_loopw [3] (fun i wr => ∃ k : Nat, i = .int .i64 k ∧ wr = w ∧ k ≤ xs.length ∧ Hid (∀ j (h : j < xs.length), j < k → xs[j].size ≤ 30000)) (fun i _ => xs.length - (RowKit.intOf i).toNat)
  case atStart => exact ⟨0, rfl, rfl, by omega, Lib.hid fun j h hj => by omega⟩
  case round =>
    obtain ⟨k, rfl, rfl, hk, hr⟩ := hrel
    by_cases hlt : k < xs.length
    · have dl : decide ((k : Int) < (xs.length : Int)) = true := decide_eq_true (by omega)
      obtain ⟨b, o, rfl, hb, hc⟩ := HI.out.2 (by omega)
      have q0 := hc k hlt
      obtain ⟨x, hx⟩ : ∃ x, x = xs[k] := ⟨_, rfl⟩
      rw [← hx] at q0
      by_cases h : 30000 < x.size
      · have HL := Lib.hid (show longL xs = true from List.any_eq_true.2 ⟨xs[k], List.getElem_mem _, by rw [← hx]; exact decide_eq_true h⟩)
        have d1 : decide ((30000 : Int) < (x.size : Int)) = true := decide_eq_true (by omega)
        clear hr hc hx h
        go_wp2
        go_ret
        exact ⟨by rw [HL.out] <;> rfl, rfl⟩
      · have HR := Lib.hid (show ∀ j (h : j < xs.length), j < k + 1 → xs[j].size ≤ 30000 from fun j hj hjk => by
          by_cases he : j < k
          · exact hr.out j hj he
          · obtain rfl : j = k := by omega
            rw [← hx]; omega)
        have d1 : decide ((30000 : Int) < (x.size : Int)) = false := decide_eq_false (by omega)
        clear hr hc hx h
        go_wp2
        go_roundw
        case rel => exact ⟨k + 1, by go_num, trivial, by omega, HR⟩
        case measure => simp [RowKit.intOf]; omega
    · have dl : decide ((k : Int) < (xs.length : Int)) = false := decide_eq_false (by omega)
      have HL := Lib.hid (show longL xs = false by
        rw [Bool.eq_false_iff]
        intro h
        obtain ⟨x, hx, h2⟩ := List.any_eq_true.1 h
        obtain ⟨j, hj, rfl⟩ := List.mem_iff_getElem.1 hx
        have := hr.out j hj (by omega)
        have := of_decide_eq_true h2
        omega)
      clear hr
      go_wp2
      go_ret
      exact ⟨by rw [HL.out] <;> rfl, rfl⟩
/-- What is known of the chapter's examples. -/
def sB : ByteArray := ⟨#[115, 116, 111, 99, 107]⟩
def cB : ByteArray := ⟨#[99, 97, 115, 104]⟩
def kP : Po := ⟨sB, cB, 270⟩
theorem kP_val : valPo [kP] = 0 := by decide +kernel
theorem kP_text : postT kP = [112, 111, 115, 116, 32, 115, 116, 111, 99, 107, 32, 99, 97, 115, 104, 32, 49, 108, 32, 50, 115, 32, 54, 100] := by decide +kernel
theorem k_sum1 : sumT 0 [97] = 98 := by decide +kernel
theorem k_sum2 : sumT 98 [98] = 25285 := by decide +kernel
theorem k_disc : discO 101 1 40 = (98, 0) := by decide +kernel
theorem k_right : rightT [97] = true := by decide +kernel
theorem k_write : readB 200 1 0 (lineT 1 0 [97]) = ([[97]], []) := by
  have h : Rights [[97]] := fun t ht => by rw [List.mem_singleton.1 ht]; exact k_right
  have := read_write h (by simp)
  rw [← this]
  simp [writeB]
theorem k_read : readB 200 1 0 [] = ([], []) := read_write (ts := []) (fun t h => by cases h) (by simp)
theorem k_app : appV ⟨#[]⟩ ⟨#[97]⟩ = (⟨(lineT 1 0 [97]).toArray⟩, 0) := by
  have h1 : (⟨#[]⟩ : ByteArray).data.toList = [] := rfl
  have h2 : (⟨#[97]⟩ : ByteArray).data.toList = [97] := rfl
  unfold appV
  rw [h1, h2, k_read, if_neg (by simp), if_neg (by rw [k_right]; simp), if_neg (by simp)]
  have : endZ 1 0 [] = 0 := rfl
  rw [this]
  refine Prod.ext ?_ rfl
  exact toList_inj (by simp)
theorem k_len : (lineT 1 0 [97]).length ≤ 97 := line_le (by omega) k_right
set_option maxRecDepth 100000 in
set_option maxHeartbeats 2000000 in
theorem sane_any (w : World) (hl : LibOK w) :
    Calls Tryz.prog 9 #[] w fun e w' => e = .returned (.bool true) ∧ Below w.heap.size w w' := by
  have HL := Lib.hid hl
  obtain ⟨B, hB⟩ : ∃ B : ByteArray, B = ⟨(lineT 1 0 [97]).toArray⟩ := ⟨_, rfl⟩
  have hBs : B.size ≤ 97 := by rw [hB, str_size]; exact k_len
  have hB0 : B.data.toList ≠ [] := by
    rw [hB]; intro h
    have := congrArg List.length h
    rw [show (⟨(lineT 1 0 [97]).toArray⟩ : ByteArray).data.toList = lineT 1 0 [97] by simp, lineT_len] at this
    simp at this
  have hBe := empty_no hB0
  have hBw : decide ((readB 200 1 0 B.data.toList).2 = []) = true := by
    rw [hB, show (⟨(lineT 1 0 [97]).toArray⟩ : ByteArray).data.toList = lineT 1 0 [97] by simp, k_write]; rfl
  have ha := k_app
  rw [← hB] at ha
  have HA := Lib.hid ha
  have HW := Lib.hid hBw
  clear hl ha hBw hB hB0
  go_enter Tryz.func9, Tryz.ntmps9
  go_wp2_with fail
  refine (pappend_any ⟨#[]⟩ ⟨#[97]⟩ (by decide) (by decide) B 0 HA.out _ HL.out).mono ?_
  rintro e w1 ⟨rfl, hb1⟩
  have L1 := Lib.hid (HL.out.below hb1)
  go_wp2_with fail
  refine (pdisc_any 101 1 40 98 0 k_disc (by decide) (by decide) (by decide) (by decide) (by decide) (by decide) _).mono ?_
  rintro e w2 ⟨rfl, hb2⟩
  have hB2 := hb1.trans (hb2.mono hb1.size)
  have L2 := Lib.hid (L1.out.below hb2)
  clear hb1 hb2 L1
  go_wp2_with fail
  refine (pparse_any ⟨#[112, 111, 115, 116, 32, 115, 116, 111, 99, 107, 32, 99, 97, 115, 104, 32, 49, 108, 32, 50, 115, 32, 54, 100]⟩ (by decide) _ L2.out).mono ?_
  rintro e w3 ⟨x, z, rfl, hp, hb3⟩
  obtain ⟨rfl, rfl⟩ := PrsP.unique hp (.inl ⟨rfl, kP_val, kP_text⟩)
  clear hp
  have hB3 := hB2.trans (hb3.mono hB2.size)
  have L3 := Lib.hid (L2.out.below hb3)
  clear hB2 hb3 L2
  unfold kP sB cB
  have hX0 := Box3.new w3 (.string ⟨#[115, 116, 111, 99, 107]⟩) (.string ⟨#[99, 97, 115, 104]⟩) (.int .i64 270) 65
  have hB4 := hB3.trans ((below_new w3 (.cells #[.string ⟨#[115, 116, 111, 99, 107]⟩, .string ⟨#[99, 97, 115, 104]⟩, .int .i64 270] 65)).mono hB3.size)
  have L4 := Lib.hid (HL.out.below hB4)
  obtain ⟨u, hu⟩ : ∃ u, u = w3.alloc (.cells #[.string ⟨#[115, 116, 111, 99, 107]⟩, .string ⟨#[99, 97, 115, 104]⟩, .int .i64 270] 65) := ⟨_, rfl⟩
  obtain ⟨b, hb⟩ : ∃ b, b = w3.heap.size := ⟨_, rfl⟩
  rw [← hu] at hX0 hB4 L4
  rw [← hb] at hX0
  have HU := Lib.hid hu
  have HB := Lib.hid hb
  clear hu hb hB3 L3
  go_wp2_with fail
  rw [← HU.out, ← HB.out]
  have H1 := fun w' => psum_any 0 ⟨#[97]⟩ (by decide) w'
  simp only [k_sum1] at H1
  refine (H1 _).mono ?_
  rintro e w' ⟨rfl, rfl⟩
  clear H1
  go_wp2_with fail
  have H1 := fun w' => psum_any 98 ⟨#[98]⟩ (by decide) w'
  simp only [k_sum2] at H1
  refine (H1 _).mono ?_
  rintro e w'' ⟨rfl, rfl⟩
  clear H1
  go_wp2_with fail
  have H1 := piswhole_any B (by omega) _ L4.out
  rw [HW.out] at H1
  refine H1.mono ?_
  rintro e w5 ⟨rfl, hb5⟩
  clear H1
  obtain ⟨x0, x1, x2, x3, x4, x5, x6⟩ := hX0.keep hb5
  have hB5 := hB4.trans (hb5.mono hB4.size)
  clear hX0 hb5 hB4 L4
  go_wp2
  go_ret
  exact ⟨rfl, hB5⟩
end Go.Proofs.YtaadelcmhbgpnaaGreatDoor
