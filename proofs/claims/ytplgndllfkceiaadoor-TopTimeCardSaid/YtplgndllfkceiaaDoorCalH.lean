/-
  THE HOURS OF A DAY BETWEEN TWO TIMES, THEIR SUM, AND THE TIME AT WHICH SO MANY ARE WORKED: PLAIN.
-/
import Derived.Test.YtplgndllfkceiaaDoorCalC
namespace Go.Proofs.YtplgndllfkceiaaDoor
/-- What is worked on day d between a and b. -/
def hrs (K : Cal) (d a b : Int) : Int := if opn K d = true then max 0 (min b (d * 1440 + K.e) - max a (d * 1440 + K.s)) else 0
/-- .. on the first n days. -/
def total (K : Cal) (a b : Int) : Nat → Int
  | 0 => 0
  | n + 1 => total K a b n + hrs K n a b
theorem hrs_bd {K : Cal} (h : ¬ (K.s < 0 ∨ 1440 ≤ K.s ∨ K.e ≤ K.s ∨ 1440 < K.e)) (d a b : Int) : 0 ≤ hrs K d a b ∧ hrs K d a b ≤ 1440 := by
  unfold hrs
  split <;> omega
theorem total_bd {K : Cal} (h : ¬ (K.s < 0 ∨ 1440 ≤ K.s ∨ K.e ≤ K.s ∨ 1440 < K.e)) (a b : Int) (n : Nat) : 0 ≤ total K a b n ∧ total K a b n ≤ 1440 * n := by
  induction n with
  | zero => simp [total]
  | succ n ih =>
    have := hrs_bd h n a b
    simp only [total]
    omega
/-- Days that end ahead of a, and days that begin behind b, give nothing. -/
theorem hrs_before {K : Cal} (h : ¬ (K.s < 0 ∨ 1440 ≤ K.s ∨ K.e ≤ K.s ∨ 1440 < K.e)) {d a b : Int} (hd : (d + 1) * 1440 ≤ a) : hrs K d a b = 0 := by
  unfold hrs
  split <;> omega
theorem hrs_behind {K : Cal} (h : ¬ (K.s < 0 ∨ 1440 ≤ K.s ∨ K.e ≤ K.s ∨ 1440 < K.e)) {d a b : Int} (hd : b ≤ d * 1440) : hrs K d a b = 0 := by
  unfold hrs
  split <;> omega
theorem total_before {K : Cal} (h : ¬ (K.s < 0 ∨ 1440 ≤ K.s ∨ K.e ≤ K.s ∨ 1440 < K.e)) {a b : Int} (n : Nat) (hn : (n : Int) * 1440 ≤ a) : total K a b n = 0 := by
  induction n with
  | zero => rfl
  | succ n ih =>
    simp only [total]
    rw [ih (by omega), hrs_before h (by omega)]
    rfl
theorem total_behind {K : Cal} (h : ¬ (K.s < 0 ∨ 1440 ≤ K.s ∨ K.e ≤ K.s ∨ 1440 < K.e)) {a b : Int} (n k : Nat) (hn : b ≤ (n : Int) * 1440) : total K a b (n + k) = total K a b n := by
  induction k with
  | zero => rfl
  | succ k ih =>
    rw [← Nat.add_assoc, total, ih, hrs_behind h (by omega), Int.add_zero]
/-- The time behind which m minutes are worked, n days being left of 2000. -/
def aft (K : Cal) (a : Int) : Nat → Int → Int × Int
  | 0, _ => (0, 4)
  | n + 1, m => if hrs K ((2000 - (n + 1) : Nat) : Int) a 2880000 < m then aft K a n (m - hrs K ((2000 - (n + 1) : Nat) : Int) a 2880000) else (max a (((2000 - (n + 1) : Nat) : Int) * 1440 + K.s) + m, 0)
theorem aft_step {K : Cal} {a : Int} {d : Nat} {m p z : Int} (hd : d < 2000) (h : aft K a (2000 - d) m = (p, z)) :
    (hrs K d a 2880000 < m → aft K a (2000 - (d + 1)) (m - hrs K d a 2880000) = (p, z)) ∧ (¬ hrs K d a 2880000 < m → (max a ((d : Int) * 1440 + K.s) + m, (0 : Int)) = (p, z)) := by
  have h1 : 2000 - d = (2000 - (d + 1)) + 1 := by omega
  rw [h1, aft] at h
  have h2 : 2000 - (2000 - (d + 1) + 1) = d := by omega
  rw [h2] at h
  constructor
  · intro ho; rw [if_pos ho] at h; exact h
  · intro ho; rw [if_neg ho] at h; exact h
theorem aft_skip {K : Cal} (h : ¬ (K.s < 0 ∨ 1440 ≤ K.s ∨ K.e ≤ K.s ∨ 1440 < K.e)) {a m : Int} (hm : 0 < m) (n : Nat) (hn : (n : Int) * 1440 ≤ a) (h2 : n ≤ 2000) : aft K a 2000 m = aft K a (2000 - n) m := by
  induction n with
  | zero => rfl
  | succ n ih =>
    rw [ih (by omega) (by omega)]
    obtain ⟨p, z, hp⟩ : ∃ p z, aft K a (2000 - n) m = (p, z) := ⟨_, _, rfl⟩
    have h0 : hrs K n a 2880000 = 0 := hrs_before h (by omega)
    have := (aft_step (by omega) hp).1 (by omega)
    rw [h0, Int.sub_zero] at this
    rw [hp, this]
end Go.Proofs.YtplgndllfkceiaaDoor
