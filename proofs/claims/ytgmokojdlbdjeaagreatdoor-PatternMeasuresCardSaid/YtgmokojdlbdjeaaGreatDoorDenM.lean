/-
  HOW OFTEN: SUMS OVER A REPEAT, WHICHEVER REPEAT IT IS, TURNED OR NOT. PLAIN.
-/
import Derived.Test.YtgmokojdlbdjeaaGreatDoorComM
namespace Go.Proofs.YtgmokojdlbdjeaaGreatDoor
def sumN (g : Nat → Int) : Nat → Int
  | 0 => 0
  | n + 1 => sumN g n + g n
theorem sumN_congr {g h : Nat → Int} : ∀ {n : Nat}, (∀ i, i < n → g i = h i) → sumN g n = sumN h n
  | 0, _ => rfl
  | n + 1, e => by
    show sumN g n + g n = sumN h n + h n
    rw [sumN_congr fun i hi => e i (by omega), e n (by omega)]
theorem sumN_add (g : Nat → Int) (n : Nat) : ∀ m : Nat, sumN g (n + m) = sumN g n + sumN (fun i => g (n + i)) m
  | 0 => by simp [sumN]
  | m + 1 => by
    show sumN g (n + m) + g (n + m) = sumN g n + (sumN (fun i => g (n + i)) m + g (n + m))
    rw [sumN_add g n m]; omega
theorem sumN_plus (g h : Nat → Int) : ∀ n : Nat, sumN (fun i => g i + h i) n = sumN g n + sumN h n
  | 0 => by simp [sumN]
  | n + 1 => by
    show sumN (fun i => g i + h i) n + (g n + h n) = sumN g n + g n + (sumN h n + h n)
    rw [sumN_plus g h n]; omega
theorem sumN_zero : ∀ n : Nat, sumN (fun _ => 0) n = 0
  | 0 => rfl
  | n + 1 => by show sumN (fun _ => 0) n + 0 = 0; rw [sumN_zero n]; rfl
theorem sumN_mul (a : Int) (g : Nat → Int) : ∀ n : Nat, sumN (fun i => a * g i) n = a * sumN g n
  | 0 => by simp [sumN]
  | n + 1 => by
    show sumN (fun i => a * g i) n + a * g n = a * (sumN g n + g n)
    rw [sumN_mul a g n, Int.mul_add]
theorem sumN_swap (f : Nat → Nat → Int) (n : Nat) : ∀ m : Nat, sumN (fun y => sumN (fun x => f x y) n) m = sumN (fun x => sumN (fun y => f x y) m) n
  | 0 => by
    show (0 : Int) = sumN (fun x => 0) n
    rw [sumN_zero]
  | m + 1 => by
    show sumN (fun y => sumN (fun x => f x y) n) m + sumN (fun x => f x m) n = sumN (fun x => sumN (fun y => f x y) m + f x m) n
    rw [sumN_swap f n m, sumN_plus]
theorem sumN_block (h : Nat → Int) (n : Nat) : ∀ m : Nat, sumN h (m * n) = sumN (fun y => sumN (fun x => h (y * n + x)) n) m
  | 0 => by simp [sumN]
  | m + 1 => by
    rw [Nat.add_mul, Nat.one_mul, sumN_add, sumN_block h n m]
    rfl
theorem sumN_rev (h : Nat → Int) : ∀ n : Nat, sumN (fun i => h (n - 1 - i)) n = sumN h n
  | 0 => rfl
  | n + 1 => by
    have e := sumN_add (fun i => h (n + 1 - 1 - i)) 1 n
    rw [Nat.add_comm 1 n] at e
    rw [e]
    show 0 + h (n + 1 - 1 - 0) + sumN (fun i => h (n + 1 - 1 - (1 + i))) n = sumN h n + h n
    rw [sumN_congr (h := fun i => h (n - 1 - i)) (fun i _ => by rw [show n + 1 - 1 - (1 + i) = n - 1 - i by omega]), sumN_rev h n]
    rw [show n + 1 - 1 - 0 = n by omega]
    omega
/-- A sum over a period does not depend on where it begins. -/
theorem sum_shift1 {g : Int → Int} {n : Nat} (hp : ∀ x, g (x + n) = g x) (t : Int) : sumN (fun i => g (t + 1 + i)) n = sumN (fun i => g (t + i)) n := by
  have e1 := sumN_add (fun i => g (t + i)) 1 n
  have e2 : sumN (fun i => g (t + i)) (n + 1) = sumN (fun i => g (t + i)) n + g (t + n) := rfl
  rw [Nat.add_comm 1 n] at e1
  have e3 : sumN (fun i => g (t + i)) 1 = g t := by show 0 + g (t + ((0 : Nat) : Int)) = g t; simp
  have e4 : sumN (fun i => g (t + ((1 + i : Nat) : Int))) n = sumN (fun i => g (t + 1 + i)) n := sumN_congr fun i _ => by
    rw [show t + ((1 + i : Nat) : Int) = t + 1 + i by omega]
  have e5 := hp t
  rw [e4, e3, e2] at e1
  rw [← e5] at e1
  omega
theorem sum_shift {g : Int → Int} {n : Nat} (hp : ∀ x, g (x + n) = g x) (t : Int) : sumN (fun i => g (t + i)) n = sumN (fun i => g i) n := by
  have h1 : ∀ k : Nat, sumN (fun i => g (k + i)) n = sumN (fun i => g i) n := fun k => by
    induction k with
    | zero => exact sumN_congr fun i _ => by simp
    | succ k ih => rw [← ih, ← sum_shift1 hp (k : Int)]; exact sumN_congr fun i _ => by rw [show ((k + 1 : Nat) : Int) + (i : Int) = k + 1 + i by omega]
  have h2 : ∀ k : Nat, sumN (fun i => g (-(k : Int) + i)) n = sumN (fun i => g i) n := fun k => by
    induction k with
    | zero => exact sumN_congr fun i _ => by simp
    | succ k ih => rw [← ih, ← sum_shift1 hp (-((k + 1 : Nat) : Int))]; exact sumN_congr fun i _ => by rw [show -((k + 1 : Nat) : Int) + 1 + (i : Int) = -(k : Int) + i by omega]
  rcases Int.le_total 0 t with h | h
  · obtain ⟨k, rfl⟩ := Int.eq_ofNat_of_zero_le h
    exact h1 k
  · obtain ⟨k, hk⟩ := Int.eq_ofNat_of_zero_le (show 0 ≤ -t by omega)
    obtain rfl : t = -(k : Int) := by omega
    exact h2 k
theorem sum_neg {g : Int → Int} {n : Nat} (hp : ∀ x, g (x + n) = g x) : sumN (fun i => g (-(i : Int))) n = sumN (fun i => g i) n := by
  have e1 := sumN_rev (fun i => g (-((n : Int) - 1) + i)) n
  have e2 : sumN (fun i => (fun i : Nat => g (-((n : Int) - 1) + i)) (n - 1 - i)) n = sumN (fun i => g (-(i : Int))) n := sumN_congr fun i hi => by
    show g (-((n : Int) - 1) + ((n - 1 - i : Nat) : Int)) = g (-(i : Int))
    rw [show -((n : Int) - 1) + ((n - 1 - i : Nat) : Int) = -(i : Int) by omega]
  rw [e2] at e1
  rw [e1]
  exact sum_shift hp _
theorem sum_rep {g : Int → Int} {n : Nat} (hp : ∀ x, g (x + n) = g x) : ∀ k : Nat, sumN (fun i => g i) (k * n) = k * sumN (fun i => g i) n
  | 0 => by simp [sumN]
  | k + 1 => by
    rw [Nat.add_mul, Nat.one_mul, sumN_add, sum_rep hp k]
    have : sumN (fun i => g ((k * n + i : Nat) : Int)) n = sumN (fun i => g i) n := by
      rw [← sum_shift hp ((k * n : Nat) : Int)]
      exact sumN_congr fun i _ => by rw [Int.natCast_add]
    rw [this]
    rw [show ((k + 1 : Nat) : Int) = k + 1 by omega, Int.add_mul, Int.one_mul]
/-- The sum over a box. -/
def boxS (f : Int → Int → Int) (n m : Nat) : Int := sumN (fun y => sumN (fun x => f x y) n) m
theorem rowS_per {f : Int → Int → Int} {n m : Nat} {b : Int} (h : Base f n b m) (y : Int) : sumN (fun x => f x (y + m)) n = sumN (fun x => f x y) n := by
  have e := sum_shift (g := fun x => f x (y + m)) (n := n) (fun x => by have := h.pa x (y + m); rwa [Int.add_zero] at this) b
  rw [← e]
  exact sumN_congr fun i _ => by
    have := h.pb i y
    rw [← this, Int.add_comm b]
theorem Base.box {f : Int → Int → Int} {n m : Nat} {b : Int} (h : Base f n b m) (k l : Nat) : boxS f (k * n) (l * m) = (k : Int) * l * boxS f n m := by
  unfold boxS
  have e1 : ∀ y : Int, sumN (fun x => f x y) (k * n) = k * sumN (fun x => f x y) n := fun y => sum_rep (g := fun x => f x y) (fun x => by have := h.pa x y; rwa [Int.add_zero] at this) k
  rw [sumN_congr fun y _ => e1 y, sumN_mul]
  have e2 := sum_rep (g := fun y => sumN (fun x => f x y) n) (n := m) (fun y => rowS_per h y) l
  rw [e2, Int.mul_assoc]
theorem Base.dens {f : Int → Int → Int} {n m n' m' : Nat} {b b' : Int} (h : Base f n b m) (k : Base f n' b' m') : boxS f n m * ((n' : Int) * m') = boxS f n' m' * ((n : Int) * m) := by
  have e1 := h.box n' m'
  have e2 := k.box n m
  rw [Nat.mul_comm n n', Nat.mul_comm m m', e1] at e2
  rw [Int.mul_comm, e2, Int.mul_comm]
theorem Base.sq {F : Int → Int → Int} {a b c : Int} (h : Base F a b c) : Base F (a * c) 0 (a * c) := by
  have h0 := Int.mul_pos h.a0 h.c0
  refine ⟨h0, h0, ?_, ?_⟩
  · exact h.lat ((lat_iff h.c0).2 ⟨c, 0, by rw [Int.mul_comm]; omega, by omega⟩)
  · exact h.lat ((lat_iff h.c0).2 ⟨-b, a, by rw [Int.neg_mul, Int.mul_comm b a]; omega, rfl⟩)
theorem box_turn {f : Int → Int → Int} {n : Nat} (h : Base f n 0 n) : boxS (turnF f) n n = boxS f n n := by
  unfold boxS turnF
  rw [sumN_swap (fun x y => f y (-(x : Int))) n n]
  have hp : ∀ y : Int, sumN (fun x => f x (y + n)) n = sumN (fun x => f x y) n := fun y => rowS_per h y
  have := sum_neg (g := fun y => sumN (fun x => f x y) n) hp
  exact this
/-- Where a color is. -/
def isC (F : Int → Int → Int) (c : Int) : Int → Int → Int := fun x y => if F x y = c then 1 else 0
/-- How many walls a cell has to the right and above. -/
def rightW (F : Int → Int → Int) : Int → Int → Int := fun x y => if F (x + 1) y ≠ F x y then 1 else 0
def upW (F : Int → Int → Int) : Int → Int → Int := fun x y => if F x (y + 1) ≠ F x y then 1 else 0
def wallF (F : Int → Int → Int) : Int → Int → Int := fun x y => rightW F x y + upW F x y
theorem Per.isC {F : Int → Int → Int} {a b : Int} (h : Per F a b) (c : Int) : Per (isC F c) a b := fun x y => by unfold Go.Proofs.YtgmokojdlbdjeaaGreatDoor.isC; rw [h]
theorem Per.rightW {F : Int → Int → Int} {a b : Int} (h : Per F a b) : Per (rightW F) a b := fun x y => by
  unfold Go.Proofs.YtgmokojdlbdjeaaGreatDoor.rightW; rw [h, show x + a + 1 = x + 1 + a by omega, h]
theorem Per.upW {F : Int → Int → Int} {a b : Int} (h : Per F a b) : Per (upW F) a b := fun x y => by
  unfold Go.Proofs.YtgmokojdlbdjeaaGreatDoor.upW; rw [h, show y + b + 1 = y + 1 + b by omega, h]
theorem Per.wallF {F : Int → Int → Int} {a b : Int} (h : Per F a b) : Per (wallF F) a b := fun x y => by
  unfold Go.Proofs.YtgmokojdlbdjeaaGreatDoor.wallF; rw [h.rightW, h.upW]
theorem Base.isC {F : Int → Int → Int} {a b c : Int} (h : Base F a b c) (k : Int) : Base (isC F k) a b c := ⟨h.a0, h.c0, h.pa.isC k, h.pb.isC k⟩
theorem Base.rightW {F : Int → Int → Int} {a b c : Int} (h : Base F a b c) : Base (rightW F) a b c := ⟨h.a0, h.c0, h.pa.rightW, h.pb.rightW⟩
theorem Base.upW {F : Int → Int → Int} {a b c : Int} (h : Base F a b c) : Base (upW F) a b c := ⟨h.a0, h.c0, h.pa.upW, h.pb.upW⟩
theorem Base.wallF {F : Int → Int → Int} {a b c : Int} (h : Base F a b c) : Base (wallF F) a b c := ⟨h.a0, h.c0, h.pa.wallF, h.pb.wallF⟩
theorem box_plus (f g : Int → Int → Int) (n m : Nat) : boxS (fun x y => f x y + g x y) n m = boxS f n m + boxS g n m := by
  unfold boxS
  rw [sumN_congr fun y _ => sumN_plus (fun x => f x y) (fun x => g x y) n, sumN_plus]
theorem box_up {f : Int → Int → Int} {n : Nat} (h : Base f n 0 n) (t : Int) : boxS (fun x y => f x (t + y)) n n = boxS f n n := by
  exact sum_shift (g := fun y => sumN (fun x => f x y) n) (fun y => rowS_per h y) t
theorem wall_turn {F : Int → Int → Int} {n : Nat} (h : Base F n 0 n) : boxS (wallF (turnF F)) n n = boxS (wallF F) n n := by
  have e1 : wallF (turnF F) = fun x y => turnF (fun u v => upW F u (-1 + v)) x y + turnF (rightW F) x y := by
    funext x y
    have q1 : -(x + 1) = -1 + -x := by omega
    have q2 : -1 + -x + 1 = -x := by omega
    show (if F y (-(x + 1)) ≠ F y (-x) then 1 else 0) + (if F (y + 1) (-x) ≠ F y (-x) then 1 else 0) = (if F y (-1 + -x + 1) ≠ F y (-1 + -x) then 1 else 0) + (if F (y + 1) (-x) ≠ F y (-x) then 1 else 0)
    rw [q1, q2]
    congr 1
    by_cases h : F y (-1 + -x) = F y (-x)
    · rw [if_neg (by simp [h]), if_neg (by simp [h])]
    · rw [if_pos h, if_pos (fun e => h e.symm)]
  have hup : Base (fun u v => upW F u (-1 + v)) n 0 n := ⟨h.a0, h.c0, fun x y => by
    have := h.upW.pa x (-1 + y); rwa [← Int.add_assoc] at *, fun x y => by
    have := h.upW.pb x (-1 + y); rwa [Int.add_assoc] at this⟩
  rw [e1, box_plus, box_turn hup, box_turn h.rightW, box_up h.upW]
  unfold wallF
  rw [box_plus]; omega
theorem isC_turn (F : Int → Int → Int) (c : Int) : isC (turnF F) c = turnF (isC F c) := rfl
theorem dens_cancel {N s t p q : Int} (hN : 0 < N) (h1 : s * (N * N) = t * p) {r : Int} (h2 : r * (N * N) = t * q) : s * q = r * p := by
  have hNN := Int.mul_pos hN hN
  have : N * N * (s * q) = N * N * (r * p) := by
    calc N * N * (s * q) = s * (N * N) * q := by ac_rfl
      _ = t * p * q := by rw [h1]
      _ = t * q * p := by ac_rfl
      _ = r * (N * N) * p := by rw [h2]
      _ = N * N * (r * p) := by ac_rfl
  exact Int.eq_of_mul_eq_mul_left (by omega) this
theorem Base.isC_turn {F : Int → Int → Int} {n m n' m' : Nat} {b b' : Int} (h : Base F n b m) (k : Base (turnF F) n' b' m') (c : Int) : boxS (Go.Proofs.YtgmokojdlbdjeaaGreatDoor.isC (turnF F) c) n' m' * ((n : Int) * m) = boxS (Go.Proofs.YtgmokojdlbdjeaaGreatDoor.isC F c) n m * ((n' : Int) * m') := by
  have hs := h.sq
  have hN := hs.a0
  rw [← Int.natCast_mul] at hs hN
  have hts := h.turn2
  rw [← Int.natCast_mul] at hts
  have e1 := (k.isC c).dens (hts.isC c)
  have e2 := (h.isC c).dens (hs.isC c)
  rw [Go.Proofs.YtgmokojdlbdjeaaGreatDoor.isC_turn, box_turn (hs.isC c)] at e1
  exact dens_cancel hN e1 e2
theorem Base.wall_turn {F : Int → Int → Int} {n m n' m' : Nat} {b b' : Int} (h : Base F n b m) (k : Base (turnF F) n' b' m') : boxS (Go.Proofs.YtgmokojdlbdjeaaGreatDoor.wallF (turnF F)) n' m' * ((n : Int) * m) = boxS (Go.Proofs.YtgmokojdlbdjeaaGreatDoor.wallF F) n m * ((n' : Int) * m') := by
  have hs := h.sq
  have hN := hs.a0
  rw [← Int.natCast_mul] at hs hN
  have hts := h.turn2
  rw [← Int.natCast_mul] at hts
  have e1 := k.wallF.dens hts.wallF
  have e2 := h.wallF.dens hs.wallF
  rw [Go.Proofs.YtgmokojdlbdjeaaGreatDoor.wall_turn hs] at e1
  exact dens_cancel hN e1 e2
end Go.Proofs.YtgmokojdlbdjeaaGreatDoor
