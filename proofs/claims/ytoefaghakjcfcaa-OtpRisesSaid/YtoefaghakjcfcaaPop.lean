/- How many bits of a number are set: plain. -/
import Derived.Lib.BitFns
import GoSem.Core.Layout
namespace Go.Proofs.Ytoefaghakjcfcaa
open Go.Lib (popAux onesCount pop8)

theorem pop_zero (n : Nat) : popAux n 0 = 0 := by
  induction n with
  | zero => rfl
  | succ n ih => simp [popAux, ih]
theorem pop_add (a b x : Nat) : popAux (a + b) x = popAux a x + popAux b (x / 2 ^ a) := by
  induction a generalizing x with
  | zero => simp [popAux]
  | succ a ih => rw [Nat.succ_add]; simp only [popAux]; rw [ih, Nat.div_div_eq_div_mul, Nat.pow_succ, Nat.mul_comm 2]; omega
theorem pop_mod (n x : Nat) : popAux n (x % 2 ^ n) = popAux n x := by
  induction n generalizing x with
  | zero => simp [popAux]
  | succ n ih =>
    simp only [popAux]
    have h1 : x % 2 ^ (n + 1) % 2 = x % 2 := Nat.mod_mod_of_dvd _ ⟨2 ^ n, by rw [Nat.pow_succ, Nat.mul_comm]⟩
    have h2 : x % 2 ^ (n + 1) / 2 = x / 2 % 2 ^ n := by
      rw [Nat.pow_succ, Nat.mul_comm]; exact Nat.mod_mul_right_div_self ..
    rw [h1, h2, ih]
theorem pop_le (n x : Nat) : popAux n x ≤ n := by
  induction n generalizing x with
  | zero => simp [popAux]
  | succ n ih => simp only [popAux]; have := ih (x / 2); omega
theorem pop_small (n m x : Nat) (h : x < 2 ^ n) : popAux (n + m) x = popAux n x := by
  rw [pop_add, Nat.div_eq_of_lt h, pop_zero, Nat.add_zero]
theorem ones_8 (x : Nat) (h : x < 256) : onesCount x = popAux 8 x := pop_small 8 56 x h
theorem ones_32 (x : Nat) (h : x < 4294967296) : onesCount x = popAux 32 x := pop_small 32 32 x h
theorem pop8_nat (x : Nat) (h : x < 256) : pop8 (x : Int) = popAux 8 x := by rw [← ones_8 x h]; exact Lib.pop8_eq ⟨x, h⟩
theorem pop_four (x : Nat) (h : x < 4294967296) : popAux 8 (x / 16777216) + popAux 8 (x / 65536 % 256) + popAux 8 (x / 256 % 256) + popAux 8 (x % 256) = popAux 32 x := by
  rw [show (32 : Nat) = 8 + (8 + (8 + 8)) from rfl, pop_add, pop_add, pop_add, Nat.div_div_eq_div_mul, Nat.div_div_eq_div_mul]
  have e : ∀ y, popAux 8 (y % 256) = popAux 8 y := pop_mod 8
  rw [e, e, e]
  simp only [show 2 ^ 8 = 256 from rfl, show 256 * 256 = 65536 from rfl, show 65536 * 256 = 16777216 from rfl]
  omega

/-- How many of the first n bits of x are set. -/
@[irreducible] def pc (n x : Nat) : Nat := popAux n x
theorem pc_eq (n x : Nat) : pc n x = popAux n x := by unfold pc; rfl
theorem pc_le (n x : Nat) : pc n x ≤ n := by rw [pc_eq]; exact pop_le n x
theorem pc_mod (n x : Nat) : pc n (x % 2 ^ n) = pc n x := by rw [pc_eq, pc_eq]; exact pop_mod n x
theorem pc_small (n m x : Nat) (h : x < 2 ^ n) : pc (n + m) x = pc n x := by rw [pc_eq, pc_eq]; exact pop_small n m x h

end Go.Proofs.Ytoefaghakjcfcaa
