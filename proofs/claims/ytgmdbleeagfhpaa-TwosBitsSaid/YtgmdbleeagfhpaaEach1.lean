/- Words part by part: plain laws; twos.each. -/
import Derived.Test.YtgmdbleeagfhpaaWord19
import Derived.Laws.BitsAllLaws
set_option linter.unusedSimpArgs false
set_option linter.unusedVariables false
namespace Go.Proofs.Ytgmdbleeagfhpaa
open Go.RowKit
theorem lim_and (N M i : Nat) : lim (N &&& M) i = lim N i &&& lim M i := by
  unfold lim
  apply Nat.eq_of_testBit_eq
  intro j
  rw [show (18446744073709551616 : Nat) = 2 ^ 64 from rfl]
  simp only [Nat.testBit_and, Nat.testBit_mod_two_pow, Nat.testBit_div_two_pow]
  by_cases h : j < 64 <;> simp [h]
theorem lim_or (N M i : Nat) : lim (N ||| M) i = lim N i ||| lim M i := by
  unfold lim
  apply Nat.eq_of_testBit_eq
  intro j
  rw [show (18446744073709551616 : Nat) = 2 ^ 64 from rfl]
  simp only [Nat.testBit_or, Nat.testBit_mod_two_pow, Nat.testBit_div_two_pow]
  by_cases h : j < 64 <;> simp [h]
theorem lim_xor (N M i : Nat) : lim (N ^^^ M) i = lim N i ^^^ lim M i := by
  unfold lim
  apply Nat.eq_of_testBit_eq
  intro j
  rw [show (18446744073709551616 : Nat) = 2 ^ 64 from rfl]
  simp only [Nat.testBit_xor, Nat.testBit_mod_two_pow, Nat.testBit_div_two_pow]
  by_cases h : j < 64 <;> simp [h]
/-- the bits that N has not -/
def notN (N : Nat) : Nat := W256 - 1 - N
theorem lim_not (N i : Nat) (hN : N < W256) (hi : i < 4) : lim (notN N) i = 18446744073709551615 - lim N i := by
  have h1 := lim_sum N hN
  have h2 := lim_sum (notN N) (by unfold notN; omega)
  have l0 := lim_lt N 0
  have l1 := lim_lt N 1
  have l2 := lim_lt N 2
  have l3 := lim_lt N 3
  have k0 := lim_lt (notN N) 0
  have k1 := lim_lt (notN N) 1
  have k2 := lim_lt (notN N) 2
  have k3 := lim_lt (notN N) 3
  have h3 : notN N + N = W256 - 1 := by unfold notN; omega
  unfold W256 at h3
  rcases (show i = 0 ∨ i = 1 ∨ i = 2 ∨ i = 3 from by omega) with rfl | rfl | rfl | rfl
  all_goals
    generalize lim N 0 = a0 at *
    generalize lim N 1 = a1 at *
    generalize lim N 2 = a2 at *
    generalize lim N 3 = a3 at *
    generalize lim (notN N) 0 = b0 at *
    generalize lim (notN N) 1 = b1 at *
    generalize lim (notN N) 2 = b2 at *
    generalize lim (notN N) 3 = b3 at *
    omega
end Go.Proofs.Ytgmdbleeagfhpaa
