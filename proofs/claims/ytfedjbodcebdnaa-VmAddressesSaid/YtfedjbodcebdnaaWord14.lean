/- The reference's WBit, WMul. -/
import Derived.Test.YtfedjbodcebdnaaWord13
set_option linter.unusedSimpArgs false
set_option linter.unusedVariables false
namespace Go.Proofs.Ytfedjbodcebdnaa
open Go.RowKit
theorem byte_bit (N i : Nat) : (byteN N (i / 8) / 2 ^ (i % 8) % 2 == 1) = N.testBit i := by
  rw [Nat.testBit_eq_decide_div_mod_eq]
  have h : byteN N (i / 8) / 2 ^ (i % 8) % 2 = N / 2 ^ i % 2 := by
    unfold byteN
    obtain ⟨r, hr⟩ : ∃ r, r = i % 8 := ⟨_, rfl⟩
    have hi : i = 8 * (i / 8) + r := by omega
    rw [← hr]
    have : N / 2 ^ i = N / 2 ^ (8 * (i / 8)) / 2 ^ r := by rw [Nat.div_div_eq_div_mul, ← Nat.pow_add, ← hi]
    rw [this]
    generalize N / 2 ^ (8 * (i / 8)) = a
    have hr8 : r < 8 := by omega
    clear hi this hr
    rcases (show r = 0 ∨ r = 1 ∨ r = 2 ∨ r = 3 ∨ r = 4 ∨ r = 5 ∨ r = 6 ∨ r = 7 from by omega) with rfl | rfl | rfl | rfl | rfl | rfl | rfl | rfl <;> omega
  rw [h, Bool.eq_iff_iff]
  simp
/-- The contracts with their arguments as a load leaves them. -/
theorem wadd_l (N M : Nat) (w : World) : Calls Try.prog 124 #[.agg (wcs N).toArray, .agg (wcs M).toArray] w fun e w' => e = .returned (.agg (wcs (addN N M)).toArray) ∧ Below w.heap.size w w' := wadd_any N M w
def mulN (N M : Nat) : Nat := (N * M) % W256
theorem mulN_lt (N M : Nat) : mulN N M < W256 := Nat.mod_lt _ (by unfold W256; omega)
theorem add_mod_l (a b W : Nat) : (a % W + b) % W = (a + b) % W := by rw [Nat.add_mod, Nat.mod_mod, ← Nat.add_mod]
theorem mul_dbl (N K : Nat) : addN (mulN N K) (mulN N K) = mulN N (2 * K) := by
  unfold addN mulN
  rw [← Nat.add_mod, show N * (2 * K) = N * K + N * K from by rw [← Nat.mul_assoc, Nat.mul_comm N 2, Nat.mul_assoc]; omega]
theorem mul_one_more (N K : Nat) : addN (mulN N K) N = mulN N (K + 1) := by
  unfold addN mulN
  rw [add_mod_l, Nat.mul_add, Nat.mul_one]
theorem half_bit (M j : Nat) : M / 2 ^ j = 2 * (M / 2 ^ (j + 1)) + (if M.testBit j then 1 else 0) := by
  rw [Nat.testBit_eq_decide_div_mod_eq, Nat.pow_succ, ← Nat.div_div_eq_div_mul]
  generalize M / 2 ^ j = a
  by_cases h : a % 2 = 1
  · simp [h]; omega
  · simp [h]; omega
end Go.Proofs.Ytfedjbodcebdnaa
