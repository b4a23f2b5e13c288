/- word.Sub. -/
import Derived.Test.YtohenjgegkgncaaWord6
import Derived.Shelf.Spec.BitsCarry
set_option linter.unusedSimpArgs false
set_option linter.unusedVariables false
namespace Go.Proofs.Ytohenjgegkgncaa
open Go.RowKit
theorem sub64_run (x y b : Nat) (hb : b ≤ 1) (w : World) :
    (callFunc 162 #[.int .u64 x, .int .u64 y, .int .u64 b]).run Try.prog w =
      .ok (.value (.tuple #[.int .u64 (((x + 18446744073709551616 - y - b) % 18446744073709551616 : Nat) : Int), .int .u64 ((if x < y + b then 1 else 0 : Nat) : Int)])) w := by
  rw [run_callFunc_extern Try.func162 (by kernel_rfl) (by kernel_rfl) (by kernel_rfl) (e := sub64Entry) (by kernel_rfl), run_sub64 x y b hb]
  rfl
/-- the difference, rest 2^256 -/
def subN (N M : Nat) : Nat := (N + W256 - M) % W256
def bor (N M k : Nat) : Nat := if N % 2 ^ (64 * k) < M % 2 ^ (64 * k) then 1 else 0
theorem bor_le (N M k : Nat) : bor N M k ≤ 1 := by unfold bor; split <;> omega
theorem bor_zero (N M : Nat) : bor N M 0 = 0 := by unfold bor; simp [Nat.mod_one]
theorem mod_step (N k : Nat) : N % 2 ^ (64 * (k + 1)) = 2 ^ (64 * k) * lim N k + N % 2 ^ (64 * k) := by
  rw [show 64 * (k + 1) = 64 * k + 64 from by omega, Nat.pow_add, Nat.mod_mul, Nat.add_comm]; rfl
theorem bor_step (N M k : Nat) : bor N M (k + 1) = if lim N k < lim M k + bor N M k then 1 else 0 := by
  unfold bor
  rw [mod_step, mod_step]
  have hP : 0 < 2 ^ (64 * k) := Nat.two_pow_pos _
  have h1 : N % 2 ^ (64 * k) < 2 ^ (64 * k) := Nat.mod_lt _ hP
  have h2 : M % 2 ^ (64 * k) < 2 ^ (64 * k) := Nat.mod_lt _ hP
  generalize N % 2 ^ (64 * k) = a at *
  generalize M % 2 ^ (64 * k) = b at *
  generalize 2 ^ (64 * k) = P at *
  generalize lim N k = x at *
  generalize lim M k = y at *
  rcases Nat.lt_trichotomy x y with h | h | h
  · have : P * (x + 1) ≤ P * y := Nat.mul_le_mul_left _ h
    rw [Nat.mul_add, Nat.mul_one] at this
    rw [if_pos (by omega), if_pos (by split <;> omega)]
  · subst h
    by_cases hab : a < b
    · rw [if_pos (by omega), if_pos (by rw [if_pos hab]; omega)]
    · rw [if_neg (by omega), if_neg (by rw [if_neg hab]; omega)]
  · have : P * (y + 1) ≤ P * x := Nat.mul_le_mul_left _ h
    rw [Nat.mul_add, Nat.mul_one] at this
    rw [if_neg (by omega), if_neg (by split <;> omega)]
theorem sub_step (N M k : Nat) (hk : k < 4) (hM : M < W256) : (lim N k + 18446744073709551616 - lim M k - bor N M k) % 18446744073709551616 = lim (subN N M) k := by
  unfold subN bor W256 at *
  rcases (show k = 0 ∨ k = 1 ∨ k = 2 ∨ k = 3 from by omega) with rfl | rfl | rfl | rfl
  · rw [lim0, lim0, lim0, if_neg (by simp [Nat.mod_one])]; omega
  · rw [lim1, lim1, lim1, show 2 ^ (64 * 1) = 18446744073709551616 from rfl]; split <;> omega
  · rw [lim2, lim2, lim2, show 2 ^ (64 * 2) = 340282366920938463463374607431768211456 from rfl]; split <;> omega
  · rw [lim3, lim3, lim3, show 2 ^ (64 * 3) = 6277101735386680763835789423207666416102355444464034512896 from rfl]; split <;> omega
end Go.Proofs.Ytohenjgegkgncaa
