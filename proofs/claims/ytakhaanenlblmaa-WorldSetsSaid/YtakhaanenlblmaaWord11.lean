/- Sums of digits, whatever the base; sums of words. No program in sight. -/
import Derived.Test.YtakhaanenlblmaaPackA
set_option linter.unusedSimpArgs false
set_option linter.unusedVariables false
namespace Go.Proofs.Ytakhaanenlblmaa
open Go.RowKit
/-- digit k of N, where a digit has b bits -/
def dgt (b N k : Nat) : Nat := N / 2 ^ (b * k) % 2 ^ b
def car (b N M k : Nat) : Nat := (N % 2 ^ (b * k) + M % 2 ^ (b * k)) / 2 ^ (b * k)
def addN (N M : Nat) : Nat := (N + M) % W256
theorem addN_lt (N M : Nat) : addN N M < W256 := Nat.mod_lt _ (by unfold W256; omega)
theorem subN_lt (N M : Nat) : subN N M < W256 := Nat.mod_lt _ (by unfold W256; omega)
theorem car_zero (b N M : Nat) : car b N M 0 = 0 := by unfold car; simp [Nat.mod_one]
theorem car_le (b N M k : Nat) : car b N M k ≤ 1 := by
  unfold car
  have hP : 0 < 2 ^ (b * k) := Nat.two_pow_pos _
  have h1 := Nat.mod_lt N hP
  have h2 := Nat.mod_lt M hP
  have : (N % 2 ^ (b * k) + M % 2 ^ (b * k)) / 2 ^ (b * k) < 2 := by rw [Nat.div_lt_iff_lt_mul hP]; omega
  omega
theorem car_step (b N M k : Nat) : car b N M (k + 1) = (dgt b N k + dgt b M k + car b N M k) / 2 ^ b := by
  unfold car dgt
  rw [show b * (k + 1) = b * k + b from by rw [Nat.mul_add, Nat.mul_one], Nat.pow_add, Nat.mod_mul, Nat.mod_mul]
  have hP : 0 < 2 ^ (b * k) := Nat.two_pow_pos _
  generalize 2 ^ (b * k) = P at *
  generalize 2 ^ b = Q at *
  rw [← Nat.div_div_eq_div_mul]
  congr 1
  have : N % P + P * (N / P % Q) + (M % P + P * (M / P % Q)) = P * (N / P % Q + M / P % Q) + (N % P + M % P) := by rw [Nat.mul_add]; omega
  rw [this, Nat.mul_add_div hP]
theorem car_dgt (b N M k : Nat) (hk : b * (k + 1) ≤ 256) : (dgt b N k + dgt b M k + car b N M k) % 2 ^ b = dgt b (addN N M) k := by
  unfold car dgt addN
  obtain ⟨R, hR⟩ : ∃ R, R = 2 ^ (256 - b * (k + 1)) := ⟨_, rfl⟩
  have hW : W256 = 2 ^ (b * k) * (2 ^ b * R) := by
    rw [hR, ← Nat.pow_add, ← Nat.pow_add, show b * k + (b + (256 - b * (k + 1))) = 256 from by rw [Nat.mul_add, Nat.mul_one] at hk ⊢; omega]; rfl
  rw [hW, Nat.mod_mul_right_div_self, Nat.mod_mod_of_dvd _ ⟨R, rfl⟩]
  have hP : 0 < 2 ^ (b * k) := Nat.two_pow_pos _
  generalize 2 ^ (b * k) = P at *
  generalize 2 ^ b = Q at *
  have h : N + M = P * (N / P + M / P) + (N % P + M % P) := by
    have h1 := Nat.div_add_mod N P
    have h2 := Nat.div_add_mod M P
    rw [Nat.mul_add]; omega
  rw [h, Nat.mul_add_div hP]
  rw [Nat.add_mod, ← Nat.add_mod (N / P) (M / P) Q, ← Nat.add_mod]
theorem dgt8 (N k : Nat) : dgt 8 N k = byteN N k := rfl
theorem dgt64 (N k : Nat) : dgt 64 N k = lim N k := rfl
theorem dgt_lt (b N k : Nat) : dgt b N k < 2 ^ b := Nat.mod_lt _ (Nat.two_pow_pos _)
end Go.Proofs.Ytakhaanenlblmaa
