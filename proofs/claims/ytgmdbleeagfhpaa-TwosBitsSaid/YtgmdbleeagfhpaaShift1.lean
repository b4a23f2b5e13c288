/- Shifts of words, by parts: plain laws. No program in sight. -/
import Derived.Test.YtgmdbleeagfhpaaWord19
set_option linter.unusedSimpArgs false
set_option linter.unusedVariables false
namespace Go.Proofs.Ytgmdbleeagfhpaa
open Go.RowKit
def shlN (N p : Nat) : Nat := N * 2 ^ p % W256
theorem shlN_lt (N p : Nat) : shlN N p < W256 := Nat.mod_lt _ (by unfold W256; omega)
theorem B_split (s : Nat) (hs : s ≤ 64) : (18446744073709551616 : Nat) = 2 ^ s * 2 ^ (64 - s) := by rw [← Nat.pow_add, show s + (64 - s) = 64 from by omega]
theorem lim_shl0 (N s : Nat) : lim (N * 2 ^ s) 0 = lim N 0 * 2 ^ s % 18446744073709551616 := by
  rw [lim0, lim0, Nat.mul_mod (N % 18446744073709551616), Nat.mod_mod, ← Nat.mul_mod]
theorem lim_shl1 (N s d : Nat) (hs : s < 64) : lim (N * 2 ^ s) (d + 1) = lim N (d + 1) * 2 ^ s % 18446744073709551616 + lim N d / 2 ^ (64 - s) := by
  unfold lim
  rw [show 64 * (d + 1) = 64 * d + 64 from by omega, Nat.pow_add, ← Nat.div_div_eq_div_mul, ← Nat.div_div_eq_div_mul]
  have hP : 0 < 2 ^ (64 * d) := Nat.two_pow_pos _
  have hS : 0 < 2 ^ s := Nat.two_pow_pos _
  obtain ⟨e, he, h1⟩ : ∃ e, e < 2 ^ s ∧ N * 2 ^ s / 2 ^ (64 * d) = N / 2 ^ (64 * d) * 2 ^ s + e := by
    refine ⟨N % 2 ^ (64 * d) * 2 ^ s / 2 ^ (64 * d), ?_, ?_⟩
    · rw [Nat.div_lt_iff_lt_mul hP, Nat.mul_comm (2 ^ s)]
      exact Nat.mul_lt_mul_of_pos_right (Nat.mod_lt _ hP) hS
    · have h := Nat.div_add_mod N (2 ^ (64 * d))
      conv => lhs; rw [← h]
      rw [Nat.add_mul, Nat.mul_assoc, Nat.mul_add_div hP]
  rw [h1, show (2 : Nat) ^ 64 = 18446744073709551616 from rfl]
  generalize N / 2 ^ (64 * d) = M
  have hB := B_split s (by omega)
  have hm := Nat.div_add_mod M 18446744073709551616
  generalize M / 18446744073709551616 = m at *
  generalize hl : M % 18446744073709551616 = l at *
  have hl2 : l < 18446744073709551616 := by rw [← hl]; exact Nat.mod_lt _ (by omega)
  have h2 : (M * 2 ^ s + e) / 18446744073709551616 = m * 2 ^ s + l / 2 ^ (64 - s) := by
    have : M * 2 ^ s + e = 18446744073709551616 * (m * 2 ^ s) + (l * 2 ^ s + e) := by
      rw [← hm, Nat.add_mul, Nat.mul_assoc, Nat.add_assoc]
    rw [this, Nat.mul_add_div (by omega)]
    congr 1
    rw [hB, ← Nat.div_div_eq_div_mul, Nat.mul_comm l, Nat.mul_add_div hS, Nat.div_eq_of_lt he, Nat.add_zero]
  rw [h2]
  have hq : 0 < 2 ^ (64 - s) := Nat.two_pow_pos _
  have h3 : l / 2 ^ (64 - s) < 2 ^ s := by rw [Nat.div_lt_iff_lt_mul hq, ← hB]; exact hl2
  have h4 : m * 2 ^ s % 18446744073709551616 = 2 ^ s * (m % 2 ^ (64 - s)) := by rw [hB, Nat.mul_comm m, Nat.mul_mod_mul_left]
  have h5 : m % 18446744073709551616 * 2 ^ s % 18446744073709551616 = m * 2 ^ s % 18446744073709551616 := by rw [Nat.mul_mod, Nat.mod_mod, ← Nat.mul_mod]
  rw [h5, Nat.add_mod, h4]
  have h6 : m % 2 ^ (64 - s) + 1 ≤ 2 ^ (64 - s) := Nat.mod_lt _ hq
  have h7 := Nat.mul_le_mul_left (2 ^ s) h6
  rw [← hB, Nat.mul_add, Nat.mul_one] at h7
  rw [Nat.mod_eq_of_lt (show l / 2 ^ (64 - s) < 18446744073709551616 by omega), Nat.mod_eq_of_lt (by omega)]
theorem lim_up (N k i : Nat) : lim (N * 2 ^ (64 * k)) (k + i) = lim N i := by
  unfold lim
  rw [show 64 * (k + i) = 64 * k + 64 * i from by omega, Nat.pow_add, ← Nat.div_div_eq_div_mul, Nat.mul_div_cancel _ (Nat.two_pow_pos _)]
theorem lim_up0 (N k i : Nat) (h : i < k) : lim (N * 2 ^ (64 * k)) i = 0 := by
  unfold lim
  obtain ⟨t, ht⟩ : ∃ t, 64 * k = 64 * i + 64 + t := ⟨64 * k - 64 * i - 64, by omega⟩
  have : N * 2 ^ (64 * k) = 2 ^ (64 * i) * (18446744073709551616 * (N * 2 ^ t)) := by
    rw [ht, Nat.pow_add, Nat.pow_add, show (2 : Nat) ^ 64 = 18446744073709551616 from rfl]
    simp only [Nat.mul_left_comm, Nat.mul_assoc]
  rw [this, Nat.mul_div_cancel_left _ (Nat.two_pow_pos _), Nat.mul_mod_right]
/-- part i of N moved up by 64 k + s places -/
theorem lim_shl (N k s i : Nat) (hs : s < 64) (hi : i < 4) : lim (shlN N (64 * k + s)) i =
    if i < k then 0 else if i = k then lim N 0 * 2 ^ s % 18446744073709551616 else lim N (i - k) * 2 ^ s % 18446744073709551616 + lim N (i - k - 1) / 2 ^ (64 - s) := by
  unfold shlN
  rw [lim_wrap _ _ hi, Nat.add_comm, Nat.pow_add, ← Nat.mul_assoc]
  split
  · rename_i h; exact lim_up0 _ _ _ h
  · split
    · rename_i h; subst h
      have := lim_up (N * 2 ^ s) i 0
      rw [Nat.add_zero] at this
      rw [this, lim_shl0]
    · obtain ⟨d, hd⟩ : ∃ d, i = k + (d + 1) := ⟨i - k - 1, by omega⟩
      rw [hd, lim_up, lim_shl1 N s d hs, show k + (d + 1) - k = d + 1 from by omega, show d + 1 - 1 = d from by omega]
/-- part i of N moved down -/
theorem lim_shr (N k s i : Nat) (hs : s < 64) : lim (N / 2 ^ (64 * k + s)) i = lim N (i + k) / 2 ^ s + lim N (i + k + 1) * 2 ^ (64 - s) % 18446744073709551616 := by
  unfold lim
  have h0 : N / 2 ^ (64 * k + s) / 2 ^ (64 * i) = N / 2 ^ (64 * (i + k)) / 2 ^ s := by
    rw [Nat.div_div_eq_div_mul, Nat.div_div_eq_div_mul, ← Nat.pow_add, ← Nat.pow_add]; congr 2; omega
  rw [h0, show 64 * (i + k + 1) = 64 * (i + k) + 64 from by omega, Nat.pow_add _ (64 * (i + k)), ← Nat.div_div_eq_div_mul N, show (2 : Nat) ^ 64 = 18446744073709551616 from rfl]
  generalize N / 2 ^ (64 * (i + k)) = M
  have hB := B_split s (by omega)
  have hS : 0 < 2 ^ s := Nat.two_pow_pos _
  have hq : 0 < 2 ^ (64 - s) := Nat.two_pow_pos _
  have hm := Nat.div_add_mod M 18446744073709551616
  generalize M / 18446744073709551616 = m at *
  generalize hl : M % 18446744073709551616 = l at *
  have hl2 : l < 18446744073709551616 := by rw [← hl]; exact Nat.mod_lt _ (by omega)
  have h1 : M / 2 ^ s = 2 ^ (64 - s) * m + l / 2 ^ s := by
    rw [← hm]
    conv => lhs; rw [hB]
    rw [Nat.mul_assoc, Nat.mul_add_div hS]
  have h3 : l / 2 ^ s < 2 ^ (64 - s) := by rw [Nat.div_lt_iff_lt_mul hS, Nat.mul_comm, ← hB]; exact hl2
  have h5 : m % 18446744073709551616 * 2 ^ (64 - s) % 18446744073709551616 = 2 ^ (64 - s) * m % 18446744073709551616 := by rw [Nat.mul_mod, Nat.mod_mod, ← Nat.mul_mod, Nat.mul_comm]
  rw [h1, h5, Nat.add_mod]
  have hB2 : (18446744073709551616 : Nat) = 2 ^ (64 - s) * 2 ^ s := by rw [Nat.mul_comm]; exact hB
  have h4 : 2 ^ (64 - s) * m % 18446744073709551616 = 2 ^ (64 - s) * (m % 2 ^ s) := by rw [hB2, Nat.mul_mod_mul_left]
  have h6 : m % 2 ^ s + 1 ≤ 2 ^ s := Nat.mod_lt _ hS
  have h7 := Nat.mul_le_mul_left (2 ^ (64 - s)) h6
  rw [← hB2, Nat.mul_add, Nat.mul_one] at h7
  rw [h4, Nat.mod_eq_of_lt (show l / 2 ^ s < 18446744073709551616 by omega), Nat.mod_eq_of_lt (by omega)]
  omega
theorem lim_zero_hi (N i : Nat) (hN : N < W256) (hi : 4 ≤ i) : lim N i = 0 := by
  unfold lim
  have : N < 2 ^ (64 * i) := Nat.lt_of_lt_of_le hN (Nat.pow_le_pow_right (n := 2) (by omega) (show 256 ≤ 64 * i by omega))
  rw [Nat.div_eq_of_lt this]
end Go.Proofs.Ytgmdbleeagfhpaa
