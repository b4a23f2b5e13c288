/- Shifts as lists of bits: plain laws. No program in sight. -/
import Derived.Test.YtgmdbleeagfhpaaBits2
import Derived.Test.YtgmdbleeagfhpaaEach3
set_option linter.unusedSimpArgs false
set_option linter.unusedVariables false
namespace Go.Proofs.Ytgmdbleeagfhpaa
open Go.RowKit
theorem ofT_bit (l : List Bool) (i : Nat) : (ofT l).testBit i = (decide (i < 256) && l.getD i false) := by
  unfold ofT
  rw [ofL_bit, List.getD_eq_getElem?_getD, List.getElem?_take, List.getD_eq_getElem?_getD]
  by_cases h : i < 256 <;> simp [h]
theorem bitsL_getD (N i : Nat) (hN : N < W256) : (bitsL N).getD i false = N.testBit i := by
  rw [List.getD_eq_getElem?_getD]
  rcases Nat.lt_or_ge i 256 with h | h
  · rw [bitsL_at N i h]; rfl
  · rw [List.getElem?_eq_none (by rw [bitsL_len]; exact h), bit_high hN i h]; rfl
theorem ofT_bitsL (N : Nat) (hN : N < W256) : ofT (bitsL N) = N := by
  unfold ofT
  rw [List.take_of_length_le (by rw [bitsL_len]; omega)]
  exact ofL_bitsL N hN
theorem W256_pow : W256 = 2 ^ 256 := rfl
/-- a moved up by the n places of bits -/
theorem ofT_up (A p : Nat) (hA : A < W256) : ofT (List.replicate p false ++ bitsL A) = shlN A p := by
  apply Nat.eq_of_testBit_eq
  intro i
  rw [ofT_bit]
  unfold shlN
  rw [W256_pow, Nat.testBit_mod_two_pow, Nat.mul_comm, Nat.testBit_two_pow_mul]
  congr 1
  rw [List.getD_eq_getElem?_getD]
  rcases Nat.lt_or_ge i p with h | h
  · rw [List.getElem?_append_left (by simpa using h), List.getElem?_replicate, if_pos h]
    simp; omega
  · rw [List.getElem?_append_right (by simpa using h), List.length_replicate, ← List.getD_eq_getElem?_getD, bitsL_getD A _ hA]
    simp [h]
theorem ofT_down (A p : Nat) (hA : A < W256) : ofT ((bitsL A).drop p) = A / 2 ^ p := by
  apply Nat.eq_of_testBit_eq
  intro i
  rw [ofT_bit, Nat.testBit_div_two_pow, List.getD_eq_getElem?_getD, List.getElem?_drop, ← List.getD_eq_getElem?_getD, bitsL_getD A _ hA, Nat.add_comm p i]
  by_cases h : i < 256
  · simp [h]
  · rw [bit_high hA (i + p) (by omega)]; simp
/-- all bits are the sign's -/
def onesN : Nat := W256 - 1
theorem ones_bit (i : Nat) : onesN.testBit i = decide (i < 256) := by
  have := Nat.testBit_two_pow_sub_one 256 i
  exact this
def sarN (A p : Nat) : Nat := if A.testBit 255 then (if 256 ≤ p then onesN else orN (A / 2 ^ p) (shlN onesN (256 - p))) else A / 2 ^ p
theorem sarN_bit (A p i : Nat) (hA : A < W256) : (sarN A p).testBit i = (decide (i < 256) && (if i + p < 256 then A.testBit (i + p) else A.testBit 255)) := by
  unfold sarN
  cases h : A.testBit 255 with
  | false =>
    rw [if_neg (by simp), Nat.testBit_div_two_pow]
    by_cases hi : i + p < 256
    · rw [if_pos hi]; simp; omega
    · rw [if_neg hi, bit_high hA _ (by omega)]; simp
  | true =>
    rw [if_pos rfl]
    by_cases hp : 256 ≤ p
    · rw [if_pos hp, ones_bit, if_neg (by omega)]; simp
    · rw [if_neg hp]
      unfold orN shlN
      rw [Nat.testBit_or, Nat.testBit_div_two_pow, W256_pow, Nat.testBit_mod_two_pow, Nat.mul_comm, Nat.testBit_two_pow_mul, ones_bit]
      by_cases hi : i + p < 256
      · rw [if_pos hi]
        have h1 : ¬ (256 - p ≤ i) := by omega
        have h2 : i < 256 := by omega
        simp [h1, h2]
      · rw [if_neg hi, bit_high hA _ (by omega)]
        by_cases h2 : i < 256
        · have h1 : 256 - p ≤ i := by omega
          have h3 : i - (256 - p) < 256 := by omega
          simp [h1, h2, h3]
        · simp [h2]
theorem sarN_lt (A p : Nat) (hA : A < W256) : sarN A p < W256 := lt_of_bits (fun i hi => by rw [sarN_bit A p i hA]; simp; omega)
/-- the bits behind p places, then the sign's -/
theorem ofT_sar (A p m : Nat) (hA : A < W256) (hp : p ≤ 256) (hm : m = p) : ofT ((bitsL A).drop p ++ List.replicate m (A.testBit 255)) = sarN A p := by
  subst hm
  apply Nat.eq_of_testBit_eq
  intro i
  rw [ofT_bit, sarN_bit A m i hA]
  by_cases hi : i < 256
  · simp only [hi, decide_true, Bool.true_and]
    rw [List.getD_eq_getElem?_getD]
    by_cases h2 : i + m < 256
    · rw [if_pos h2, List.getElem?_append_left (by simp [bitsL_len]; omega), List.getElem?_drop, ← List.getD_eq_getElem?_getD, bitsL_getD A _ hA, Nat.add_comm]
    · rw [if_neg h2, List.getElem?_append_right (by simp [bitsL_len]; omega), List.getElem?_replicate, if_pos (by simp [bitsL_len]; omega)]
      rfl
  · simp [hi]
end Go.Proofs.Ytgmdbleeagfhpaa
