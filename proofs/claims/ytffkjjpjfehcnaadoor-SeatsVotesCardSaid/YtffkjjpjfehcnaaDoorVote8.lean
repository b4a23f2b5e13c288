/- Those that a mask names: plain Lean. -/
import Derived.Test.YtffkjjpjfehcnaaDoorVote5
import Derived.Lib.TrailingZeros
set_option linter.unusedSimpArgs false
set_option linter.unusedVariables false
namespace Go.Proofs.YtffkjjpjfehcnaaDoor
open Go.RowKit
theorem and_pred (q : Nat) : ∀ z : Nat, (2 ^ z * (2 * q + 1)) &&& (2 ^ z * (2 * q + 1) - 1) = 2 ^ z * (2 * q)
  | 0 => by
    rw [Nat.pow_zero, Nat.one_mul, Nat.one_mul, Nat.add_sub_cancel]
    apply Nat.eq_of_testBit_eq
    intro i
    rw [Nat.testBit_and]
    cases i with
    | zero => simp [Nat.testBit_zero]
    | succ i =>
      rw [Nat.testBit_succ, Nat.testBit_succ]
      have h1 : (2 * q + 1) / 2 = q := by omega
      have h2 : 2 * q / 2 = q := by omega
      rw [h1, h2, Bool.and_self]
  | z + 1 => by
    have ih := and_pred q z
    obtain ⟨y, hy⟩ : ∃ y, y = 2 ^ z * (2 * q + 1) := ⟨_, rfl⟩
    have hy1 : 0 < y := by rw [hy]; exact Nat.mul_pos (Nat.two_pow_pos z) (by omega)
    have e1 : 2 ^ (z + 1) * (2 * q + 1) = 2 * y := by rw [hy, Nat.pow_succ, Nat.mul_comm (2 ^ z) 2, Nat.mul_assoc]
    have e2 : 2 ^ (z + 1) * (2 * q) = 2 * (2 ^ z * (2 * q)) := by rw [Nat.pow_succ, Nat.mul_comm (2 ^ z) 2, Nat.mul_assoc]
    rw [← hy] at ih
    rw [e1, e2]
    apply Nat.eq_of_testBit_eq
    intro i
    rw [Nat.testBit_and]
    cases i with
    | zero => simp [Nat.testBit_zero]
    | succ i =>
      rw [Nat.testBit_succ, Nat.testBit_succ, Nat.testBit_succ]
      have h1 : 2 * y / 2 = y := by omega
      have h2 : (2 * y - 1) / 2 = y - 1 := by omega
      have h3 : 2 * (2 ^ z * (2 * q)) / 2 = 2 ^ z * (2 * q) := by omega
      rw [h1, h2, h3, ← ih, Nat.testBit_and]
/-- the lowest bit is struck -/
theorem low_bit {m : Nat} (h0 : m ≠ 0) (h : m < 2 ^ 64) : ∃ z, z = Lib.ctz 64 m ∧ z < 64 ∧ m.testBit z = true ∧ (∀ i, i < z → m.testBit i = false) ∧ (m &&& (m - 1)) < m ∧ ∀ i, (m &&& (m - 1)).testBit i = (decide (z + 1 ≤ i) && m.testBit i) := by
  obtain ⟨q, hq, hz⟩ := Lib.ctzFrom_spec 64 m (by omega) h
  have e : Lib.ctz 64 m = Lib.ctzFrom 64 m := by simp [Lib.ctz, h0]
  obtain ⟨z, hzz⟩ : ∃ z, z = Lib.ctzFrom 64 m := ⟨_, rfl⟩
  rw [← hzz] at hq hz
  have ha := and_pred q z
  rw [← hq] at ha
  refine ⟨z, by rw [e, hzz], hz, ?_, fun i hi => ?_, ?_, fun i => ?_⟩
  · rw [hq, Nat.testBit_two_pow_mul, Nat.sub_self]; simp
  · rw [hq, Nat.testBit_two_pow_mul]; simp; omega
  · rw [ha, hq]; exact Nat.mul_lt_mul_of_pos_left (by omega) (Nat.two_pow_pos z)
  · rw [ha]
    conv => rhs; rw [hq]
    rw [Nat.testBit_two_pow_mul, Nat.testBit_two_pow_mul]
    by_cases h1 : i < z
    · simp only [show ¬ (i ≥ z) from by omega, show ¬ (z + 1 ≤ i) from by omega, decide_false, Bool.false_and]
    · by_cases h2 : i = z
      · subst h2; simp
      · obtain ⟨j, hj⟩ : ∃ j, i - z = j + 1 := ⟨i - z - 1, by omega⟩
        rw [hj, Nat.testBit_succ, Nat.testBit_succ]
        have a1 : 2 * q / 2 = q := by omega
        have a2 : (2 * q + 1) / 2 = q := by omega
        rw [a1, a2]
        simp only [show i ≥ z from by omega, show z + 1 ≤ i from by omega, decide_true, Bool.true_and]
def nm (M : Nat) : List Nat → Nat → List Nat
  | [], _ => []
  | x :: l, i => (if i < 64 ∧ M.testBit i = true then [x] else []) ++ nm M l (i + 1)
theorem nm_snoc (M x : Nat) : ∀ (l : List Nat) (i : Nat), nm M (l ++ [x]) i = nm M l i ++ (if i + l.length < 64 ∧ M.testBit (i + l.length) = true then [x] else [])
  | [], i => by simp [nm]
  | y :: l, i => by
    rw [List.cons_append, nm, nm, nm_snoc M x l (i + 1), List.length_cons, List.append_assoc, show i + 1 + l.length = i + (l.length + 1) from by omega]
theorem nm_next (M : Nat) (l : List Nat) (j : Nat) : nm M (l.take (j + 1)) 0 = nm M (l.take j) 0 ++ (match l[j]? with | some x => if j < 64 ∧ M.testBit j = true then [x] else [] | none => []) := by
  cases h : l[j]? with
  | none =>
    have hl : l.length ≤ j := List.getElem?_eq_none_iff.1 h
    rw [List.take_of_length_le (by omega), List.take_of_length_le hl]; simp
  | some x =>
    obtain ⟨hj, hx⟩ := List.getElem?_eq_some_iff.1 h
    rw [List.take_succ_eq_append_getElem hj, hx, nm_snoc, List.length_take, Nat.min_eq_left (by omega), Nat.zero_add]
theorem nm_skip (M : Nat) (l : List Nat) (k : Nat) : ∀ d : Nat, (∀ i, k ≤ i → i < k + d → M.testBit i = false) → nm M (l.take (k + d)) 0 = nm M (l.take k) 0
  | 0, _ => rfl
  | d + 1, h => by
    rw [← Nat.add_assoc, nm_next, nm_skip M l k d (fun i h1 h2 => h i h1 (by omega)), h (k + d) (by omega) (by omega)]
    cases l[k + d]? <;> simp
theorem nm_len (M : Nat) : ∀ (l : List Nat) (i : Nat), (nm M l i).length ≤ l.length
  | [], i => by simp [nm]
  | x :: l, i => by
    have := nm_len M l (i + 1)
    rw [nm, List.length_append, List.length_cons]
    split <;> simp <;> omega
end Go.Proofs.YtffkjjpjfehcnaaDoor
