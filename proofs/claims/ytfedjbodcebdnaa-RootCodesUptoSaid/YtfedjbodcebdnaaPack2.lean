/- pack.ToNum and the reference's PToNum. -/
import Derived.Test.YtfedjbodcebdnaaPack1
import Derived.Test.YtfedjbodcebdnaaWord10
set_option linter.unusedSimpArgs false
set_option linter.unusedVariables false
namespace Go.Proofs.Ytfedjbodcebdnaa
open Go.RowKit
theorem bare_head (l : List UInt8) : (bare l).head? ≠ some 0 := by
  induction l with
  | nil => simp [bare]
  | cons x l ih =>
    by_cases h : x = 0
    · rw [h, bare_zero]; exact ih
    · rw [bare_else x l h]; simpa using h
theorem bare_same (l : List UInt8) (h : l.head? ≠ some 0) : bare l = l := by
  cases l with
  | nil => rfl
  | cons x l => exact bare_else x l (by simpa using h)
theorem bare_pad (k : Nat) (l : List UInt8) : bare (List.replicate k 0 ++ l) = bare l := by
  induction k with
  | zero => rfl
  | succ k ih => rw [List.replicate_succ, List.cons_append, bare_zero, ih]
theorem numL_pad (k : Nat) (l : List UInt8) : numL (List.replicate k 0 ++ l) = numL l := by
  induction k with
  | zero => rfl
  | succ k ih => rw [List.replicate_succ, List.cons_append, numL, ih]; simp
theorem numL_inj : ∀ (l m : List UInt8), l.length = m.length → numL l = numL m → l = m
  | [], [], _, _ => rfl
  | [], _ :: _, h, _ => by simp at h
  | _ :: _, [], h, _ => by simp at h
  | x :: l, y :: m, h, e => by
    have hl : l.length = m.length := by simpa using h
    have b1 := numL_lt l
    have b2 := numL_lt m
    simp only [numL] at e
    rw [hl] at b1 e
    have ih := numL_inj l m hl
    generalize 256 ^ m.length = P at *
    rcases Nat.lt_trichotomy x.toNat y.toNat with h1 | h1 | h1
    · have : (x.toNat + 1) * P ≤ y.toNat * P := Nat.mul_le_mul_right _ h1
      rw [Nat.add_mul, Nat.one_mul] at this; omega
    · obtain rfl : x = y := UInt8.toNat_inj.1 h1
      rw [ih (by omega)]
    · have : (y.toNat + 1) * P ≤ x.toNat * P := Nat.mul_le_mul_right _ h1
      rw [Nat.add_mul, Nat.one_mul] at this; omega
theorem numL_small (l : List UInt8) (h : l.length ≤ 32) : numL l < W256 :=
  Nat.lt_of_lt_of_le (numL_lt l) (by
    have : (256 : Nat) ^ l.length ≤ 256 ^ 32 := Nat.pow_le_pow_right (by omega) h
    exact this)
theorem wb_num (l : List UInt8) (h : l.length ≤ 32) : wb (numL l) = List.replicate (32 - l.length) 0 ++ l := by
  apply numL_inj
  · rw [wb_len]; simp; omega
  · rw [numL_wb _ (numL_small l h), numL_pad]
def okNum (l : List UInt8) : Bool := decide (l.length ≤ 32) && !(l.head? == some 0)
def numE (l : List UInt8) : Int := if okNum l = true then 0 else 1
def numV (l : List UInt8) : Nat := if okNum l = true then numL l else 0
theorem num_yes {l : List UInt8} (h : okNum l = true) : numE l = 0 ∧ numV l = numL (last32 l) := by
  unfold numE numV
  rw [if_pos h, if_pos h]
  unfold okNum at h
  simp only [Bool.and_eq_true, decide_eq_true_eq] at h
  rw [last_small l h.1]; exact ⟨rfl, rfl⟩
theorem num_no {l : List UInt8} (h : okNum l = false) : numE l = 1 ∧ numV l = 0 := by
  unfold numE numV
  rw [h]; exact ⟨rfl, rfl⟩
theorem num_same (l : List UInt8) : (numB (numL (last32 l)) == l) = okNum l := by
  cases h : okNum l with
  | true =>
    unfold okNum at h
    simp only [Bool.and_eq_true, decide_eq_true_eq, Bool.not_eq_true', beq_eq_false_iff_ne] at h
    rw [last_small l h.1, numB, wb_num l h.1, bare_pad, bare_same l h.2]
    simp
  | false =>
    rw [beq_eq_false_iff_ne]
    intro e
    have h1 := bare_head (wb (numL (last32 l)))
    have h2 := bare_len (wb (numL (last32 l)))
    rw [wb_len] at h2
    unfold numB at e
    rw [e] at h1 h2
    have : okNum l = true := by
      unfold okNum
      simp only [Bool.and_eq_true, decide_eq_true_eq, Bool.not_eq_true', beq_eq_false_iff_ne]
      exact ⟨h2, h1⟩
    rw [h] at this; cases this
end Go.Proofs.Ytfedjbodcebdnaa
