/- Masks: plain Lean. -/
import Derived.Test.YtffkjjpjfehcnaaDoorBase
set_option linter.unusedSimpArgs false
set_option linter.unusedVariables false
namespace Go.Proofs.YtffkjjpjfehcnaaDoor
open Go.RowKit
/-- the mask of those of a list that are so -/
def tal (f : Nat → Bool) : List Nat → Nat
  | [] => 0
  | x :: l => (if f x = true then 1 else 0) + 2 * tal f l
theorem tal_snoc (f : Nat → Bool) (x : Nat) : ∀ l : List Nat, tal f (l ++ [x]) = tal f l + (if f x = true then 2 ^ l.length else 0)
  | [] => by simp [tal]
  | y :: l => by
    rw [List.cons_append, tal, tal, tal_snoc f x l, List.length_cons, Nat.pow_succ]
    split <;> split <;> omega
theorem tal_lt (f : Nat → Bool) : ∀ l : List Nat, tal f l < 2 ^ l.length
  | [] => by simp [tal]
  | y :: l => by
    have := tal_lt f l
    rw [tal, List.length_cons, Nat.pow_succ]
    split <;> omega
theorem tal_bit (f : Nat → Bool) : ∀ (l : List Nat) (i : Nat), tal f l / 2 ^ i % 2 = 1 ↔ ∃ x, l[i]? = some x ∧ f x = true
  | [], i => by simp [tal]
  | y :: l, 0 => by
    rw [tal, Nat.pow_zero, Nat.div_one]
    simp only [List.getElem?_cons_zero, Option.some.injEq, exists_eq_left']
    split
    · rename_i h; simp only [h, iff_true]; omega
    · rename_i h; simp only [h, Bool.false_eq_true, iff_false]; omega
  | y :: l, i + 1 => by
    have ih := tal_bit f l i
    rw [tal, List.getElem?_cons_succ, ← ih, Nat.pow_succ, Nat.mul_comm (2 ^ i) 2, ← Nat.div_div_eq_div_mul]
    have : ((if f y = true then 1 else 0) + 2 * tal f l) / 2 = tal f l := by split <;> omega
    rw [this]
theorem or_pow (T i : Nat) (h : T < 2 ^ i) : T ||| 2 ^ i = T + 2 ^ i := by
  have := Nat.two_pow_add_eq_or_of_lt h 1
  rw [Nat.mul_one] at this
  rw [Nat.or_comm, ← this, Nat.add_comm]
/-- all that a mask names are there -/
def vtd (M : Nat) (f : Nat → Bool) (l : List Nat) : Bool := (List.range 64).all fun i => !(decide (M / 2 ^ i % 2 = 1)) || (match l[i]? with | some x => f x | none => false)
theorem vtd_iff (M : Nat) (hM : M < 18446744073709551616) (f : Nat → Bool) (l : List Nat) : (M &&& (18446744073709551615 - tal f (l.take 64)) = 0) ↔ vtd M f l = true := by
  have hT := tal_lt f (l.take 64)
  have hT64 : tal f (l.take 64) < 2 ^ 64 := Nat.lt_of_lt_of_le hT (Nat.pow_le_pow_right (by omega) (by rw [List.length_take]; omega))
  have hbit : ∀ i, i < 64 → (Nat.testBit (tal f (l.take 64)) i = true ↔ ∃ x, l[i]? = some x ∧ f x = true) := fun i hi => by
    rw [Nat.testBit_eq_decide_div_mod_eq, decide_eq_true_iff, tal_bit, List.getElem?_take_of_lt hi]
  have hM64 : ∀ i, 64 ≤ i → Nat.testBit M i = false := fun i hi => Nat.testBit_lt_two_pow (Nat.lt_of_lt_of_le hM (by
    have : (18446744073709551616 : Nat) = 2 ^ 64 := by decide
    rw [this]; exact Nat.pow_le_pow_right (by omega) hi))
  have hcomp : ∀ i, i < 64 → Nat.testBit (18446744073709551615 - tal f (l.take 64)) i = !Nat.testBit (tal f (l.take 64)) i := fun i hi => by
    have e : 18446744073709551615 - tal f (l.take 64) = 2 ^ 64 - (tal f (l.take 64) + 1) := by
      have : (2 : Nat) ^ 64 = 18446744073709551616 := by decide
      omega
    rw [e, Nat.testBit_two_pow_sub_succ hT64]
    simp [hi]
  constructor
  · intro h
    unfold vtd
    rw [List.all_eq_true]
    intro i hi
    rw [List.mem_range] at hi
    have h1 := congrArg (fun n => Nat.testBit n i) h
    simp only [Nat.testBit_and, Nat.zero_testBit, hcomp i hi] at h1
    by_cases hm : M / 2 ^ i % 2 = 1
    · have hmt : Nat.testBit M i = true := by rw [Nat.testBit_eq_decide_div_mod_eq, decide_eq_true_iff]; exact hm
      rw [hmt] at h1
      simp only [Bool.true_and, Bool.not_eq_false'] at h1
      obtain ⟨x, hx, hf⟩ := (hbit i hi).1 h1
      rw [hx]; simp [hf]
    · simp [hm]
  · intro h
    unfold vtd at h
    rw [List.all_eq_true] at h
    apply Nat.eq_of_testBit_eq
    intro i
    rw [Nat.testBit_and, Nat.zero_testBit]
    by_cases hi : i < 64
    · rw [hcomp i hi]
      have h1 := h i (List.mem_range.2 hi)
      by_cases hm : M / 2 ^ i % 2 = 1
      · simp only [hm, decide_true, Bool.not_true, Bool.false_or] at h1
        cases hx : l[i]? with
        | none => rw [hx] at h1; simp at h1
        | some x =>
          rw [hx] at h1
          rw [(hbit i hi).2 ⟨x, hx, h1⟩]; simp
      · have hmt : Nat.testBit M i = false := by rw [Nat.testBit_eq_decide_div_mod_eq, decide_eq_false_iff_not]; exact hm
        rw [hmt]; rfl
    · rw [hM64 i (by omega)]; rfl
end Go.Proofs.YtffkjjpjfehcnaaDoor
