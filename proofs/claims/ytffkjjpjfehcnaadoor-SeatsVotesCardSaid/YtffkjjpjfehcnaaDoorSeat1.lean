/- seats.Quorum and the reference's. -/
import Derived.Test.YtffkjjpjfehcnaaDoorOnes
set_option linter.unusedSimpArgs false
set_option linter.unusedVariables false
namespace Go.Proofs.YtffkjjpjfehcnaaDoor
open Go.RowKit
theorem bit_test (M i : Nat) : M.testBit i = decide (M / 2 ^ i % 2 = 1) := Nat.testBit_eq_decide_div_mod_eq
/-- what is left of a mask beyond its first n bits -/
theorem andNot_low (M n : Nat) (hM : M < 18446744073709551616) (hn : n ≤ 63) : bits .andNot .u64 (M : Int) ((2 ^ n - 1 : Nat) : Int) = ((M / 2 ^ n * 2 ^ n : Nat) : Int) := by
  have hp : 2 ^ n ≤ 2 ^ 63 := Nat.pow_le_pow_right (by omega) hn
  have h1 : (BitVec.ofInt 64 (M : Int)).toNat = M := by
    rw [BitVec.ofInt_natCast, BitVec.toNat_ofNat]; exact Nat.mod_eq_of_lt (by omega)
  have h2 : (BitVec.ofInt 64 ((2 ^ n - 1 : Nat) : Int)).toNat = 2 ^ n - 1 := by
    rw [BitVec.ofInt_natCast, BitVec.toNat_ofNat]; exact Nat.mod_eq_of_lt (by omega)
  show IntKind.u64.wrap ((BitVec.ofInt 64 (M : Int) &&& ~~~ BitVec.ofInt 64 ((2 ^ n - 1 : Nat) : Int)).toNat : Int) = _
  have h3 : (BitVec.ofInt 64 (M : Int) &&& ~~~ BitVec.ofInt 64 ((2 ^ n - 1 : Nat) : Int)).toNat = M / 2 ^ n * 2 ^ n := by
    apply Nat.eq_of_testBit_eq
    intro i
    rw [BitVec.toNat_and, Nat.testBit_and, h1, ← Nat.shiftRight_eq_div_pow, ← Nat.shiftLeft_eq, Nat.testBit_shiftLeft, Nat.testBit_shiftRight]
    by_cases hi : i < 64
    · rw [BitVec.toNat_not, h2, Nat.sub_sub, Nat.add_comm 1, Nat.sub_add_cancel (Nat.one_le_two_pow)]
      have : (2 ^ 64 - 2 ^ n).testBit i = decide (n ≤ i) := by
        have e : 2 ^ 64 - 2 ^ n = 2 ^ 64 - ((2 ^ n - 1) + 1) := by have := Nat.one_le_two_pow (n := n); omega
        rw [e, Nat.testBit_two_pow_sub_succ (by omega), Nat.testBit_two_pow_sub_one]
        simp only [hi, decide_true, Bool.true_and]
        by_cases hni : n ≤ i
        · simp [hni, Nat.not_lt.2 hni]
        · simp [hni, Nat.lt_of_not_le hni]
      rw [this]
      by_cases hni : n ≤ i
      · simp [hni]
      · simp [hni]
    · have hMi : M.testBit i = false := Nat.testBit_lt_two_pow (by have : 2 ^ 64 ≤ 2 ^ i := Nat.pow_le_pow_right (by omega) (by omega); omega)
      rw [hMi]
      by_cases hni : n ≤ i
      · rw [Nat.add_sub_cancel' hni, hMi]; simp
      · simp [hni]
  rw [h3, IntKind.wrap_u64]
  have := Nat.div_mul_le_self M (2 ^ n)
  omega
theorem mul_zero_lt (M n : Nat) : M / 2 ^ n * 2 ^ n = 0 ↔ M < 2 ^ n := by
  have hp : 0 < 2 ^ n := Nat.two_pow_pos n
  constructor
  · intro h
    rcases Nat.mul_eq_zero.1 h with h | h
    · exact (Nat.div_eq_zero_iff_lt hp).1 h
    · omega
  · intro h; rw [Nat.div_eq_of_lt h, Nat.zero_mul]
/-- what both answer -/
def quoB (M n : Nat) : Bool := decide (M < 2 ^ n) && decide (2 * n ≤ 3 * pop 16 M)
set_option maxHeartbeats 400000 in
set_option maxRecDepth 100000 in
theorem vnames_any (M i : Nat) (hM : M < 18446744073709551616) (hi : i ≤ 64) (w : World) : Calls Tryd.prog 13 #[.int .u64 (M : Int), .int .i64 (i : Int)] w fun e w' => e = .returned (.bool (decide (M / 2 ^ i % 2 = 1))) ∧ w = w' := by
  go_enter Tryd.func13, Tryd.ntmps13
  go_wp2
  go_loop [0, 6] (fun m ix => ∃ k : Nat, k ≤ i ∧ ix = .int .i64 (k : Int) ∧ m = .int .u64 ((M / 2 ^ k : Nat) : Int)) (fun _ ix => i - (intOf ix).toNat)
  case atStart => exact ⟨0, by omega, rfl, by simp⟩
  case round =>
    obtain ⟨k, hk, rfl, rfl⟩ := hrel
    have hdl : M / 2 ^ k ≤ M := Nat.div_le_self _ _
    by_cases hlt : k < i
    · have hki : (k : Int) < (i : Int) := by omega
      have hn : M / 2 ^ (k + 1) = M / 2 ^ k / 2 := by rw [Nat.pow_succ, Nat.div_div_eq_div_mul]
      have Hn := Lib.hid hn
      clear hn
      generalize M / 2 ^ k = m at *
      go_wp2
      go_round
      case rel => exact ⟨k + 1, by omega, by go_num, by rw [Hn.out]; congr 1⟩
      case measure => simp [intOf]; omega
    · obtain rfl : k = i := by omega
      have hd : (((M / 2 ^ k : Nat) : Int) % 2 == 1) = decide (M / 2 ^ k % 2 = 1) := by
        generalize M / 2 ^ k = m
        by_cases h : m % 2 = 1
        · rw [decide_eq_true h, beq_iff_eq]; omega
        · rw [decide_eq_false h, beq_eq_false_iff_ne]; omega
      obtain ⟨d, hdd⟩ : ∃ d, d = decide (M / 2 ^ k % 2 = 1) := ⟨_, rfl⟩
      rw [← hdd] at hd
      have Hdd := Lib.hid hdd
      obtain ⟨m, hm⟩ : ∃ m, m = M / 2 ^ k := ⟨_, rfl⟩
      rw [← hm] at hd
      rw [← hm]
      clear hdd hm hdl
      go_wp2
      go_ret
      exact ⟨ret_bool Hdd.out, rfl⟩
theorem pop_64 (M : Nat) (h : M < 65536) : ∀ k, pop (16 + k) M = pop 16 M
  | 0 => rfl
  | k + 1 => by
    rw [← Nat.add_assoc, pop, pop_64 M h k]
    have hp : 2 ^ 16 ≤ 2 ^ (16 + k) := Nat.pow_le_pow_right (by omega) (by omega)
    rw [Nat.div_eq_of_lt (by omega)]; simp
theorem bits_lt (M n : Nat) (hM : M < 18446744073709551616) (h : ∀ j, n ≤ j → j < 64 → ¬ M / 2 ^ j % 2 = 1) : M < 2 ^ n := by
  refine Nat.lt_pow_two_of_testBit M (fun i hi => ?_)
  rw [bit_test]
  by_cases h64 : i < 64
  · exact decide_eq_false (h i hi h64)
  · have : 2 ^ 64 ≤ 2 ^ i := Nat.pow_le_pow_right (by omega) (by omega)
    rw [Nat.div_eq_of_lt (by omega)]; rfl
end Go.Proofs.YtffkjjpjfehcnaaDoor
