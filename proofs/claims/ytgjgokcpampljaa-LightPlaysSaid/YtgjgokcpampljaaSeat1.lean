/- seats.Quorum and the reference's. -/
import Derived.Test.YtgjgokcpampljaaOnes
set_option linter.unusedSimpArgs false
set_option linter.unusedVariables false
namespace Go.Proofs.Ytgjgokcpampljaa
open Go.RowKit
theorem bit_test (M i : Nat) : M.testBit i = decide (M / 2 ^ i % 2 = 1) := Nat.testBit_eq_decide_div_mod_eq
/-- what is left of a mask beyond its first n bits -/
theorem andNot_low (M n : Nat) (hM : M < 18446744073709551616) (hn : n ≤ 63) : bits .andNot .u64 (M : Int) ((2 ^ n - 1 : Nat) : Int) = ((M / 2 ^ n * 2 ^ n : Nat) : Int) := by
  have hp : 2 ^ n ≤ 2 ^ 63 := Nat.pow_le_pow_right (by omega) hn
  have h1 : (BitVec.ofInt 64 (M : Int)).toNat = M := by
    rw [BitVec.ofInt_natCast, BitVec.toNat_ofNat]; exact Nat.mod_eq_of_lt (by omega)
  have h2 : (BitVec.ofInt 64 ((2 ^ n - 1 : Nat) : Int)).toNat = 2 ^ n - 1 := by
    rw [BitVec.ofInt_natCast, BitVec.toNat_ofNat]; exact Nat.mod_eq_of_lt (by omega)
  show IntKind.u64.wrap ((BitVec.ofInt 64 (M : Int) &&& ~~~ BitVec.ofInt 64 ((2 ^ n - 1 : Nat) : Int)).toNat : Int) = _
  have h3 : (BitVec.ofInt 64 (M : Int) &&& ~~~ BitVec.ofInt 64 ((2 ^ n - 1 : Nat) : Int)).toNat = M / 2 ^ n * 2 ^ n := by
    apply Nat.eq_of_testBit_eq
    intro i
    rw [BitVec.toNat_and, Nat.testBit_and, h1, ← Nat.shiftRight_eq_div_pow, ← Nat.shiftLeft_eq, Nat.testBit_shiftLeft, Nat.testBit_shiftRight]
    by_cases hi : i < 64
    · rw [BitVec.toNat_not, h2, Nat.sub_sub, Nat.add_comm 1, Nat.sub_add_cancel (Nat.one_le_two_pow)]
      have : (2 ^ 64 - 2 ^ n).testBit i = decide (n ≤ i) := by
        have e : 2 ^ 64 - 2 ^ n = 2 ^ 64 - ((2 ^ n - 1) + 1) := by have := Nat.one_le_two_pow (n := n); omega
        rw [e, Nat.testBit_two_pow_sub_succ (by omega), Nat.testBit_two_pow_sub_one]
        simp only [hi, decide_true, Bool.true_and]
        by_cases hni : n ≤ i
        · simp [hni, Nat.not_lt.2 hni]
        · simp [hni, Nat.lt_of_not_le hni]
      rw [this]
      by_cases hni : n ≤ i
      · simp [hni]
      · simp [hni]
    · have hMi : M.testBit i = false := Nat.testBit_lt_two_pow (by have : 2 ^ 64 ≤ 2 ^ i := Nat.pow_le_pow_right (by omega) (by omega); omega)
      rw [hMi]
      by_cases hni : n ≤ i
      · rw [Nat.add_sub_cancel' hni, hMi]; simp
      · simp [hni]
  rw [h3, IntKind.wrap_u64]
  have := Nat.div_mul_le_self M (2 ^ n)
  omega
theorem mul_zero_lt (M n : Nat) : M / 2 ^ n * 2 ^ n = 0 ↔ M < 2 ^ n := by
  have hp : 0 < 2 ^ n := Nat.two_pow_pos n
  constructor
  · intro h
    rcases Nat.mul_eq_zero.1 h with h | h
    · exact (Nat.div_eq_zero_iff_lt hp).1 h
    · omega
  · intro h; rw [Nat.div_eq_of_lt h, Nat.zero_mul]
set_option maxHeartbeats 400000 in
set_option maxRecDepth 100000 in
theorem low_any (n : Nat) (hn : n ≤ 16) (w : World) : Calls Try.prog 155 #[.int .i64 (n : Int)] w fun e w' => e = .returned (.int .u64 ((2 ^ n - 1 : Nat) : Int)) ∧ w = w' := by
  have d1 : decide ((64 : Int) ≤ (n : Int)) = false := by rw [decide_eq_false_iff_not]; omega
  have d2 : ¬ (64 : Int) ≤ (n : Int) := by omega
  have hp : 2 ^ n ≤ 2 ^ 16 := Nat.pow_le_pow_right (by omega) hn
  have h1 := Nat.one_le_two_pow (n := n)
  go_enter Try.func155, Try.ntmps155
  go_wp2
  go_ret
  refine ⟨ret_int ?_, rfl⟩
  have e1 : (2 : Int) ^ n = ((2 ^ n : Nat) : Int) := by simp
  rw [e1]
  generalize 2 ^ n = P at *
  rw [IntWalk.u64_in (P : Int) (by omega), IntWalk.u64_in _ (by omega)]
  omega
/-- what both answer -/
def quoB (M n : Nat) : Bool := decide (M < 2 ^ n) && decide (2 * n ≤ 3 * pop 16 M)
set_option maxHeartbeats 400000 in
set_option maxRecDepth 100000 in
theorem quorum_any (M n : Nat) (hM : M < 18446744073709551616) (hn1 : 1 ≤ n) (hn : n ≤ 16) (w : World) : Calls Try.prog 75 #[.int .u64 (M : Int), .int .i64 (n : Int)] w fun e w' => e = .returned (.bool (quoB M n)) ∧ w = w' := by
  have g1 : (0 : Int) < (n : Int) := by omega
  have g2 : (n : Int) ≤ 16 := by omega
  have g1d : decide ((0 : Int) < (n : Int)) = true := by rw [decide_eq_true_eq]; omega
  have g1n : decide (0 < n) = true := by rw [decide_eq_true_eq]; omega
  have g2d : decide ((n : Int) ≤ 16) = true := by rw [decide_eq_true_eq]; omega
  have hlow := low_any n hn
  have han := andNot_low M n hM (by omega)
  have hmz := mul_zero_lt M n
  obtain ⟨Q, hQ⟩ : ∃ Q, Q = M / 2 ^ n * 2 ^ n := ⟨_, rfl⟩
  obtain ⟨lo, hlo⟩ : ∃ lo, lo = 2 ^ n - 1 := ⟨_, rfl⟩
  rw [← hQ] at hmz
  rw [← hQ, ← hlo] at han
  rw [← hlo] at hlow
  have hp16 : 2 ^ n ≤ 2 ^ 16 := Nat.pow_le_pow_right (by omega) hn
  have Hlow := Lib.hid hlow
  by_cases hlt : M < 2 ^ n
  · have hq0 : Q = 0 := hmz.2 hlt
    have q1 : ((Q : Int) == 0) = true := by rw [hq0]; rfl
    have hones := ones_any M (by omega)
    have hpl := pop_le 16 M
    have hB : quoB M n = decide (2 * n ≤ 3 * pop 16 M) := by unfold quoB; simp [hlt]
    rw [hB]
    obtain ⟨p, hpp⟩ : ∃ p, p = pop 16 M := ⟨_, rfl⟩
    rw [← hpp] at hones hpl
    rw [← hpp]
    have w1 : IntKind.i64.wrap (3 * (p : Int)) = 3 * (p : Int) := IntWalk.i64_in _ (by omega)
    have w2 : IntKind.i64.wrap (2 * (n : Int)) = 2 * (n : Int) := IntWalk.i64_in _ (by omega)
    have hd : decide (2 * (n : Int) ≤ 3 * (p : Int)) = decide (2 * n ≤ 3 * p) := by
      by_cases h : 2 * n ≤ 3 * p
      · rw [decide_eq_true h, decide_eq_true (by omega)]
      · rw [decide_eq_false h, decide_eq_false (by omega)]
    obtain ⟨d, hdd⟩ : ∃ d, d = decide (2 * n ≤ 3 * p) := ⟨_, rfl⟩
    rw [← hdd] at hd
    rw [← hdd]
    have Hones := Lib.hid hones
    clear hones hlow hB hpp hlt hmz hQ hlo hq0 hdd hp16 hM
    go_enter Try.func75, Try.ntmps75
    go_wp2_with (first
      | (go_at_call 155; (with_reducible refine (Hlow.out _).mono ?_); rintro e w1 ⟨rfl, rfl⟩)
      | (go_at_call 156; (with_reducible refine (Hones.out _).mono ?_); rintro e w2 ⟨rfl, rfl⟩))
    go_ret
    exact ⟨rfl, rfl⟩
  · have q1 : ((Q : Int) == 0) = false := by rw [beq_eq_false_iff_ne]; intro e; exact hlt (hmz.1 (by omega))
    have hB : quoB M n = false := by unfold quoB; simp [hlt]
    rw [hB]
    clear hlow hB hlt hmz hQ hlo hp16 hM
    go_enter Try.func75, Try.ntmps75
    go_wp2_with (go_at_call 155; (with_reducible refine (Hlow.out _).mono ?_); rintro e w1 ⟨rfl, rfl⟩)
    go_ret
    exact ⟨rfl, rfl⟩
set_option maxHeartbeats 400000 in
set_option maxRecDepth 100000 in
theorem quorum_bad (x n : Int) (hn : n < 1 ∨ 16 < n) (w : World) : Calls Try.prog 75 #[.int .u64 x, .int .i64 n] w fun e w' => e = .returned (.bool false) ∧ w = w' := by
  rcases (by omega : ¬ 0 < n ∨ (0 < n ∧ ¬ n ≤ 16)) with g1 | ⟨g1, g2⟩
  · have g1d : decide (0 < n) = false := decide_eq_false g1
    go_enter Try.func75, Try.ntmps75
    go_wp2
    go_ret
    exact ⟨rfl, rfl⟩
  · have g1d : decide (0 < n) = true := decide_eq_true g1
    have g2d : decide (n ≤ 16) = false := decide_eq_false g2
    go_enter Try.func75, Try.ntmps75
    go_wp2
    go_ret
    exact ⟨rfl, rfl⟩
set_option maxHeartbeats 400000 in
set_option maxRecDepth 100000 in
theorem vnames_any (M i : Nat) (hM : M < 18446744073709551616) (hi : i ≤ 64) (w : World) : Calls Try.prog 160 #[.int .u64 (M : Int), .int .i64 (i : Int)] w fun e w' => e = .returned (.bool (decide (M / 2 ^ i % 2 = 1))) ∧ w = w' := by
  go_enter Try.func160, Try.ntmps160
  go_wp2
  go_loop [0, 6] (fun m ix => ∃ k : Nat, k ≤ i ∧ ix = .int .i64 (k : Int) ∧ m = .int .u64 ((M / 2 ^ k : Nat) : Int)) (fun _ ix => i - (intOf ix).toNat)
  case atStart => exact ⟨0, by omega, rfl, by simp⟩
  case round =>
    obtain ⟨k, hk, rfl, rfl⟩ := hrel
    have hdl : M / 2 ^ k ≤ M := Nat.div_le_self _ _
    by_cases hlt : k < i
    · have hki : (k : Int) < (i : Int) := by omega
      have hn : M / 2 ^ (k + 1) = M / 2 ^ k / 2 := by rw [Nat.pow_succ, Nat.div_div_eq_div_mul]
      have Hn := Lib.hid hn
      clear hn
      generalize M / 2 ^ k = m at *
      go_wp2
      go_round
      case rel => exact ⟨k + 1, by omega, by go_num, by rw [Hn.out]; congr 1⟩
      case measure => simp [intOf]; omega
    · obtain rfl : k = i := by omega
      have hd : (((M / 2 ^ k : Nat) : Int) % 2 == 1) = decide (M / 2 ^ k % 2 = 1) := by
        generalize M / 2 ^ k = m
        by_cases h : m % 2 = 1
        · rw [decide_eq_true h, beq_iff_eq]; omega
        · rw [decide_eq_false h, beq_eq_false_iff_ne]; omega
      obtain ⟨d, hdd⟩ : ∃ d, d = decide (M / 2 ^ k % 2 = 1) := ⟨_, rfl⟩
      rw [← hdd] at hd
      have Hdd := Lib.hid hdd
      obtain ⟨m, hm⟩ : ∃ m, m = M / 2 ^ k := ⟨_, rfl⟩
      rw [← hm] at hd
      rw [← hm]
      clear hdd hm hdl
      go_wp2
      go_ret
      exact ⟨ret_bool Hdd.out, rfl⟩
theorem pop_64 (M : Nat) (h : M < 65536) : ∀ k, pop (16 + k) M = pop 16 M
  | 0 => rfl
  | k + 1 => by
    rw [← Nat.add_assoc, pop, pop_64 M h k]
    have hp : 2 ^ 16 ≤ 2 ^ (16 + k) := Nat.pow_le_pow_right (by omega) (by omega)
    rw [Nat.div_eq_of_lt (by omega)]; simp
theorem bits_lt (M n : Nat) (hM : M < 18446744073709551616) (h : ∀ j, n ≤ j → j < 64 → ¬ M / 2 ^ j % 2 = 1) : M < 2 ^ n := by
  refine Nat.lt_pow_two_of_testBit M (fun i hi => ?_)
  rw [bit_test]
  by_cases h64 : i < 64
  · exact decide_eq_false (h i hi h64)
  · have : 2 ^ 64 ≤ 2 ^ i := Nat.pow_le_pow_right (by omega) (by omega)
    rw [Nat.div_eq_of_lt (by omega)]; rfl
set_option maxHeartbeats 1000000 in
set_option maxRecDepth 100000 in
theorem vquorum_any (M n : Nat) (hM : M < 18446744073709551616) (hn1 : 1 ≤ n) (hn : n ≤ 16) (w : World) : Calls Try.prog 80 #[.int .u64 (M : Int), .int .i64 (n : Int)] w fun e w' => e = .returned (.bool (quoB M n)) ∧ w = w' := by
  have g1 : ¬ (n : Int) < 1 := by omega
  have g2 : ¬ (16 : Int) < (n : Int) := by omega
  have g1d : decide ((n : Int) < 1) = false := decide_eq_false g1
  have g2d : decide ((16 : Int) < (n : Int)) = false := decide_eq_false g2
  have hB0 : ¬ M < 2 ^ n → quoB M n = false := fun h => by unfold quoB; simp [h]
  have hB1 : M < 2 ^ n → quoB M n = decide (2 * n ≤ 3 * pop 64 M) := fun h => by
    have hp16 : 2 ^ n ≤ 2 ^ 16 := Nat.pow_le_pow_right (by omega) hn
    unfold quoB
    rw [show (64 : Nat) = 16 + 48 from rfl, pop_64 M (by omega) 48]; simp [h]
  obtain ⟨R, hR⟩ : ∃ R, R = quoB M n := ⟨_, rfl⟩
  rw [← hR] at hB0 hB1
  rw [← hR]
  have HB0 := Lib.hid hB0
  have HB1 := Lib.hid hB1
  clear hB0 hB1 hR
  go_enter Try.func80, Try.ntmps80
  go_wp2
  go_loop [5, 13] (fun m ix => ∃ k : Nat, k ≤ 64 ∧ ix = .int .i64 (k : Int) ∧ m = .int .i64 (pop k M : Int) ∧ Hid (∀ j, j < k → n ≤ j → ¬ M / 2 ^ j % 2 = 1)) (fun _ ix => 64 - (intOf ix).toNat)
  case atStart => exact ⟨0, by omega, rfl, rfl, Lib.hid (fun j hj => by omega)⟩
  case round =>
    obtain ⟨k, hk, rfl, rfl, Hall⟩ := hrel
    have hpl := pop_le k M
    by_cases hlt : k < 64
    · have hki : (k : Int) < 64 := by omega
      have hv := vnames_any M k hM (by omega)
      have hpn : pop (k + 1) M = pop k M + M / 2 ^ k % 2 := rfl
      by_cases hb : M / 2 ^ k % 2 = 1
      · rw [decide_eq_true hb] at hv
        rw [hb] at hpn
        have Hv := Lib.hid hv
        have Hpn := Lib.hid hpn
        by_cases hnk : n ≤ k
        · have hnki : (n : Int) ≤ (k : Int) := by omega
          have hnkd : decide ((n : Int) ≤ (k : Int)) = true := decide_eq_true hnki
          have hnkn : decide (n ≤ k) = true := decide_eq_true hnk
          have hge : ¬ M < 2 ^ n := fun h => by
            have h2 : 2 ^ n ≤ 2 ^ k := Nat.pow_le_pow_right (by omega) hnk
            rw [Nat.div_eq_of_lt (by omega)] at hb; simp at hb
          have hRf := HB0.out hge
          subst hRf
          clear hv hpn hb hge
          generalize pop k M = p at *
          go_wp2_with (go_at_call 160; (with_reducible refine (Hv.out _).mono ?_); rintro e w1 ⟨rfl, rfl⟩)
          go_ret
          exact ⟨rfl, rfl⟩
        · have hnki : ¬ (n : Int) ≤ (k : Int) := by omega
          have hnkd : decide ((n : Int) ≤ (k : Int)) = false := decide_eq_false hnki
          have hnkn : decide (n ≤ k) = false := decide_eq_false hnk
          have hall2 : ∀ j, j < k + 1 → n ≤ j → ¬ M / 2 ^ j % 2 = 1 := fun j hj hnj => by
            rcases Nat.lt_or_ge j k with h | h
            · exact Hall.out j h hnj
            · omega
          have Hall2 := Lib.hid hall2
          clear hv hpn hb hall2
          generalize pop k M = p at *
          go_wp2_with (go_at_call 160; (with_reducible refine (Hv.out _).mono ?_); rintro e w1 ⟨rfl, rfl⟩)
          go_round
          case rel => exact ⟨k + 1, by omega, by go_num, by rw [Hpn.out]; go_num, Hall2⟩
          case measure => simp [intOf]; omega
      · rw [decide_eq_false hb] at hv
        have hpn2 : pop (k + 1) M = pop k M := by omega
        have hall2 : ∀ j, j < k + 1 → n ≤ j → ¬ M / 2 ^ j % 2 = 1 := fun j hj hnj => by
          rcases Nat.lt_or_ge j k with h | h
          · exact Hall.out j h hnj
          · obtain rfl : j = k := by omega
            exact hb
        have Hall2 := Lib.hid hall2
        have Hv := Lib.hid hv
        have Hpn := Lib.hid hpn2
        clear hv hpn hpn2 hb hall2
        generalize pop k M = p at *
        go_wp2_with (go_at_call 160; (with_reducible refine (Hv.out _).mono ?_); rintro e w1 ⟨rfl, rfl⟩)
        go_round
        case rel => exact ⟨k + 1, by omega, by go_num, by rw [Hpn.out], Hall2⟩
        case measure => simp [intOf]; omega
    · obtain rfl : k = 64 := by omega
      have hMn := bits_lt M n hM (fun j h1 h2 => Hall.out j h2 h1)
      have hRt := HB1.out hMn
      clear hMn
      generalize pop 64 M = p at *
      have w1 : IntKind.i64.wrap ((p : Int) * 3) = (p : Int) * 3 := IntWalk.i64_in _ (by omega)
      have w2 : IntKind.i64.wrap ((n : Int) * 2) = (n : Int) * 2 := IntWalk.i64_in _ (by omega)
      have hd : decide ((n : Int) * 2 ≤ (p : Int) * 3) = R := by
        rw [hRt]
        by_cases h : 2 * n ≤ 3 * p
        · rw [decide_eq_true h, decide_eq_true (by omega)]
        · rw [decide_eq_false h, decide_eq_false (by omega)]
      clear hRt
      go_wp2
      go_ret
      exact ⟨rfl, rfl⟩
set_option maxHeartbeats 400000 in
set_option maxRecDepth 100000 in
theorem vquorum_bad (x n : Int) (hn : n < 1 ∨ 16 < n) (w : World) : Calls Try.prog 80 #[.int .u64 x, .int .i64 n] w fun e w' => e = .returned (.bool false) ∧ w = w' := by
  rcases (by omega : n < 1 ∨ (¬ n < 1 ∧ 16 < n)) with g1 | ⟨g1, g2⟩
  · have g1d : decide (n < 1) = true := decide_eq_true g1
    go_enter Try.func80, Try.ntmps80
    go_wp2
    go_ret
    exact ⟨rfl, rfl⟩
  · have g1d : decide (n < 1) = false := decide_eq_false g1
    have g2d : decide (16 < n) = true := decide_eq_true g2
    go_enter Try.func80, Try.ntmps80
    go_wp2
    go_ret
    exact ⟨rfl, rfl⟩
end Go.Proofs.Ytgjgokcpampljaa
