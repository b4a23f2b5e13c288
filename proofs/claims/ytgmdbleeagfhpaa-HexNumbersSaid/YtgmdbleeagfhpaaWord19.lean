/- Long division bit by bit: plain laws. No program in sight. -/
import Derived.Test.YtgmdbleeagfhpaaWord17
set_option linter.unusedSimpArgs false
set_option linter.unusedVariables false
namespace Go.Proofs.Ytgmdbleeagfhpaa
open Go.RowKit
def dr (V m i : Nat) : Nat := V / 2 ^ i % m
def dq (V m i : Nat) : Nat := V / 2 ^ i / m * 2 ^ i % W256
/-- the next rest before it is lessened -/
def dt (V m i : Nat) : Nat := 2 * dr V m (i + 1) + (if V.testBit i then 1 else 0)
theorem dr_lt (V m i : Nat) (hm : 0 < m) : dr V m i < m := Nat.mod_lt _ hm
theorem dt_lt (V m i : Nat) (hm : 0 < m) : dt V m i < 2 * m := by
  have := dr_lt V m (i + 1) hm
  unfold dt; split <;> omega
theorem div_parts (V m i : Nat) : V / 2 ^ i = m * (2 * (V / 2 ^ (i + 1) / m)) + dt V m i := by
  have h1 := half_bit V i
  have h2 := Nat.div_add_mod (V / 2 ^ (i + 1)) m
  unfold dt dr
  rw [h1]
  generalize V / 2 ^ (i + 1) = A at *
  have : m * (2 * (A / m)) = 2 * (m * (A / m)) := by rw [Nat.mul_left_comm]
  rw [this]; omega
theorem dr_step (V m i : Nat) (hm : 0 < m) : dr V m i = if dt V m i < m then dt V m i else dt V m i - m := by
  have h1 := div_parts V m i
  have h2 := dt_lt V m i hm
  conv => lhs; unfold dr
  rw [h1, Nat.mul_add_mod]
  split
  · rename_i h; exact Nat.mod_eq_of_lt h
  · rename_i h
    rw [Nat.mod_eq_sub_mod (by omega), Nat.mod_eq_of_lt (by omega)]
theorem div_step (V m i : Nat) (hm : 0 < m) : V / 2 ^ i / m = 2 * (V / 2 ^ (i + 1) / m) + (if dt V m i < m then 0 else 1) := by
  have h1 := div_parts V m i
  have h2 := dt_lt V m i hm
  conv => lhs; rw [h1]
  rw [Nat.mul_add_div hm]
  congr 1
  split
  · rename_i h; exact Nat.div_eq_of_lt h
  · rename_i h
    have : dt V m i / m < 2 := by rw [Nat.div_lt_iff_lt_mul hm]; omega
    have h3 : 1 ≤ dt V m i / m := by rw [Nat.le_div_iff_mul_le hm]; omega
    omega
theorem dq_step (V m i : Nat) (hm : 0 < m) : dq V m i = if dt V m i < m then dq V m (i + 1) else if i < 256 then dq V m (i + 1) + 2 ^ i else dq V m (i + 1) := by
  unfold dq
  rw [div_step V m i hm]
  generalize V / 2 ^ (i + 1) / m = A
  have e : 2 * A * 2 ^ i = A * 2 ^ (i + 1) := by rw [Nat.pow_succ, Nat.mul_comm (2 ^ i), ← Nat.mul_assoc, Nat.mul_comm 2 A]
  split
  · rw [Nat.add_zero, e]
  · rw [Nat.add_mul, Nat.one_mul, e]
    split
    · rename_i hi
      obtain ⟨s, hs⟩ : ∃ s, 256 = i + 1 + s := ⟨255 - i, by omega⟩
      have hW : W256 = 2 ^ (i + 1) * 2 ^ s := by rw [← Nat.pow_add, ← hs]; rfl
      have h1 : A * 2 ^ (i + 1) % W256 = 2 ^ (i + 1) * (A % 2 ^ s) := by rw [hW, Nat.mul_comm A, Nat.mul_mod_mul_left]
      rw [Nat.add_mod, h1]
      have hP : 0 < 2 ^ i := Nat.two_pow_pos _
      have h2 : A % 2 ^ s + 1 ≤ 2 ^ s := Nat.mod_lt _ (Nat.two_pow_pos _)
      have h3 : 2 ^ (i + 1) * (A % 2 ^ s + 1) ≤ W256 := by rw [hW]; exact Nat.mul_le_mul_left _ h2
      have h4 : 2 ^ (i + 1) = 2 * 2 ^ i := by rw [Nat.pow_succ, Nat.mul_comm]
      rw [Nat.mul_add, Nat.mul_one] at h3
      have h5 : 2 ^ i < W256 := by omega
      rw [Nat.mod_eq_of_lt h5, Nat.mod_eq_of_lt (by omega)]
    · rename_i hi
      obtain ⟨s, hs⟩ : ∃ s, i = 256 + s := ⟨i - 256, by omega⟩
      have : 2 ^ i = W256 * 2 ^ s := by rw [hs, Nat.pow_add]; rfl
      rw [this, Nat.add_mul_mod_self_left]
theorem dq_mod (V m i : Nat) : dq V m i % 2 ^ min i 256 = 0 := by
  unfold dq
  rw [Nat.mod_mod_of_dvd]
  · rw [Nat.mul_comm]
    exact Nat.mod_eq_zero_of_dvd (Nat.dvd_trans (Nat.pow_dvd_pow 2 (Nat.min_le_left _ _)) (Nat.dvd_mul_right _ _))
  · exact Nat.pow_dvd_pow 2 (n := 256) (Nat.min_le_right _ _)
theorem dq_lt (V m i : Nat) : dq V m i < W256 := Nat.mod_lt _ (by unfold W256; omega)
theorem dr_start (V m k : Nat) (h : V < 2 ^ k) : dr V m k = 0 := by unfold dr; rw [Nat.div_eq_of_lt h, Nat.zero_mod]
theorem dq_start (V m k : Nat) (h : V < 2 ^ k) : dq V m k = 0 := by unfold dq; rw [Nat.div_eq_of_lt h, Nat.zero_div, Nat.zero_mul, Nat.zero_mod]
theorem dr_end (V m : Nat) : dr V m 0 = V % m := by unfold dr; rw [Nat.pow_zero, Nat.div_one]
theorem dq_end (V m : Nat) : dq V m 0 = V / m % W256 := by unfold dq; rw [Nat.pow_zero, Nat.div_one, Nat.mul_one]
/-- the parts of twice a word -/
theorem lim_wrap (N k : Nat) (hk : k < 4) : lim (N % W256) k = lim N k := by
  have := lim_below (N % W256) (N / W256) 32 4 k (by omega) hk
  rw [show N / W256 * 256 ^ 32 + N % W256 = N from by
    have := Nat.div_add_mod N W256
    rw [show (256 : Nat) ^ 32 = W256 from rfl, Nat.mul_comm]; exact this] at this
  exact this.symm
theorem lim_dbl (R b k : Nat) (hb : b ≤ 1) : (lim R (k + 1) * 2 % 18446744073709551616) + lim R k / 9223372036854775808 = lim (2 * R + b) (k + 1) := by
  unfold lim
  rw [show 64 * (k + 1) = 64 * k + 64 from by omega, Nat.pow_add, ← Nat.div_div_eq_div_mul, ← Nat.div_div_eq_div_mul]
  have hP : 0 < 2 ^ (64 * k) := Nat.two_pow_pos _
  have h : ∃ e, e ≤ 1 ∧ (2 * R + b) / 2 ^ (64 * k) = 2 * (R / 2 ^ (64 * k)) + e := by
    refine ⟨(2 * (R % 2 ^ (64 * k)) + b) / 2 ^ (64 * k), ?_, ?_⟩
    · have := Nat.mod_lt R hP
      have : (2 * (R % 2 ^ (64 * k)) + b) / 2 ^ (64 * k) < 2 := by rw [Nat.div_lt_iff_lt_mul hP]; omega
      omega
    · have h1 := Nat.div_add_mod R (2 ^ (64 * k))
      generalize 2 ^ (64 * k) = P at *
      have h2 : 2 * R + b = P * (2 * (R / P)) + (2 * (R % P) + b) := by
        rw [Nat.mul_left_comm]; omega
      rw [h2, Nat.mul_add_div hP]
  obtain ⟨e, he, h⟩ := h
  rw [h]
  generalize R / 2 ^ (64 * k) = S
  rw [show (2 : Nat) ^ 64 = 18446744073709551616 from rfl]
  omega
theorem lim_dbl0 (R b : Nat) (hb : b ≤ 1) : (lim R 0 * 2 % 18446744073709551616) + b = lim (2 * R + b) 0 := by
  rw [lim0, lim0]; omega
theorem lim_top (R : Nat) (hR : R < W256) : lim R 3 / 9223372036854775808 = 2 * R / W256 := by
  have h3 : lim R 3 = R / 6277101735386680763835789423207666416102355444464034512896 := by
    rw [lim3]; apply Nat.mod_eq_of_lt; unfold W256 at hR; omega
  rw [h3, Nat.div_div_eq_div_mul]
  unfold W256; omega
/-- A bit is put into a number whose bits lie higher. -/
theorem lim_put (Q i j r : Nat) (hi : i = 64 * j + r) (hr : r < 64) (hQ : Q % 2 ^ (i + 1) = 0) : lim Q j % 2 ^ (r + 1) = 0 ∧ lim (Q + 2 ^ i) j = lim Q j + 2 ^ r ∧ ∀ k, k ≠ j → lim (Q + 2 ^ i) k = lim Q k := by
  obtain ⟨A, rfl⟩ := Nat.dvd_of_mod_eq_zero hQ
  have hP : 0 < 2 ^ (64 * j) := Nat.two_pow_pos _
  have e1 : 2 ^ (i + 1) = 2 ^ (64 * j) * 2 ^ (r + 1) := by rw [← Nat.pow_add, hi]; rfl
  have e2 : 2 ^ i = 2 ^ (64 * j) * 2 ^ r := by rw [← Nat.pow_add, ← hi]
  have e3 : (18446744073709551616 : Nat) = 2 ^ (r + 1) * 2 ^ (63 - r) := by rw [← Nat.pow_add, show r + 1 + (63 - r) = 64 from by omega]
  have e4 : 2 ^ (r + 1) = 2 * 2 ^ r := by rw [Nat.pow_succ, Nat.mul_comm]
  have h1 : 2 ^ (i + 1) * A / 2 ^ (64 * j) = 2 ^ (r + 1) * A := by rw [e1, Nat.mul_assoc, Nat.mul_div_cancel_left _ hP]
  have h2 : (2 ^ (i + 1) * A + 2 ^ i) / 2 ^ (64 * j) = 2 ^ (r + 1) * A + 2 ^ r := by
    rw [e1, e2, Nat.mul_assoc, ← Nat.mul_add, Nat.mul_div_cancel_left _ hP]
  have h3 : 2 ^ (r + 1) * A % 18446744073709551616 = 2 ^ (r + 1) * (A % 2 ^ (63 - r)) := by rw [e3, Nat.mul_mod_mul_left]
  refine ⟨?_, ?_, fun k hk => ?_⟩
  · unfold lim; rw [h1, h3]; exact Nat.mul_mod_right _ _
  · unfold lim
    rw [h1, h2, Nat.add_mod, h3]
    have hp : 0 < 2 ^ r := Nat.two_pow_pos _
    have h4 : A % 2 ^ (63 - r) + 1 ≤ 2 ^ (63 - r) := Nat.mod_lt _ (Nat.two_pow_pos _)
    have h5 := Nat.mul_le_mul_left (2 ^ (r + 1)) h4
    rw [← e3, Nat.mul_add, Nat.mul_one] at h5
    have h6 : 2 ^ r < 18446744073709551616 := by
      have : 2 ^ r < 2 ^ 64 := Nat.pow_lt_pow_right (by omega) hr
      exact this
    rw [Nat.mod_eq_of_lt h6, Nat.mod_eq_of_lt (by omega)]
  · unfold lim
    rcases Nat.lt_or_ge k j with h | h
    · obtain ⟨s, hs⟩ : ∃ s, i = 64 * k + 64 + s := ⟨i - 64 * k - 64, by omega⟩
      have e5 : 2 ^ i = 2 ^ (64 * k) * (18446744073709551616 * 2 ^ s) := by rw [hs, Nat.pow_add, Nat.pow_add, Nat.mul_assoc]
      have e6 : 2 ^ (i + 1) * A = 2 ^ (64 * k) * (18446744073709551616 * (2 ^ s * (2 * A))) := by
        rw [Nat.pow_succ, e5]
        simp only [Nat.mul_assoc]
      have hPk : 0 < 2 ^ (64 * k) := Nat.two_pow_pos _
      rw [e6, e5, ← Nat.mul_add, Nat.mul_div_cancel_left _ hPk, Nat.mul_div_cancel_left _ hPk, ← Nat.mul_add, Nat.mul_mod_right, Nat.mul_mod_right]
    · obtain ⟨s, hs⟩ : ∃ s, 64 * k = i + 1 + s := ⟨64 * k - i - 1, by omega⟩
      rw [hs, Nat.pow_add 2 (i + 1) s, ← Nat.div_div_eq_div_mul, ← Nat.div_div_eq_div_mul]
      congr 2
      have hp : 0 < 2 ^ (i + 1) := Nat.two_pow_pos _
      have hlt : 2 ^ i < 2 ^ (i + 1) := Nat.pow_lt_pow_right (by omega) (by omega)
      rw [Nat.mul_add_div hp, Nat.div_eq_of_lt hlt, Nat.add_zero, Nat.mul_div_cancel_left _ hp]
theorem wcs_put (Q i j r : Nat) (hi : i = 64 * j + r) (hr : r < 64) (hj : j < 4) (hQ : Q % 2 ^ (i + 1) = 0) : (wcs Q).set j (.int .u64 ((lim Q j + 2 ^ r : Nat) : Int)) = wcs (Q + 2 ^ i) := by
  obtain ⟨_, h2, h3⟩ := lim_put Q i j r hi hr hQ
  unfold wcs limI
  rw [← h2]
  rcases (show j = 0 ∨ j = 1 ∨ j = 2 ∨ j = 3 from by omega) with rfl | rfl | rfl | rfl
  · rw [h3 1 (by omega), h3 2 (by omega), h3 3 (by omega)]; rfl
  · rw [h3 0 (by omega), h3 2 (by omega), h3 3 (by omega)]; rfl
  · rw [h3 0 (by omega), h3 1 (by omega), h3 3 (by omega)]; rfl
  · rw [h3 0 (by omega), h3 1 (by omega), h3 2 (by omega)]; rfl
theorem or_bit (Q i j r : Nat) (hi : i = 64 * j + r) (hr : r < 64) (hQ : Q % 2 ^ (i + 1) = 0) : bits .or .u64 (lim Q j : Int) ((2 ^ r : Nat) : Int) = ((lim Q j + 2 ^ r : Nat) : Int) :=
  u64_or_add _ _ (r + 1) (lim_lt Q j) (by omega) (lim_put Q i j r hi hr hQ).1 (Nat.pow_lt_pow_right (by omega) (by omega))
theorem or_dbl (R b k : Nat) (hb : b ≤ 1) : bits .or .u64 (IntKind.u64.wrap ((lim R (k + 1) : Int) * 2)) ((lim R k : Int) / 9223372036854775808) = (lim (2 * R + b) (k + 1) : Int) := by
  have h1 : IntKind.u64.wrap ((lim R (k + 1) : Int) * 2) = ((lim R (k + 1) * 2 % 18446744073709551616 : Nat) : Int) := by rw [IntKind.wrap_u64]; omega
  have h2 : (lim R k : Int) / 9223372036854775808 = ((lim R k / 9223372036854775808 : Nat) : Int) := by omega
  have hl := lim_lt R k
  rw [h1, h2, u64_or_add _ _ 1 (Nat.mod_lt _ (by omega)) (by omega) (by omega) (by omega), lim_dbl R b k hb]
theorem or_dbl0 (R b : Nat) (hb : b ≤ 1) : bits .or .u64 (IntKind.u64.wrap ((lim R 0 : Int) * 2)) (b : Int) = (lim (2 * R + b) 0 : Int) := by
  have h1 : IntKind.u64.wrap ((lim R 0 : Int) * 2) = ((lim R 0 * 2 % 18446744073709551616 : Nat) : Int) := by rw [IntKind.wrap_u64]; omega
  rw [h1, u64_or_add _ _ 1 (Nat.mod_lt _ (by omega)) (by omega) (by omega) (by omega), lim_dbl0 R b hb]
theorem wrap_two (r : Nat) (hr : r < 64) : IntKind.u64.wrap ((2 : Int) ^ r) = ((2 ^ r : Nat) : Int) := by
  have h2r : 2 ^ r < 18446744073709551616 := Nat.pow_lt_pow_right (n := 64) (by omega) hr
  rw [show ((2 : Int) ^ r) = ((2 ^ r : Nat) : Int) from by simp]
  generalize 2 ^ r = x at *
  rw [IntKind.wrap_u64]; omega
end Go.Proofs.Ytgmdbleeagfhpaa
