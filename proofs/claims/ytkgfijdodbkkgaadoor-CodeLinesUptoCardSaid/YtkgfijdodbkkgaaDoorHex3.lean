/- hex.digit and the reference's sixteen. -/
import Derived.Test.YtkgfijdodbkkgaaDoorHex2
set_option linter.unusedSimpArgs false
set_option linter.unusedVariables false
namespace Go.Proofs.YtkgfijdodbkkgaaDoor
open Go.RowKit
/-- what a sign is worth; 16: it is none -/
def dgN (n : Nat) : Nat := if 48 ≤ n ∧ n ≤ 57 then n - 48 else if 97 ≤ n ∧ n ≤ 102 then n - 87 else 16
def dg (x : UInt8) : UInt8 := UInt8.ofNat (dgN x.toNat)
theorem dgN_le (n : Nat) : dgN n ≤ 16 := by unfold dgN; split <;> (try split) <;> omega
theorem dg_nat (x : UInt8) : (dg x).toNat = dgN x.toNat := by
  have := dgN_le x.toNat
  unfold dg; rw [UInt8.toNat_ofNat']; omega
theorem dg_hexd (x : UInt8) (h : x.toNat < 16) : dg (hexd x) = x := by
  have key : ∀ n : Fin 16, dg (hexd (UInt8.ofNat n.val)) = UInt8.ofNat n.val := by decide
  have := key ⟨x.toNat, h⟩
  simpa using this
theorem hexd_dg (x : UInt8) (h : (dg x).toNat < 16) : hexd (dg x) = x := by
  rw [dg_nat] at h
  have h2 := dg_nat x
  apply UInt8.toNat_inj.1
  unfold dgN at h h2
  unfold hexd
  split at h
  · rw [if_pos (by omega)] at h2
    rw [if_pos (by omega), UInt8.toNat_add, show (48 : UInt8).toNat = 48 from rfl]; omega
  · split at h
    · rw [if_neg (by omega), if_pos (by omega)] at h2
      rw [if_neg (by omega), UInt8.toNat_add, show (87 : UInt8).toNat = 87 from rfl]; omega
    · omega
set_option maxHeartbeats 400000 in
set_option maxRecDepth 100000 in
theorem digit_any (n : Nat) (hn : n < 2147483648) (w : World) : Calls Tryd.prog 38 #[.int .i32 (n : Int)] w fun e w' => e = .returned (.int .u8 (dgN n : Int)) ∧ w' = w := by
  go_enter Tryd.func38, Tryd.ntmps38
  by_cases h1 : 48 ≤ n ∧ n ≤ 57
  · have d1 : decide ((48 : Int) ≤ (n : Int)) = true := by rw [decide_eq_true_eq]; omega
    have d2 : decide ((n : Int) ≤ 57) = true := by rw [decide_eq_true_eq]; omega
    have hp : IntKind.u8.wrap ((n : Int) - 48) = (dgN n : Int) := by unfold dgN; rw [if_pos h1, IntKind.wrap_u8']; omega
    have hp2 : ((n : Int) - 48) = (dgN n : Int) := by unfold dgN; rw [if_pos h1]; omega
    obtain ⟨h48, h57⟩ := h1
    have Hp := Lib.hid hp
    have Hp2 := Lib.hid hp2
    clear hp hp2
    go_wp2
    go_ret
    exact ⟨ret_int (by first | exact Hp.out | exact Hp2.out), rfl⟩
  · by_cases h2 : 97 ≤ n ∧ n ≤ 102
    · have d0 : decide ((n : Int) ≤ 57) = false := by rw [decide_eq_false_iff_not]; omega
      have d00 : decide ((48 : Int) ≤ (n : Int)) = true := by rw [decide_eq_true_eq]; omega
      have d1 : decide ((97 : Int) ≤ (n : Int)) = true := by rw [decide_eq_true_eq]; omega
      have d2 : decide ((n : Int) ≤ 102) = true := by rw [decide_eq_true_eq]; omega
      have hp2 : ((n : Int) - 97 + 10) = (dgN n : Int) := by unfold dgN; rw [if_neg h1, if_pos h2]; omega
      obtain ⟨h97, h102⟩ := h2
      have Hp2 := Lib.hid hp2
      clear hp2 h1
      go_wp2
      go_ret
      exact ⟨ret_int (by first | exact Hp2.out), rfl⟩
    · have hp2 : (16 : Int) = (dgN n : Int) := by unfold dgN; rw [if_neg h1, if_neg h2]; rfl
      have Hp2 := Lib.hid hp2
      clear hp2
      by_cases a1 : 48 ≤ n
      · have d1 : decide ((48 : Int) ≤ (n : Int)) = true := by rw [decide_eq_true_eq]; omega
        have d2 : decide ((n : Int) ≤ 57) = false := by rw [decide_eq_false_iff_not]; omega
        by_cases a2 : 97 ≤ n
        · have d3 : decide ((97 : Int) ≤ (n : Int)) = true := by rw [decide_eq_true_eq]; omega
          have d4 : decide ((n : Int) ≤ 102) = false := by rw [decide_eq_false_iff_not]; omega
          clear h1 h2
          go_wp2
          go_ret
          exact ⟨ret_int Hp2.out, rfl⟩
        · have d3 : decide ((97 : Int) ≤ (n : Int)) = false := by rw [decide_eq_false_iff_not]; omega
          clear h1 h2
          go_wp2
          go_ret
          exact ⟨ret_int Hp2.out, rfl⟩
      · have d1 : decide ((48 : Int) ≤ (n : Int)) = false := by rw [decide_eq_false_iff_not]; omega
        have d3 : decide ((97 : Int) ≤ (n : Int)) = false := by rw [decide_eq_false_iff_not]; omega
        clear h1 h2
        go_wp2
        go_ret
        exact ⟨ret_int Hp2.out, rfl⟩
def sixI (x : UInt8) : Int := if (dg x).toNat < 16 then (dg x).toNat else -1
set_option maxHeartbeats 400000 in
set_option maxRecDepth 100000 in
theorem sixteen_any (x : UInt8) (w : World) : Calls Tryd.prog 23 #[.int .u8 (x.toNat : Int)] w fun e w' => e = .returned (.int .i64 (sixI x)) ∧ w' = w := by
  have hx8 := u8_lt x
  go_enter Tryd.func23, Tryd.ntmps23
  go_wp2
  go_loop [3, 4] (fun _ i => ∃ k : Nat, k ≤ 16 ∧ i = .int .i64 (k : Int) ∧ ∀ j : UInt8, j.toNat < k → hexd j ≠ x) (fun _ i => 16 - (intOf i).toNat)
  case atStart => exact ⟨0, by omega, rfl, fun j h => by omega⟩
  case round =>
    obtain ⟨k, hk, rfl, hno⟩ := hrel
    by_cases hlt : k < 16
    · have hkn : (UInt8.ofNat k).toNat = k := by rw [UInt8.toNat_ofNat']; omega
      have dk : (⟨#[48, 49, 50, 51, 52, 53, 54, 55, 56, 57, 97, 98, 99, 100, 101, 102]⟩ : ByteArray)[k]'(by show k < 16; exact hlt) = hexd (UInt8.ofNat k) := by
        have := digs_at (UInt8.ofNat k) (by omega)
        simp only [hkn] at this
        exact this
      have hki : (k : Int) < 16 := by omega
      by_cases he : hexd (UInt8.ofNat k) = x
      · have hd := dg_hexd (UInt8.ofNat k) (by omega)
        rw [he] at hd
        have hs : sixI x = (k : Int) := by unfold sixI; rw [hd, hkn, if_pos hlt]
        rw [he] at dk
        have Hs := Lib.hid hs
        clear he hd hs hno hkn
        go_wp2
        go_ret
        exact ⟨ret_int Hs.out.symm, rfl⟩
      · have hne : (((hexd (UInt8.ofNat k)).toNat : Int) == (x.toNat : Int)) = false := by
          rw [beq_eq_false_iff_ne]; intro e; apply he; exact UInt8.toNat_inj.1 (by omega)
        have hno2 : ∀ j : UInt8, j.toNat < k + 1 → hexd j ≠ x := by
          intro j hj
          rcases Nat.lt_or_ge j.toNat k with h | h
          · exact hno j h
          · have : j = UInt8.ofNat k := UInt8.toNat_inj.1 (by omega)
            rw [this]; exact he
        have Hno := Lib.hid hno2
        clear hno hno2 he hkn
        generalize hexd (UInt8.ofNat k) = y at *
        go_wp2
        go_round
        case rel => exact ⟨k + 1, by omega, by go_num, Hno.out⟩
        case measure => simp [intOf]; omega
    · obtain rfl : k = 16 := by omega
      have hs : sixI x = -1 := by
        unfold sixI; rw [if_neg]; intro h; exact hno (dg x) h (hexd_dg x h)
      have Hs := Lib.hid hs
      clear hno hs
      go_wp2
      go_ret
      exact ⟨ret_int Hs.out.symm, rfl⟩
end Go.Proofs.YtkgfijdodbkkgaaDoor
