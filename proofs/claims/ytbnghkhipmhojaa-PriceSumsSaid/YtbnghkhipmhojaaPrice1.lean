/- price.Words, Room, Intrinsic and the reference's: each pair comes to one number. -/
import Derived.Test.YtbnghkhipmhojaaTabs
namespace Go.Proofs.Ytbnghkhipmhojaa
open Go.RowKit
def u64max : Int := 18446744073709551615
def wordsOf (n : Int) : Int := if 0 < n % 32 then n / 32 + 1 else n / 32
def roomOf (left asked : Int) : Int := if asked < left - left / 64 then asked else left - left / 64
def nz (l : List UInt8) : Nat := (l.filter (· != 0)).length
def intr (z : Int) (l : List UInt8) : Int := z + 4 * l.length + 12 * nz l
theorem nz_le (l : List UInt8) : nz l ≤ l.length := List.length_filter_le _ _
theorem u8_zero (x : UInt8) : ((x.toNat : Int) == 0) = (x == 0) := by
  by_cases h : x = 0
  · subst h; rfl
  · have h2 : ¬ (x.toNat : Int) = 0 := by intro hh; apply h; exact UInt8.toNat_inj.1 (by simpa using hh)
    rw [beq_eq_false_iff_ne.2 h2, beq_eq_false_iff_ne.2 h]
theorem nz_snoc (l : List UInt8) (x : UInt8) : nz (l ++ [x]) = nz l + if ((x.toNat : Int) == 0) = true then 0 else 1 := by
  unfold nz
  rw [List.filter_append, u8_zero]
  by_cases h : x = 0
  · subst h; simp
  · simp [h]
theorem intr_bd (z : Int) (l : List UInt8) (h : 0 ≤ z ∧ z ≤ 1200) (hl : l.length ≤ 140737488355328) : 0 ≤ intr z l ∧ intr z l ≤ 2814749767107760 := by
  have := nz_le l; unfold intr; omega
theorem take_snoc (l : List UInt8) (k : Nat) (h : k < l.length) : l.take (k + 1) = l.take k ++ [l[k]] := by
  rw [List.take_succ_eq_append_getElem h]
theorem intr_zero (z : Int) (l : List UInt8) (k : Nat) (h : k < l.length) (hx : ((l[k].toNat : Int) == 0) = true) : intr z (l.take k) + 4 = intr z (l.take (k + 1)) := by
  rw [take_snoc l k h]; unfold intr; rw [nz_snoc, if_pos hx]; simp; omega
theorem intr_some (z : Int) (l : List UInt8) (k : Nat) (h : k < l.length) (hx : ((l[k].toNat : Int) == 0) = false) : intr z (l.take k) + 16 = intr z (l.take (k + 1)) := by
  rw [take_snoc l k h]; unfold intr; rw [nz_snoc, if_neg (by simp [hx])]; simp; omega

theorem nz_some (l : List UInt8) (k : Nat) (h : k < l.length) (hx : ((l[k].toNat : Int) != 0) = true) : (nz (l.take k) : Int) + 1 = (nz (l.take (k + 1)) : Nat) := by
  rw [take_snoc l k h, nz_snoc]; rw [bne, Bool.not_eq_true'] at hx; rw [if_neg (by rw [hx]; simp)]; omega
theorem nz_zero (l : List UInt8) (k : Nat) (h : k < l.length) (hx : ((l[k].toNat : Int) != 0) = false) : (nz (l.take k) : Int) = (nz (l.take (k + 1)) : Nat) := by
  rw [take_snoc l k h, nz_snoc]; rw [bne, Bool.not_eq_false'] at hx; rw [if_pos hx]; omega
set_option maxHeartbeats 400000 in
theorem words_any (n : Int) (h0 : 0 ≤ n ∧ n ≤ 18446744073709551615) (w : World) :
    Calls Try.prog 19 #[.int .u64 n] w fun e w' => e = .returned (.int .u64 (wordsOf n)) ∧ w = w' := by
  unfold wordsOf
  go_enter Try.func19, Try.ntmps19
  go_wp2
  all_goals go_ret
  all_goals exact ⟨rfl, rfl⟩
set_option maxHeartbeats 400000 in
theorem mwords_any (n : Int) (h0 : 0 ≤ n ∧ n ≤ 18446744073709551615) (w : World) :
    Calls Try.prog 20 #[.int .u64 n] w fun e w' => e = .returned (.int .u64 (wordsOf n)) ∧ w = w' := by
  go_enter Try.func20, Try.ntmps20
  go_wp2
  all_goals go_ret
  all_goals exact ⟨ret_int (by simp [wordsOf]; first | omega | (split <;> omega)), rfl⟩
set_option maxHeartbeats 400000 in
theorem room_any (n m : Int) (h0 : 0 ≤ n ∧ n ≤ 18446744073709551615) (h1 : 0 ≤ m ∧ m ≤ 18446744073709551615) (w : World) :
    Calls Try.prog 21 #[.int .u64 n, .int .u64 m] w fun e w' => e = .returned (.int .u64 (roomOf n m)) ∧ w = w' := by
  go_enter Try.func21, Try.ntmps21
  go_wp2
  all_goals go_ret
  all_goals exact ⟨ret_int (by simp [roomOf]; try omega), rfl⟩
set_option maxHeartbeats 400000 in
theorem mroom_any (n m : Int) (h0 : 0 ≤ n ∧ n ≤ 18446744073709551615) (h1 : 0 ≤ m ∧ m ≤ 18446744073709551615) (w : World) :
    Calls Try.prog 22 #[.int .u64 n, .int .u64 m] w fun e w' => e = .returned (.int .u64 (roomOf n m)) ∧ w = w' := by
  go_enter Try.func22, Try.ntmps22
  go_wp2
  all_goals go_ret
  all_goals exact ⟨ret_int (by simp [roomOf]; try omega), rfl⟩

set_option maxHeartbeats 400000 in
theorem intrinsic_any (a : Option Addr) (c : Nat) (l : List UInt8) (m : Bool) (w : World) (h : Bytes w (.slice a l.length c) l) (hl : l.length ≤ 140737488355328) :
    Calls Try.prog 23 #[.slice a l.length c, .bool m] w fun e w' => e = .returned (.int .u64 (intr (if m then 1200 else 500) l)) ∧ w = w' := by
  obtain ⟨z0, hz0⟩ : ∃ z0 : Int, z0 = (if m then 1200 else 500) := ⟨_, rfl⟩
  have hzz : 0 ≤ z0 ∧ z0 ≤ 1200 := by rw [hz0]; split <;> omega
  rw [← hz0]
  have Hz := Lib.hid hz0
  clear hz0
  go_enter Try.func23, Try.ntmps23
  cases m
  all_goals
    go_wp2
    go_loop [5, 13] (fun s i => ∃ k : Nat, k ≤ l.length ∧ i = .int .i64 k ∧ s = .int .u64 (intr z0 (l.take k))) (fun _ i => l.length - (intOf i).toNat)
    case atStart => exact ⟨0, Nat.zero_le _, rfl, by rw [Hz.out]; rfl⟩
    case round =>
      obtain ⟨k, hk, rfl, rfl⟩ := hrel
      have hb := intr_bd z0 (l.take k) hzz (by have := List.length_take_le k l; omega)
      by_cases hlt : k < l.length
      · obtain ⟨b, off, rfl, hc⟩ := h.at k hlt
        have L1 := intr_zero z0 l k hlt
        have L2 := intr_some z0 l k hlt
        have K1 := Lib.hid L1
        have K2 := Lib.hid L2
        clear h L1 L2
        have hx := u8_lt l[k]
        go_wp2
        · go_round
          case rel => exact ⟨k + 1, by omega, by go_num, val_int (K1.out (by assumption))⟩
          case measure => simp [intOf]; omega
        · go_round
          case rel => exact ⟨k + 1, by omega, by go_num, val_int (K2.out (by assumption))⟩
          case measure => simp [intOf]; omega
      · go_wp2
        go_ret
        exact ⟨ret_int (by rw [List.take_of_length_le (by omega)]), rfl⟩
set_option maxHeartbeats 400000 in
theorem mintrinsic_any (a : Option Addr) (c : Nat) (l : List UInt8) (m : Bool) (w : World) (h : Bytes w (.slice a l.length c) l) (hl : l.length ≤ 140737488355328) :
    Calls Try.prog 24 #[.slice a l.length c, .bool m] w fun e w' => e = .returned (.int .u64 (intr (if m then 1200 else 500) l)) ∧ w = w' := by
  go_enter Try.func24, Try.ntmps24
  go_wp2
  go_loop [5, 11] (fun s i => ∃ k : Nat, k ≤ l.length ∧ i = .int .i64 k ∧ s = .int .u64 (nz (l.take k))) (fun _ i => l.length - (intOf i).toNat)
  case atStart => exact ⟨0, Nat.zero_le _, rfl, rfl⟩
  case round =>
    obtain ⟨k, hk, rfl, rfl⟩ := hrel
    have hb : nz (l.take k) ≤ 140737488355328 := Nat.le_trans (nz_le _) (by have := List.length_take_le k l; omega)
    by_cases hlt : k < l.length
    · obtain ⟨b, off, rfl, hc⟩ := h.at k hlt
      have K1 := Lib.hid (nz_some l k hlt)
      have K2 := Lib.hid (nz_zero l k hlt)
      clear h
      have hx := u8_lt l[k]
      go_wp2
      · go_round
        case rel => exact ⟨k + 1, by omega, by go_num, val_int (K1.out (by assumption))⟩
        case measure => simp [intOf]; omega
      · go_round
        case rel => exact ⟨k + 1, by omega, by go_num, val_int (K2.out (by assumption))⟩
        case measure => simp [intOf]; omega
    · obtain rfl : k = l.length := by omega
      have e1 : l.take l.length = l := List.take_of_length_le (Nat.le_refl _)
      rw [e1] at hb ⊢
      clear e1
      cases m
      all_goals
        go_wp2
        go_ret
        exact ⟨ret_int (by simp [intr]; try omega), rfl⟩
end Go.Proofs.Ytbnghkhipmhojaa
