/- code.Next and the reference's LNext. -/
import Derived.Test.YtkgfijdodbkkgaaDoorTabs
import Derived.Test.YtkgfijdodbkkgaaDoorBase
import Derived.OpenShut
set_option linter.unusedSimpArgs false
set_option linter.unusedVariables false
namespace Go.Proofs.YtkgfijdodbkkgaaDoor
open Go.RowKit
/-- how many bytes stand behind it -/
def push (x : UInt8) : Nat := if 96 ≤ x.toNat ∧ x.toNat < 128 then x.toNat - 95 else 0
theorem push_le (x : UInt8) : push x ≤ 32 := by unfold push; split <;> omega
set_option maxHeartbeats 400000 in
set_option maxRecDepth 100000 in
theorem pushed_any (x : UInt8) (w : World) : Calls Tryd.prog 21 #[.int .u8 (x.toNat : Int)] w fun e w' => e = .returned (.int .i64 (push x : Int)) ∧ w' = w := by
  have hx := u8_lt x
  go_enter Tryd.func21, Tryd.ntmps21
  by_cases h1 : 96 ≤ x.toNat
  · have d1 : decide ((96 : Int) ≤ (x.toNat : Int)) = true := by rw [decide_eq_true_eq]; omega
    by_cases h2 : x.toNat < 128
    · have d2 : decide ((x.toNat : Int) < 128) = true := by rw [decide_eq_true_eq]; omega
      have hp : ((x.toNat : Int) - 96 + 1) = (push x : Int) := by unfold push; rw [if_pos ⟨h1, h2⟩]; omega
      have Hp := Lib.hid hp
      clear hp h1 h2
      go_wp2
      go_ret
      exact ⟨ret_int Hp.out, rfl⟩
    · have d2 : decide ((x.toNat : Int) < 128) = false := by rw [decide_eq_false_iff_not]; omega
      have hp : push x = 0 := by unfold push; rw [if_neg (by omega)]
      rw [hp]
      clear h1 h2 hp
      go_wp2
      go_ret
      exact ⟨rfl, rfl⟩
  · have d1 : decide ((96 : Int) ≤ (x.toNat : Int)) = false := by rw [decide_eq_false_iff_not]; omega
    have hp : push x = 0 := by unfold push; rw [if_neg (by omega)]
    rw [hp]
    clear h1 hp
    go_wp2
    go_ret
    exact ⟨rfl, rfl⟩
set_option maxHeartbeats 400000 in
set_option maxRecDepth 100000 in
theorem lpush_any (x : UInt8) (w : World) : Calls Tryd.prog 17 #[.int .u8 (x.toNat : Int)] w fun e w' => e = .returned (.int .i64 (push x : Int)) ∧ w' = w := by
  have hx := u8_lt x
  go_enter Tryd.func17, Tryd.ntmps17
  by_cases h1 : 96 ≤ x.toNat
  · have d1 : decide ((x.toNat : Int) < 96) = false := by rw [decide_eq_false_iff_not]; omega
    by_cases h2 : x.toNat < 128
    · have d2 : decide ((127 : Int) < (x.toNat : Int)) = false := by rw [decide_eq_false_iff_not]; omega
      have hp : ((x.toNat : Int) - 95) = (push x : Int) := by unfold push; rw [if_pos ⟨h1, h2⟩]; omega
      have Hp := Lib.hid hp
      clear hp h1 h2
      go_wp2
      go_ret
      exact ⟨ret_int Hp.out, rfl⟩
    · have d2 : decide ((127 : Int) < (x.toNat : Int)) = true := by rw [decide_eq_true_eq]; omega
      have hp : push x = 0 := by unfold push; rw [if_neg (by omega)]
      rw [hp]
      clear h1 h2 hp
      go_wp2
      go_ret
      exact ⟨rfl, rfl⟩
  · have d1 : decide ((x.toNat : Int) < 96) = true := by rw [decide_eq_true_eq]; omega
    have hp : push x = 0 := by unfold push; rw [if_neg (by omega)]
    rw [hp]
    clear h1 hp
    go_wp2
    go_ret
    exact ⟨rfl, rfl⟩
/-- the place behind -/
def nextI (l : List UInt8) (pc : Int) : Int := if pc < 0 ∨ (l.length : Int) ≤ pc then l.length else min (pc + 1 + push (l[pc.toNat]?.getD 0)) l.length
theorem next_out (l : List UInt8) (pc : Int) (h : pc < 0 ∨ (l.length : Int) ≤ pc) : nextI l pc = l.length := if_pos h
theorem next_in (l : List UInt8) (k : Nat) (h : k < l.length) : nextI l (k : Int) = ((min (k + 1 + push l[k]) l.length : Nat) : Int) := by
  unfold nextI
  rw [if_neg (by omega)]
  simp only [Int.toNat_natCast, List.getElem?_eq_getElem h, Option.getD_some]
  omega
set_option maxHeartbeats 400000 in
set_option maxRecDepth 100000 in
theorem next_any (a : Option Addr) (c : Nat) (l : List UInt8) (pc : Int) (hpc : (Lit.int .i64 pc).wf = true) (w : World) (h : Bytes w (.slice a l.length c) l) (hl : l.length ≤ 140737488355328) :
    Calls Tryd.prog 13 #[.slice a l.length c, .int .i64 pc] w fun e w' => e = .returned (.int .i64 (nextI l pc)) ∧ w' = w := by
  have hb := bounds_i64 hpc
  by_cases h0 : pc < 0
  · have d0 : decide (pc < 0) = true := by rw [decide_eq_true_eq]; exact h0
    rw [next_out l pc (.inl h0)]
    go_enter Tryd.func13, Tryd.ntmps13
    go_wp2
    go_ret
    exact ⟨rfl, rfl⟩
  · have d0 : decide (pc < 0) = false := by rw [decide_eq_false_iff_not]; exact h0
    obtain ⟨k, rfl⟩ := Int.eq_ofNat_of_zero_le (by omega : 0 ≤ pc)
    by_cases h1 : l.length ≤ k
    · have d1 : decide (l.length ≤ k) = true := by rw [decide_eq_true_eq]; exact h1
      rw [next_out l _ (.inr (by omega))]
      go_enter Tryd.func13, Tryd.ntmps13
      go_wp2
      go_ret
      exact ⟨rfl, rfl⟩
    · have d1 : decide (l.length ≤ k) = false := by rw [decide_eq_false_iff_not]; exact h1
      have hlt : k < l.length := by omega
      rw [next_in l k hlt]
      obtain ⟨b, off, rfl, hc⟩ := h.at k hlt
      obtain ⟨x, hx⟩ : ∃ x, x = l[k] := ⟨_, rfl⟩
      rw [← hx] at hc ⊢
      have hp := push_le x
      have hki : (k : Int) < (l.length : Int) := by omega
      have hm : min ((k : Int) + 1 + (push x : Int)) (l.length : Int) = ((min (k + 1 + push x) l.length : Nat) : Int) := by omega
      have Hm := Lib.hid hm
      clear hx hm
      go_enter Tryd.func13, Tryd.ntmps13
      go_wp2_with (go_at_call 21; refine (pushed_any x _).mono ?_; rintro e w' ⟨rfl, rfl⟩)
      all_goals (go_ret; exact ⟨ret_int (by omega), rfl⟩)
end Go.Proofs.YtkgfijdodbkkgaaDoor
