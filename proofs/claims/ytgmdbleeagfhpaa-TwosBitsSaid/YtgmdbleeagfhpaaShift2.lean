/- twos.far. -/
import Derived.Test.YtgmdbleeagfhpaaShift1
import Derived.Test.YtgmdbleeagfhpaaTwosQ1
import Derived.Laws.BitsAllLaws
set_option linter.unusedSimpArgs false
set_option linter.unusedVariables false
namespace Go.Proofs.Ytgmdbleeagfhpaa
open Go.RowKit
theorem or_zero (a b : Nat) : a ||| b = 0 ↔ a = 0 ∧ b = 0 := by
  constructor
  · intro h
    have h2 : ∀ i, a.testBit i = false ∧ b.testBit i = false := by
      intro i
      have := congrArg (fun n => Nat.testBit n i) h
      simpa [Nat.testBit_or] using this
    exact ⟨Nat.eq_of_testBit_eq (fun i => by rw [(h2 i).1, Nat.zero_testBit]), Nat.eq_of_testBit_eq (fun i => by rw [(h2 i).2, Nat.zero_testBit])⟩
  · rintro ⟨rfl, rfl⟩; rfl
theorem far_eq (N : Nat) (hN : N < W256) : decide (256 ≤ N) = (decide (256 ≤ lim N 0) || !(lim N 1 ||| lim N 2 ||| lim N 3 == 0)) := by
  have h := lim_sum N hN
  rw [Bool.eq_iff_iff]
  simp only [Bool.or_eq_true, decide_eq_true_eq, Bool.not_eq_true', beq_eq_false_iff_ne, ne_eq, or_zero]
  generalize lim N 0 = a at *
  generalize lim N 1 = b at *
  generalize lim N 2 = c at *
  generalize lim N 3 = d at *
  omega
set_option maxHeartbeats 400000 in
set_option maxRecDepth 100000 in
theorem far_any (N : Nat) (hN : N < W256) (w : World) : Calls Try.prog 76 #[wv N] w fun e w' => e = .returned (.bool (decide (256 ≤ N))) ∧ Below w.heap.size w w' := by
  have hb0 := boxW w N
  have hbel0 : Below w.heap.size w (w.alloc (.cells (wcs N).toArray 24)) := (Below.refl _ _).alloc (Nat.le_refl _) _
  have hf := far_eq N hN
  show Calls Try.prog 76 #[.agg (wcs N).toArray] w _
  have hc0 := hb0.wat 0 (by omega)
  have hc1 := hb0.wat 1 (by omega)
  have hc2 := hb0.wat 2 (by omega)
  have hc3 := hb0.wat 3 (by omega)
  have h0 := lim_lt N 0
  have h1 := lim_lt N 1
  have h2 := lim_lt N 2
  have h3 := lim_lt N 3
  generalize lim N 0 = a at *
  generalize lim N 1 = b at *
  generalize lim N 2 = c at *
  generalize lim N 3 = d at *
  have o1 := u64_or_nat b c h1 h2
  have hbc : b ||| c < 18446744073709551616 := Nat.or_lt_two_pow (n := 64) h1 h2
  have o2 := u64_or_nat (b ||| c) d hbc h3
  obtain ⟨x, hx⟩ : ∃ x, x = b ||| c := ⟨_, rfl⟩
  rw [← hx] at o1 o2 hf hbc
  obtain ⟨y, hy⟩ : ∃ y, y = x ||| d := ⟨_, rfl⟩
  rw [← hy] at o2 hf
  have hy64 : y < 18446744073709551616 := by rw [hy]; exact Nat.or_lt_two_pow (n := 64) hbc h3
  clear hx hy
  by_cases ha : 256 ≤ a
  · have d1 : decide ((256 : Int) ≤ (a : Int)) = true := by rw [decide_eq_true_eq]; omega
    have d2 : decide (256 ≤ a) = true := by rw [decide_eq_true_eq]; omega
    rw [d2, Bool.true_or] at hf
    have Hf := Lib.hid hf
    clear hf ha
    go_enter Try.func76, Try.ntmps76
    go_wp2
    go_ret
    exact ⟨by rw [Hf.out]; rfl, hbel0⟩
  · have d1 : decide ((256 : Int) ≤ (a : Int)) = false := by rw [decide_eq_false_iff_not]; omega
    have d2 : decide (256 ≤ a) = false := by rw [decide_eq_false_iff_not]; omega
    rw [d2, Bool.false_or] at hf
    have Hf := Lib.hid hf
    have e5 : ((y : Int) != 0) = !(y == 0) := by rw [Bool.eq_iff_iff]; simp
    have E5 := Lib.hid e5
    clear e5
    clear hf ha
    go_enter Try.func76, Try.ntmps76
    go_wp2
    go_ret
    exact ⟨by rw [Hf.out, ← E5.out]; rfl, hbel0⟩
end Go.Proofs.Ytgmdbleeagfhpaa
