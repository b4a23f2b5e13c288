/- price.Op. -/
import Derived.Test.YtikndlkfmjhgdaaDoorPriceO1
import Derived.Test.YtikndlkfmjhgdaaDoorCname2
set_option linter.unusedSimpArgs false
set_option linter.unusedVariables false
namespace Go.Proofs.YtikndlkfmjhgdaaDoor
open Go.RowKit
set_option maxHeartbeats 2000000 in
set_option maxRecDepth 100000 in
theorem ranges_any (x : Nat) (hx : x < 256) (w : World) : Calls Tryd.prog 15 #[.int .u8 (x : Int)] w fun e w' => e = .returned (.int .u64 (rngP x : Int)) ∧ Below w.heap.size w w' := by
  obtain ⟨R, hR⟩ : ∃ R : Nat, R = rngP x := ⟨_, rfl⟩
  rw [← hR]
  have HR := Lib.hid hR
  clear hR
  have hc : (160 ≤ x ∧ x ≤ 162) ∨ (96 ≤ x ∧ x < 160) ∨ (0 < x ∧ x ≤ 29 ∧ x ≠ 12 ∧ x ≠ 13 ∧ x ≠ 14 ∧ x ≠ 15) ∨ x = 0 ∨ x = 12 ∨ x = 13 ∨ x = 14 ∨ x = 15 ∨ (29 < x ∧ x < 96) ∨ 162 < x := by omega
  rcases hc with h | h | h | h | h | h | h | h | h | h
  · obtain ⟨k, rfl, hk⟩ : ∃ k, x = 160 + k ∧ k < 3 := ⟨x - 160, by omega, by omega⟩
    clear h hx
    have hRe : R = 50 * (k + 1) := by rw [HR.out]; unfold rngP; rw [if_pos (by omega)]; omega
    clear HR
    subst hRe
    rcases (by omega : k = 0 ∨ k = 1 ∨ k = 2) with rfl | rfl | rfl <;>
    · go_enter Tryd.func15, Tryd.ntmps15
      go_wp2_with fail
      go_ret
      exact ⟨rfl, Below.refl _ _⟩
  · have hRe : R = 3 := by rw [HR.out]; unfold rngP; rw [if_neg (by omega), if_pos (by omega)]
    clear HR
    subst hRe
    obtain ⟨h1, h2⟩ := h
    have d1 : decide ((160 : Int) ≤ (x : Int)) = false := by rw [decide_eq_false_iff_not]; omega
    have d2 : decide ((96 : Int) ≤ (x : Int)) = true := by rw [decide_eq_true_eq]; omega
    have d3 : decide ((x : Int) < 160) = true := by rw [decide_eq_true_eq]; omega
    go_enter Tryd.func15, Tryd.ntmps15
    go_wp2_with fail
    go_ret
    exact ⟨rfl, Below.refl _ _⟩
  · have hRe : R = 3 := by rw [HR.out]; unfold rngP; rw [if_neg (by omega), if_neg (by omega), if_pos (by omega)]
    clear HR
    subst hRe
    obtain ⟨h1, h2, h3, h4, h5, h6⟩ := h
    have d1 : decide ((160 : Int) ≤ (x : Int)) = false := by rw [decide_eq_false_iff_not]; omega
    have d2 : decide ((96 : Int) ≤ (x : Int)) = false := by rw [decide_eq_false_iff_not]; omega
    have d3 : decide ((0 : Int) < (x : Int)) = true := by rw [decide_eq_true_eq]; omega
    have d4 : decide ((x : Int) ≤ 29) = true := by rw [decide_eq_true_eq]; omega
    have e1 : ((x : Int) != 12) = true := by rw [bne_iff_ne]; omega
    have e2 : ((x : Int) != 13) = true := by rw [bne_iff_ne]; omega
    have e3 : ((x : Int) != 14) = true := by rw [bne_iff_ne]; omega
    have e4 : ((x : Int) != 15) = true := by rw [bne_iff_ne]; omega
    go_enter Tryd.func15, Tryd.ntmps15
    go_wp2_with fail
    go_ret
    exact ⟨rfl, Below.refl _ _⟩
  iterate 5
    · subst h
      have hRe : R = 0 := by rw [HR.out]; rfl
      clear HR
      subst hRe
      go_enter Tryd.func15, Tryd.ntmps15
      go_wp2_with fail
      go_ret
      exact ⟨rfl, Below.refl _ _⟩
  · have d1 : decide ((160 : Int) ≤ (x : Int)) = false := by rw [decide_eq_false_iff_not]; omega
    have d2 : decide ((96 : Int) ≤ (x : Int)) = false := by rw [decide_eq_false_iff_not]; omega
    have d3 : decide ((0 : Int) < (x : Int)) = true := by rw [decide_eq_true_eq]; omega
    have d4 : decide ((x : Int) ≤ 29) = false := by rw [decide_eq_false_iff_not]; omega
    have hRe : R = if x = 52 then 3 else if x = 54 then 3 else if x = 57 then 3 else if x = 81 then 3 else if x = 82 then 3 else if x = 83 then 3 else 0 := by
      rw [HR.out]; unfold rngP; rw [if_neg (by omega), if_neg (by omega), if_neg (by omega)]
    have HR2 := Lib.hid hRe
    clear HR h hRe
    go_enter Tryd.func15, Tryd.ntmps15
    go_wp2_with fail
    all_goals
      go_ret
      refine ⟨?_, Below.refl _ _⟩
      rw [HR2.out]
      clear HR2
      simp only [beq_iff_eq, beq_eq_false_iff_ne, ne_eq] at *
      repeat (first | rw [if_neg (by omega)] | rw [if_pos (by omega)])
      rfl
  · have d1 : decide ((160 : Int) ≤ (x : Int)) = true := by rw [decide_eq_true_eq]; omega
    have d2 : decide ((x : Int) ≤ 162) = false := by rw [decide_eq_false_iff_not]; omega
    have d3 : decide ((96 : Int) ≤ (x : Int)) = true := by rw [decide_eq_true_eq]; omega
    have d5 : decide ((x : Int) < 160) = false := by rw [decide_eq_false_iff_not]; omega
    have d4 : decide ((0 : Int) < (x : Int)) = true := by rw [decide_eq_true_eq]; omega
    have d6 : decide ((x : Int) ≤ 29) = false := by rw [decide_eq_false_iff_not]; omega
    have hRe : R = 0 := by
      rw [HR.out]; unfold rngP; rw [if_neg (by omega), if_neg (by omega), if_neg (by omega)]
      repeat rw [if_neg (by omega)]
    clear HR
    subst hRe
    go_enter Tryd.func15, Tryd.ntmps15
    go_wp2_with fail
    all_goals
      first
        | (go_ret; exact ⟨rfl, Below.refl _ _⟩)
        | (exfalso; simp only [beq_iff_eq, beq_eq_false_iff_ne, ne_eq] at *; omega)
set_option maxHeartbeats 4000000 in
set_option maxRecDepth 100000 in
theorem op_any (x : Nat) (hx : x < 256) (w : World) : Calls Tryd.prog 7 #[.int .u8 (x : Int)] w fun e w' => e = .returned (.int .u64 (opP x : Int)) ∧ Below w.heap.size w w' := by
  obtain ⟨R, hR⟩ : ∃ R : Nat, R = opP x := ⟨_, rfl⟩
  rw [← hR]
  have HR := Lib.hid hR
  clear hR
  have c := ranges_any x hx
  obtain ⟨Q, hQ⟩ : ∃ Q : Nat, Q = rngP x := ⟨_, rfl⟩
  rw [← hQ] at c
  have HQ := Lib.hid hQ
  have C := Lib.hid c
  clear hQ c
  go_enter Tryd.func7, Tryd.ntmps7
  go_wp2_with (go_at_call 15; refine (C.out _).mono ?_; rintro e w1 ⟨rfl, b1⟩)
  all_goals
    go_ret
    refine ⟨?_, by first | exact Below.refl _ _ | assumption⟩
    rw [HR.out]
    try rw [HQ.out]
    clear HR HQ C
    simp only [beq_iff_eq, beq_eq_false_iff_ne, ne_eq] at *
    unfold opP
    repeat (first | rw [if_neg (by omega)] | rw [if_pos (by omega)])
    rfl
end Go.Proofs.YtikndlkfmjhgdaaDoor
