/- code.Name. -/
import Derived.Test.YtkgfijdodbkkgaaDoorCname1
import Derived.Shelf.Lay
import Derived.Ground.NamesProg
set_option linter.unusedSimpArgs false
set_option linter.unusedVariables false
namespace Go.Proofs.YtkgfijdodbkkgaaDoor
open Go.RowKit Go.Shelf
end Go.Proofs.YtkgfijdodbkkgaaDoor
namespace Go.Proofs
open Go.Shelf
shelf_lay Lays.n171 Nm 171 at Tryd as Tryd.laysItoa
end Go.Proofs
namespace Go.Proofs.YtkgfijdodbkkgaaDoor
open Go.RowKit Go.Shelf
theorem itoa_any (i : Nat) (hi : i < 100) (w : World) : Calls Tryd.prog 25 #[.int .i64 (i : Int)] w fun e w' => e = .returned (.string ⟨(Lib.decDigits i).toArray⟩) ∧ Below w.heap.size w w' :=
  (Any.strconv_Itoa_small Tryd.laysItoa i hi w).mono fun _ _ ⟨h, h2⟩ => ⟨h, by rw [h2]; exact Below.refl _ _⟩
set_option maxHeartbeats 2000000 in
set_option maxRecDepth 100000 in
theorem reck_any (x : Nat) (hx : x < 256) (w : World) : Calls Tryd.prog 29 #[.int .u8 (x : Int)] w fun e w' => e = .returned (.string ⟨(reckP x).toArray⟩) ∧ Below w.heap.size w w' := by
  obtain ⟨R, hR⟩ : ∃ R : ByteArray, R = ⟨(reckP x).toArray⟩ := ⟨_, rfl⟩
  rw [← hR]
  have HR := Lib.hid hR
  clear hR
  go_enter Tryd.func29, Tryd.ntmps29
  go_wp2_with fail
  all_goals
    go_ret
    refine ⟨?_, Below.refl _ _⟩
    rw [HR.out]
    clear HR
    simp only [beq_iff_eq, beq_eq_false_iff_ne, ne_eq] at *
    unfold reckP
    repeat (first | rw [if_neg (by omega)] | rw [if_pos (by omega)])
    rfl
set_option maxHeartbeats 2000000 in
set_option maxRecDepth 100000 in
theorem oth_any (x : Nat) (hx : x < 256) (w : World) : Calls Tryd.prog 30 #[.int .u8 (x : Int)] w fun e w' => e = .returned (.string ⟨(othP x).toArray⟩) ∧ Below w.heap.size w w' := by
  obtain ⟨R, hR⟩ : ∃ R : ByteArray, R = ⟨(othP x).toArray⟩ := ⟨_, rfl⟩
  rw [← hR]
  have HR := Lib.hid hR
  clear hR
  go_enter Tryd.func30, Tryd.ntmps30
  go_wp2_with fail
  all_goals
    go_ret
    refine ⟨?_, Below.refl _ _⟩
    rw [HR.out]
    clear HR
    simp only [beq_iff_eq, beq_eq_false_iff_ne, ne_eq] at *
    unfold othP
    repeat (first | rw [if_neg (by omega)] | rw [if_pos (by omega)])
    rfl
theorem cpush_any (x : Nat) (hx : x < 256) (w : World) : Calls Tryd.prog 21 #[.int .u8 (x : Int)] w fun e w' => e = .returned (.int .i64 ((if 96 ≤ x ∧ x < 128 then x - 95 else 0 : Nat) : Int)) ∧ Below w.heap.size w w' := by
  have hwx : IntKind.i64.wrap (x : Int) = (x : Int) := IntWalk.i64_in _ (by omega)
  by_cases h : 96 ≤ x ∧ x < 128
  · rw [if_pos h]
    obtain ⟨h1, h2⟩ := h
    have d1 : decide ((96 : Int) ≤ (x : Int)) = true := by rw [decide_eq_true_eq]; omega
    have d2 : decide ((x : Int) < 128) = true := by rw [decide_eq_true_eq]; omega
    have hw1 : IntKind.i64.wrap ((x : Int) - 96) = (x : Int) - 96 := IntWalk.i64_in _ (by omega)
    have hw2 : IntKind.i64.wrap ((x : Int) - 96 + 1) = (x : Int) - 96 + 1 := IntWalk.i64_in _ (by omega)
    have he : ((x - 95 : Nat) : Int) = (x : Int) - 96 + 1 := by omega
    rw [he]
    go_enter Tryd.func21, Tryd.ntmps21
    go_wp2_with fail
    go_ret
    exact ⟨rfl, Below.refl _ _⟩
  · rw [if_neg h]
    by_cases h1 : 96 ≤ x
    · have d1 : decide ((96 : Int) ≤ (x : Int)) = true := by rw [decide_eq_true_eq]; omega
      have d2 : decide ((x : Int) < 128) = false := by rw [decide_eq_false_iff_not]; omega
      go_enter Tryd.func21, Tryd.ntmps21
      go_wp2_with fail
      go_ret
      exact ⟨rfl, Below.refl _ _⟩
    · have d1 : decide ((96 : Int) ≤ (x : Int)) = false := by rw [decide_eq_false_iff_not]; omega
      go_enter Tryd.func21, Tryd.ntmps21
      go_wp2_with fail
      go_ret
      exact ⟨rfl, Below.refl _ _⟩
end Go.Proofs.YtkgfijdodbkkgaaDoor
