/- The walk of the law WordBytes. -/
import Derived.Test.YtfedjbodcebdnaaWord6
import Derived.OpenShut
set_option linter.unusedSimpArgs false
set_option linter.unusedVariables false
namespace Go.Proofs.Ytfedjbodcebdnaa
open Go.RowKit
theorem word_of (A : List Int) (hl : A.length = 4) (hw : ∀ x ∈ A, (Lit.int .u64 x).wf = true) : ∃ N, N < W256 ∧ A = limI N := by
  match A, hl with
  | [x0, x1, x2, x3], _ =>
    have h0 := bounds_u64 (hw x0 (by simp))
    have h1 := bounds_u64 (hw x1 (by simp))
    have h2 := bounds_u64 (hw x2 (by simp))
    have h3 := bounds_u64 (hw x3 (by simp))
    obtain ⟨y0, rfl⟩ := Int.eq_ofNat_of_zero_le h0.1
    obtain ⟨y1, rfl⟩ := Int.eq_ofNat_of_zero_le h1.1
    obtain ⟨y2, rfl⟩ := Int.eq_ofNat_of_zero_le h2.1
    obtain ⟨y3, rfl⟩ := Int.eq_ofNat_of_zero_le h3.1
    clear hw
    refine ⟨y0 + 18446744073709551616 * y1 + 340282366920938463463374607431768211456 * y2 + 6277101735386680763835789423207666416102355444464034512896 * y3, by unfold W256; omega, ?_⟩
    unfold limI
    rw [lim0, lim1, lim2, lim3]
    congr 1
    · omega
    · congr 1
      · omega
      · congr 1
        · omega
        · congr 1; omega
theorem qW (N : Nat) (w1 : World) : (binOp .eql 65 (wv N) (wv N)).run Try.prog w1 = .ok (.bool true) w1 := by
  have := run_eqA (P := Try.prog) w1 Try.underlying65 Try.underlying29 (by kernel_rfl) (limI N) (limI N) rfl rfl
  rw [beq_self_eq_true] at this; exact this
theorem gW (N M : Nat) (o1 o2 : Operand) (w1 : World) : (eqGuard .eql 65 o1 o2 (wv N) (wv M)).run Try.prog w1 = .ok () w1 := by
  exact run_eqGuard_agg (P := Try.prog) (w := w1) .eql 65 o1 o2 _ _ (by kernel_rfl)
end Go.Proofs.Ytfedjbodcebdnaa
