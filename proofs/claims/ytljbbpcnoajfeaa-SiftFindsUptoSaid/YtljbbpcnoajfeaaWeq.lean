/- Words by ==. -/
import Derived.Test.YtljbbpcnoajfeaaLits
import Derived.Test.YtljbbpcnoajfeaaPackA
set_option linter.unusedSimpArgs false
set_option linter.unusedVariables false
namespace Go.Proofs.Ytljbbpcnoajfeaa
open Go.RowKit
theorem eqWN (N M : Nat) (hN : N < W256) (hM : M < W256) (w1 : World) : (binOp .eql 142 (.agg (wcs N).toArray) (.agg (wcs M).toArray)).run Try.prog w1 = .ok (.bool (decide (N = M))) w1 := by
  have h := run_eqA (P := Try.prog) (w := w1) (t := 142) (e := 44) (n := 4) (k := .u64) Try.underlying142 Try.underlying44 (by kernel_rfl) (limI N) (limI M) rfl rfl
  rw [limI_eq N M hN hM] at h
  exact h
theorem guardWN (N M : Nat) (o1 o2 : Operand) (w1 : World) : (eqGuard .eql 142 o1 o2 (.agg (wcs N).toArray) (.agg (wcs M).toArray)).run Try.prog w1 = .ok () w1 :=
  run_eqGuard_agg (P := Try.prog) (w := w1) .eql 142 o1 o2 _ _ (by kernel_rfl)
theorem neWN (N M : Nat) (hN : N < W256) (hM : M < W256) (w1 : World) : (binOp .neq 142 (.agg (wcs N).toArray) (.agg (wcs M).toArray)).run Try.prog w1 = .ok (.bool (!decide (N = M))) w1 := by
  have h := run_neA (P := Try.prog) (w := w1) (t := 142) (e := 44) (n := 4) (k := .u64) Try.underlying142 Try.underlying44 (by kernel_rfl) (limI N) (limI M) rfl rfl
  rw [limI_eq N M hN hM] at h
  exact h
theorem guardNeWN (N M : Nat) (o1 o2 : Operand) (w1 : World) : (eqGuard .neq 142 o1 o2 (.agg (wcs N).toArray) (.agg (wcs M).toArray)).run Try.prog w1 = .ok () w1 :=
  run_eqGuard_agg (P := Try.prog) (w := w1) .neq 142 o1 o2 _ _ (by kernel_rfl)
end Go.Proofs.Ytljbbpcnoajfeaa
