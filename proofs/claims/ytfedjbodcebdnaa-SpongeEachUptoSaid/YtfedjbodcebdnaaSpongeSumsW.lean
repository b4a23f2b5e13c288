/- The walk of the law SpongeSums. -/
import Derived.Test.YtfedjbodcebdnaaSum5
import Derived.Test.YtfedjbodcebdnaaEq
set_option linter.unusedSimpArgs false
set_option linter.unusedVariables false
namespace Go.Proofs.Ytfedjbodcebdnaa
open Go.RowKit
theorem run_eq_agg (l : List UInt8) (hl : l.length = 32) (w1 : World) : (binOp .eql 28 (.agg (l.map u8v).toArray) (.agg (l.map u8v).toArray)).run Try.prog w1 = .ok (.bool true) w1 := by
  have h2 : (l.map fun x => (x.toNat : Int)).map (Value.int .u8) = l.map u8v := by rw [List.map_map]; rfl
  have := run_eqA (P := Try.prog) w1 Try.underlying28 Try.underlying5 (by kernel_rfl) (l.map fun x => (x.toNat : Int)) (l.map fun x => (x.toNat : Int)) (by rw [List.length_map, hl]) (by rw [List.length_map, hl])
  rw [h2, beq_self_eq_true] at this
  exact this
theorem guard_agg (l : List UInt8) (o1 o2 : Operand) (w1 : World) : (eqGuard .eql 28 o1 o2 (.agg (l.map u8v).toArray) (.agg (l.map u8v).toArray)).run Try.prog w1 = .ok () w1 := by
  exact run_eqGuard_agg (P := Try.prog) (w := w1) .eql 28 o1 o2 _ _ (by kernel_rfl)
end Go.Proofs.Ytfedjbodcebdnaa
