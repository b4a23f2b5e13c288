/- What the tables of this translation say of its types. -/
import Derived.Test.YtkgfijdodbkkgaaDoorRows
import Derived.Test.YtkgfijdodbkkgaaDoorBase
set_option linter.unusedSimpArgs false
set_option linter.unusedVariables false
namespace Go.Proofs.YtkgfijdodbkkgaaDoor
theorem elU8 : El Tryd.prog 22 5 (.int .u8 0) 1 1 b8 := ⟨by kernel_rfl, by kernel_rfl, rfl, by omega, fun _ => rfl, one_b8⟩
theorem own : ownKnob Tryd.prog.godebug = none := by kernel_rfl
theorem laidOut : laidOutB Tryd.prog = true := by kernel_rfl
end Go.Proofs.YtkgfijdodbkkgaaDoor
