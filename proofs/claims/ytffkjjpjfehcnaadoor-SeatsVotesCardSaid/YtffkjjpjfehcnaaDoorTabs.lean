/- What the tables of this translation say of its types. -/
import Derived.Test.YtffkjjpjfehcnaaDoorRows
import Derived.Test.YtffkjjpjfehcnaaDoorBase
set_option linter.unusedSimpArgs false
set_option linter.unusedVariables false
namespace Go.Proofs.YtffkjjpjfehcnaaDoor
theorem own : ownKnob Tryd.prog.godebug = none := by kernel_rfl
theorem laidOut : laidOutB Tryd.prog = true := by kernel_rfl
end Go.Proofs.YtffkjjpjfehcnaaDoor
