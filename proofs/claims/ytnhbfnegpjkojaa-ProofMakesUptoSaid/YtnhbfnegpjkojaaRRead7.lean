/- root.shape, put together. -/
import Derived.Test.YtnhbfnegpjkojaaRRead4
import Derived.Test.YtnhbfnegpjkojaaRRead5
import Derived.Test.YtnhbfnegpjkojaaRRead6
set_option linter.unusedSimpArgs false
set_option linter.unusedVariables false
namespace Go.Proofs.Ytnhbfnegpjkojaa
open Go.RowKit
theorem unE_01 (b : List UInt8) : unE b = 0 ∨ unE b = 1 := by unfold unE; split <;> simp
end Go.Proofs.Ytnhbfnegpjkojaa
