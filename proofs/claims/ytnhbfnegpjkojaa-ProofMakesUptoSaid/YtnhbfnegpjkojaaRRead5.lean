/- root.shape of a road. -/
import Derived.Test.YtnhbfnegpjkojaaRRead3
set_option linter.unusedSimpArgs false
set_option linter.unusedVariables false
namespace Go.Proofs.Ytnhbfnegpjkojaa
open Go.RowKit
end Go.Proofs.Ytnhbfnegpjkojaa
