/- The reference's JJoin. -/
import Derived.Test.YtljbbpcnoajfeaaBloom5
set_option linter.unusedSimpArgs false
set_option linter.unusedVariables false
namespace Go.Proofs.Ytljbbpcnoajfeaa
open Go.RowKit
end Go.Proofs.Ytljbbpcnoajfeaa
