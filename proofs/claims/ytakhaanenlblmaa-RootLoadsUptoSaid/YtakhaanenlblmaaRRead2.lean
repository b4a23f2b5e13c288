/- The reference's SameTexts and SameShape of like shapes: true. -/
import Derived.Test.YtakhaanenlblmaaRootA
import Derived.Test.YtakhaanenlblmaaSplD
set_option linter.unusedSimpArgs false
set_option linter.unusedVariables false
namespace Go.Proofs.Ytakhaanenlblmaa
open Go.RowKit
end Go.Proofs.Ytakhaanenlblmaa
