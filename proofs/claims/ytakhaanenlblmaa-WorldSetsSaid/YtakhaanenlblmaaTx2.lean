/- tx.number, tx.flag. -/
import Derived.Test.YtakhaanenlblmaaTx1
set_option linter.unusedSimpArgs false
set_option linter.unusedVariables false
namespace Go.Proofs.Ytakhaanenlblmaa
open Go.RowKit
/-- a text that the call made -/
def TxtP (T : List UInt8) (w : World) (e : Ending) (w' : World) : Prop := ∃ a m c, e = .returned (.agg #[.bool false, .slice a m c, .slice none 0 0]) ∧ TxB w.heap.size T (.slice a m c) w' ∧ Below w.heap.size w w'
end Go.Proofs.Ytakhaanenlblmaa
