/- Parts of lists. -/
import Derived.Test.YtljbbpcnoajfeaaBase
set_option linter.unusedSimpArgs false
set_option linter.unusedVariables false
namespace Go.Proofs.Ytljbbpcnoajfeaa
open Go.RowKit
/-- the parts -/
theorem mid_drop {α : Type} (a b c : List α) (n m : Nat) (hn : a.length = n) (hm : b.length = m) : ((a ++ (b ++ c)).drop n).take m = b := by
  rw [List.drop_left' hn, List.take_left' hm]
theorem end_drop {α : Type} (a b : List α) (n m : Nat) (hn : a.length = n) (hm : b.length = m) : ((a ++ b).drop n).take m = b := by
  rw [List.drop_left' hn, List.take_of_length_le (by omega)]
end Go.Proofs.Ytljbbpcnoajfeaa
