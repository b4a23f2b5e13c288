/- The reference's WSub. -/
import Derived.Test.YtohenjgegkgncaaWord9
import Derived.Test.YtohenjgegkgncaaRow
set_option linter.unusedSimpArgs false
set_option linter.unusedVariables false
namespace Go.Proofs.Ytohenjgegkgncaa
open Go.RowKit
theorem z4_zero : wcs 0 = z4 := wcs_small 0 (by omega)
/-- The worlds behind w0. -/
def Beh (w0 : World) : World → Prop := fun w' => Below w0.heap.size w0 w'
theorem Beh.cell {w0 : World} {p : Addr} {v : Value} (h : w0.cell? p = some v) : ∀ u : In (Beh w0), u.val.cell? p = some v := fun u => by
  have hb : Below w0.heap.size w0 u.val := u.held
  rw [hb.cell (World.block_lt_of_cell? w0 _ h)]; exact h
end Go.Proofs.Ytohenjgegkgncaa
