/- word.sum, word.Add; math/bits.Mul64. -/
import Derived.Test.YtfedjbodcebdnaaWord12
import Derived.Shelf.Bits.Mul64
set_option linter.unusedSimpArgs false
set_option linter.unusedVariables false
namespace Go.Proofs.Ytfedjbodcebdnaa
open Go.RowKit
theorem box2 (w : World) (N M : Nat) : Blk 65 ((w.alloc (.cells (wcs N).toArray 65)).alloc (.cells (wcs M).toArray 65)) w.heap.size (wcs N) ∧
    Blk 65 ((w.alloc (.cells (wcs N).toArray 65)).alloc (.cells (wcs M).toArray 65)) (w.heap.size + 1) (wcs M) ∧
    Below w.heap.size w ((w.alloc (.cells (wcs N).toArray 65)).alloc (.cells (wcs M).toArray 65)) := by
  refine ⟨(boxW w N).alloc _, ?_, ((Below.refl _ _).alloc (Nat.le_refl _) _).alloc (by simp) _⟩
  have := Blk.new (w.alloc (.cells (wcs N).toArray 65)) 65 (wcs M)
  simpa using this
/-- Two words and a result: the world of a function of two words, at its start. -/
theorem box3 (w : World) (N M : Nat) : Blk 65 (((w.alloc (.cells (wcs N).toArray 65)).alloc (.cells (wcs M).toArray 65)).alloc (.cells z4.toArray 65)) w.heap.size (wcs N) ∧
    Blk 65 (((w.alloc (.cells (wcs N).toArray 65)).alloc (.cells (wcs M).toArray 65)).alloc (.cells z4.toArray 65)) (w.heap.size + 1) (wcs M) ∧
    Blk 65 (((w.alloc (.cells (wcs N).toArray 65)).alloc (.cells (wcs M).toArray 65)).alloc (.cells z4.toArray 65)) (w.heap.size + 2) z4 ∧
    Below w.heap.size w (((w.alloc (.cells (wcs N).toArray 65)).alloc (.cells (wcs M).toArray 65)).alloc (.cells z4.toArray 65)) := by
  refine ⟨((boxW w N).alloc _).alloc _, ?_, ?_, (((Below.refl _ _).alloc (Nat.le_refl _) _).alloc (by simp) _).alloc (by simp; omega) _⟩
  · have := Blk.new (w.alloc (.cells (wcs N).toArray 65)) 65 (wcs M)
    simpa using (this.alloc (.cells z4.toArray 65))
  · have := Blk.new ((w.alloc (.cells (wcs N).toArray 65)).alloc (.cells (wcs M).toArray 65)) 65 z4
    simpa using this
end Go.Proofs.Ytfedjbodcebdnaa
