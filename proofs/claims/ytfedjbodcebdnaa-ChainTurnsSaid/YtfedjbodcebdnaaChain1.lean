/- A header: its cells, '==' of headers, how a slice of them is read. -/
import Derived.Test.YtfedjbodcebdnaaAppT
import Derived.Test.YtfedjbodcebdnaaEq
import Derived.Test.YtfedjbodcebdnaaOpen2
import Derived.Test.YtfedjbodcebdnaaTabs
import Derived.MapViews
import Derived.DeepKeys2
set_option linter.unusedSimpArgs false
set_option linter.unusedVariables false
namespace Go.Proofs.Ytfedjbodcebdnaa
open Go.RowKit
theorem keyH : Try.prog.keyTypeAt 4 33 = true := by kernel_rfl
theorem tiledH : Try.prog.tiled 4 33 = true := by kernel_rfl
theorem cellsH : Try.prog.cellsOf 33 = 204 := by kernel_rfl
/-- a header: the letters that its cells hold -/
def Hdr := {l : List Lit // Try.prog.keyLits 4 33 (l.map Lit.toCell) = some l}
noncomputable instance : DecidableEq Hdr := fun _ _ => Classical.propDecidable _
def hdc (h : Hdr) : List Value := h.1.map Lit.toCell
theorem keyLits_len {P : Program} {D : Nat} {t : TypeId} {fs : Array Field} {cs : List Value} {l : List Lit} (hu : P.underlying t = some (.struct fs)) (h : P.keyLits D t cs = some l) : cs.length = P.cellsOf t := by
  cases D with
  | zero => simp [Program.keyLits] at h
  | succ D =>
    unfold Program.keyLits at h
    simp only [hu] at h
    split at h
    · rename_i hh; exact hh.1
    · cases h
theorem hdc_len (h : Hdr) : (hdc h).length = 204 := by
  have := keyLits_len Try.underlying33 h.2
  rw [cellsH] at this
  exact this
theorem formedH (x : Hdr) : (Value.agg (hdc x).toArray).formed Try.prog 33 = true := by
  unfold Value.formed
  simp only [show Try.prog.underlying 33 = some (.struct _) from Try.underlying33, cellsH, List.size_toArray, hdc_len, beq_self_eq_true]
theorem run_eqInH (x y : Hdr) (w : World) : (Op.equalIn 10000 33 (.agg (hdc x).toArray) (.agg (hdc y).toArray)).run Try.prog w = .ok (decide (x = y)) w := by
  obtain ⟨r, hr, hi⟩ := run_equalIn_deep 9996 4 33 keyH w 4 4 (.agg (hdc x).toArray) (.agg (hdc y).toArray) x.1 y.1 (formedH x) (formedH y) x.2 y.2
  have h2 : r = decide (x = y) := by
    rw [Bool.eq_iff_iff, hi, decide_eq_true_iff]
    exact (Subtype.ext_iff (a1 := x) (a2 := y)).symm
  rw [← h2]
  exact hr
theorem run_eqH (x y : Hdr) (w : World) : (binOp .eql 33 (.agg (hdc x).toArray) (.agg (hdc y).toArray)).run Try.prog w = .ok (.bool (decide (x = y))) w := by
  rw [run_eql_struct, run_eqInH]; rfl
theorem run_neH (x y : Hdr) (w : World) : (binOp .neq 33 (.agg (hdc x).toArray) (.agg (hdc y).toArray)).run Try.prog w = .ok (.bool (!decide (x = y))) w := by
  rw [run_neq_struct, run_eqInH]; rfl
theorem guard_eqH (x y : Hdr) (o1 o2 : Operand) (w1 : World) : (eqGuard .eql 33 o1 o2 (.agg (hdc x).toArray) (.agg (hdc y).toArray)).run Try.prog w1 = .ok () w1 := by
  exact run_eqGuard_agg (P := Try.prog) (w := w1) .eql 33 o1 o2 _ _ (by kernel_rfl)
theorem guard_neH (x y : Hdr) (o1 o2 : Operand) (w1 : World) : (eqGuard .neq 33 o1 o2 (.agg (hdc x).toArray) (.agg (hdc y).toArray)).run Try.prog w1 = .ok () w1 := by
  exact run_eqGuard_agg (P := Try.prog) (w := w1) .neq 33 o1 o2 _ _ (by kernel_rfl)
theorem aggH : Agg Try.prog 33 204 := ⟨_, Try.underlying33, rfl, by kernel_rfl⟩
set_option maxRecDepth 100000 in
open Go.ChangeShapes Go.WideShapes Go.ChangeAt in
theorem open_headers {H : Type} {enc : TypeId × Value → H} {W : World} {r : Reach} {b0 : Nat} {v : Value} {d : DataW H} {p : List MemPlace}
    (hv : Value.okWide Try.prog W r b0 22 v) (h : DataW.Trod enc Try.prog W 0 (fun _ => true) true 22 v d p) : ∃ l : List Hdr, RowOf hdc 204 W v l ∧ SzL (fun _ _ => True) d l := by
  obtain ⟨fuel, hf⟩ := h
  obtain ⟨v', l, h1, h2, _, h3⟩ := open_rows (f := hdc) (good := fun _ => True) (sz := fun _ _ => True) Try.underlying22 cellsH (by omega) hdc_len hf (fun n _ cs' x' hx => by
    obtain ⟨g1, _⟩ := keyLits_of_trod 4 33 keyH n cs' x' hx
    have g2 := cells_of_lits 4 33 tiledH 4 cs' _ g1
    exact ⟨⟨x'.1.flat, by rw [← g2]; exact g1⟩, g2, trivial, trivial⟩)
  obtain rfl : v = v' := one_val h1 (by obtain ⟨a, len, cap, hh⟩ := okWide_slice Try.underlying22 hv; exact ⟨a, len, cap, hh⟩)
  exact ⟨l, h2, h3⟩
end Go.Proofs.Ytfedjbodcebdnaa
