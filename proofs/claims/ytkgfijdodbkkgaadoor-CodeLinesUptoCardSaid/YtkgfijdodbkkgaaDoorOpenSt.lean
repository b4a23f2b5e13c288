/- A slice of strings read out of the arguments. -/
import Derived.Test.YtkgfijdodbkkgaaDoorOpenA
import Derived.Test.YtkgfijdodbkkgaaDoorCname4
import Derived.ChangeMaps5
set_option linter.unusedSimpArgs false
set_option linter.unusedVariables false
namespace Go.Proofs.YtkgfijdodbkkgaaDoor
open Go.ChangeShapes Go.WideShapes Go.ChangeAt Go.RowKit
section
variable {H : Type} {enc : TypeId × Value → H} {P : Program} {W : World}
def SzSt (d : DataW H) (ls : List (List UInt8)) : Prop := SzL (fun d l => d = .lit (.string l)) d ls
theorem open_strs {t e : TypeId} (ht : P.underlying t = some (.slice e)) (he : P.underlying e = some .string) (hc : P.cellsOf e = 1) {r : Reach} {b0 : Nat} {v : Value} {d : DataW H} {p : List MemPlace}
    (hv : Value.okWide P W r b0 t v) (h : DataW.Trod enc P W 0 (fun _ => true) true t v d p) : ∃ ls, RowOf fcell 1 W v ls ∧ SzSt d ls := by
  obtain ⟨fuel, hf⟩ := h
  obtain ⟨v', ls, h1, h2, h3, h4⟩ := open_rows (f := fcell) (good := fun _ => True) (sz := fun d l => d = .lit (.string l)) ht hc (by omega) (fun _ => rfl) hf (fun n _ cs' x' hx => by
    obtain ⟨s, h1, h2, _⟩ := DataW.trod_string he hx
    exact ⟨s.data.toList, by rw [h1]; rfl, trivial, by rw [h2]⟩)
  obtain rfl : v = v' := one_val h1 (by obtain ⟨a, len, cap, hh⟩ := okWide_slice ht hv; exact ⟨a, len, cap, hh⟩)
  exact ⟨ls, h2, h4⟩
theorem upto_strs {d : DataW H} {ls : List (List UInt8)} (h : SzSt d ls) : (ls.map fun l => l.length + 1).sum ≤ Rows.uptoBulk d :=
  upto_rows (m := fun l : List UInt8 => l.length + 1) (fun d l hd => by rw [hd]; exact Nat.le_refl _) h
end
end Go.Proofs.YtkgfijdodbkkgaaDoor
