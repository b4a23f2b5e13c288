/- How a slice of numbers of 64 bits that comes in is read. -/
import Derived.Test.YtgjgokcpampljaaOpenA
import Derived.Test.YtgjgokcpampljaaSeatA
set_option linter.unusedSimpArgs false
set_option linter.unusedVariables false
namespace Go.Proofs.Ytgjgokcpampljaa
open Go.ChangeShapes Go.WideShapes Go.ChangeAt Go.RowKit
variable {H : Type} {enc : TypeId × Value → H} {P : Program} {W : World}
theorem open_u64s {t e : TypeId} (ht : P.underlying t = some (.slice e)) (he : P.underlying e = some (.int .u64)) (hc : P.cellsOf e = 1) {r : Reach} {b0 : Nat} {v : Value} {d : DataW H} {p : List MemPlace}
    (hv : Value.okWide P W r b0 t v) (h : DataW.Trod enc P W 0 (fun _ => true) true t v d p) : ∃ l : List Nat, RowOf u64c 1 W v l ∧ (∀ x ∈ l, x < 18446744073709551616) ∧ Sz d l.length := by
  obtain ⟨fuel, hf⟩ := h
  obtain ⟨v', l, h1, h2, h3, h4⟩ := open_rows (f := u64c) (good := fun x => x < 18446744073709551616) (sz := fun _ _ => True) ht hc (by omega) (fun _ => rfl) hf (fun n _ cs' x' hx => by
    obtain ⟨z, hz, _, hw⟩ := DataW.trod_int he hx
    have hb : 0 ≤ z ∧ z ≤ 18446744073709551615 := by simpa [Lit.wf, IntKind.min, IntKind.max, IntKind.signed, IntKind.bits] using hw
    refine ⟨z.toNat, ?_, by omega, trivial⟩
    rw [hz]; unfold u64c; rw [Int.toNat_of_nonneg hb.1])
  obtain rfl : v = v' := one_val h1 (by obtain ⟨a, len, cap, hh⟩ := okWide_slice ht hv; exact ⟨a, len, cap, hh⟩)
  exact ⟨l, h2, h3, h4.sz⟩
end Go.Proofs.Ytgjgokcpampljaa
