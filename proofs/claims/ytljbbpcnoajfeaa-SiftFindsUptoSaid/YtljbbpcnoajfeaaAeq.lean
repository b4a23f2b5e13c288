/- Addresses by ==. -/
import Derived.Test.YtljbbpcnoajfeaaLits
import Derived.Test.YtljbbpcnoajfeaaBase
set_option linter.unusedSimpArgs false
set_option linter.unusedVariables false
namespace Go.Proofs.Ytljbbpcnoajfeaa
open Go.RowKit
theorem map_u8_injA (L M : List UInt8) : ((L.map fun x => (x.toNat : Int)) == (M.map fun x => (x.toNat : Int))) = (L == M) := by
  rw [Bool.eq_iff_iff]
  simp only [beq_iff_eq]
  constructor
  · intro e
    have inj : ∀ a b : UInt8, (a.toNat : Int) = (b.toNat : Int) → a = b := fun a b h => UInt8.toNat_inj.1 (by omega)
    apply List.ext_getElem?
    intro i
    have h1 := congrArg (fun l : List Int => l[i]?) e
    simp only [List.getElem?_map] at h1
    cases h3 : L[i]? with
    | none => rw [h3] at h1; cases h4 : M[i]? with
      | none => rfl
      | some y => rw [h4] at h1; simp at h1
    | some x => rw [h3] at h1; cases h4 : M[i]? with
      | none => rw [h4] at h1; simp at h1
      | some y => rw [h4] at h1; simp only [Option.map_some, Option.some.injEq] at h1; rw [inj x y h1]
  · intro e; rw [e]
theorem map_u8vA (K : List UInt8) : (K.map fun x => (x.toNat : Int)).map (Value.int .u8) = K.map u8v := by rw [List.map_map]; rfl
theorem run_ne_a (L M : List UInt8) (hl : L.length = 8) (hm : M.length = 8) (w1 : World) : (binOp .neq 46 (.agg (by8 L).toArray) (.agg (by8 M).toArray)).run Try.prog w1 = .ok (.bool (!(L == M))) w1 := by
  have := run_neA (P := Try.prog) w1 Try.underlying46 Try.underlying5 (by kernel_rfl) (L.map fun x => (x.toNat : Int)) (M.map fun x => (x.toNat : Int)) (by rw [List.length_map, hl]) (by rw [List.length_map, hm])
  rw [map_u8vA, map_u8vA, map_u8_injA] at this
  exact this
theorem run_eq_a (L M : List UInt8) (hl : L.length = 8) (hm : M.length = 8) (w1 : World) : (binOp .eql 46 (.agg (by8 L).toArray) (.agg (by8 M).toArray)).run Try.prog w1 = .ok (.bool (L == M)) w1 := by
  have := run_eqA (P := Try.prog) w1 Try.underlying46 Try.underlying5 (by kernel_rfl) (L.map fun x => (x.toNat : Int)) (M.map fun x => (x.toNat : Int)) (by rw [List.length_map, hl]) (by rw [List.length_map, hm])
  rw [map_u8vA, map_u8vA, map_u8_injA] at this
  exact this
theorem guard_ne_a (L M : List UInt8) (o1 o2 : Operand) (w1 : World) : (eqGuard .neq 46 o1 o2 (.agg (by8 L).toArray) (.agg (by8 M).toArray)).run Try.prog w1 = .ok () w1 :=
  run_eqGuard_agg (P := Try.prog) (w := w1) .neq 46 o1 o2 _ _ (by kernel_rfl)
theorem guard_eq_a (L M : List UInt8) (o1 o2 : Operand) (w1 : World) : (eqGuard .eql 46 o1 o2 (.agg (by8 L).toArray) (.agg (by8 M).toArray)).run Try.prog w1 = .ok () w1 :=
  run_eqGuard_agg (P := Try.prog) (w := w1) .eql 46 o1 o2 _ _ (by kernel_rfl)
end Go.Proofs.Ytljbbpcnoajfeaa
