/- code.Landings and the reference's LLandings. -/
import Derived.Test.YtkgfijdodbkkgaaDoorCode1
set_option linter.unusedSimpArgs false
set_option linter.unusedVariables false
namespace Go.Proofs.YtkgfijdodbkkgaaDoor
open Go.RowKit
/-- the landings from place i on, the next s bytes covered -/
def landF : List UInt8 → Nat → Nat → List Int
  | [], _, _ => []
  | _ :: t, i, s + 1 => landF t (i + 1) s
  | x :: t, i, 0 => (if x = 91 then [(i : Int)] else []) ++ landF t (i + 1) (push x)
theorem landF_nil (i s : Nat) : landF [] i s = [] := by unfold landF; rfl
theorem landF_skip : ∀ (t : List UInt8) (i s : Nat), landF t i s = landF (t.drop s) (i + s) 0
  | [], i, s => by rw [List.drop_nil, landF_nil, landF_nil]
  | x :: t, i, 0 => rfl
  | x :: t, i, s + 1 => by
    rw [landF, landF_skip t (i + 1) s, List.drop_succ_cons, show i + 1 + s = i + (s + 1) from by omega]
theorem landF_step (l : List UInt8) (k : Nat) (h : k < l.length) : landF (l.drop k) k 0 = (if l[k] = 91 then [(k : Int)] else []) ++ landF (l.drop (min (k + 1 + push l[k]) l.length)) (min (k + 1 + push l[k]) l.length) 0 := by
  rw [List.drop_eq_getElem_cons h, landF]
  congr 1
  rw [landF_skip, List.drop_drop]
  rcases Nat.lt_or_ge (k + 1 + push l[k]) l.length with h1 | h1
  · rw [Nat.min_eq_left (by omega)]
  · rw [Nat.min_eq_right h1, List.drop_eq_nil_of_le (by omega), List.drop_eq_nil_of_le (Nat.le_refl _), landF_nil, landF_nil]
end Go.Proofs.YtkgfijdodbkkgaaDoor
