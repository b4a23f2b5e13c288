/- hex.Parse. -/
import Derived.Test.YtgmdbleeagfhpaaHex4
import Derived.Test.YtgmdbleeagfhpaaNib3
set_option linter.unusedSimpArgs false
set_option linter.unusedVariables false
namespace Go.Proofs.Ytgmdbleeagfhpaa
open Go.RowKit
def parseOk (L : List UInt8) : Bool := okH L && (L.length % 2 == 0)
def parseR (L : List UInt8) : List UInt8 := if parseOk L = true then joinL ((L.drop 2).map dg) else []
def parseE (L : List UInt8) : Int := if parseOk L = true then 0 else 1
theorem parse_yes {L : List UInt8} (h : parseOk L = true) : parseR L = joinL ((L.drop 2).map dg) ∧ parseE L = 0 := by unfold parseR parseE; simp [h]
theorem parse_no {L : List UInt8} (h : parseOk L = false) : parseR L = [] ∧ parseE L = 1 := by unfold parseR parseE; simp [h]
theorem okH_len {L : List UInt8} (h : okH L = true) : 2 ≤ L.length := by
  unfold okH at h; rw [decide_eq_true_eq] at h; exact h.1
theorem okH_dg {L : List UInt8} (h : okH L = true) (j : Nat) (hj : j < ((L.drop 2).map dg).length) : (((L.drop 2).map dg)[j]).toNat ≤ 15 := by
  unfold okH at h; rw [decide_eq_true_eq] at h
  simp only [List.length_map, List.length_drop] at hj
  have := h.2 (2 + j) (by omega)
  unfold fineP at this
  rw [if_neg (by omega), if_neg (by omega)] at this
  simp only [List.getElem_map, List.getElem_drop]
  omega
end Go.Proofs.Ytgmdbleeagfhpaa
