/- tree.get of any right tree. -/
import Derived.Test.YtcgpjceopnfahaaGet3
set_option linter.unusedSimpArgs false
set_option linter.unusedVariables false
namespace Go.Proofs.Ytcgpjceopnfahaa
open Go.RowKit
def SlG (l : List UInt8) : Ty := fun v w => ∃ (a : Option Addr) (n c : Nat), v = .slice a n c ∧ Bytes w (.slice a n c) l
theorem SlG.mono (l : List UInt8) : Mono (SlG l) := fun _ _ _ ⟨a, n, c, h, h2⟩ hb => ⟨a, n, c, h, h2.below hb⟩
def getF (v : List UInt8) (ks : List Nd) : List UInt8 → List UInt8
  | [] => v
  | x :: q => getL ks x.toNat q
theorem below_dr {B : Nat} {a w : World} (h : Below B a w) (n : Nat) : Below B a (w.drewN n) := h.trans ⟨rfl, rfl, rfl, Nat.le_refl _, fun _ _ => rfl⟩
section
variable (pa va qa : Option Addr) (pn pc vn vc qn qc : Nat) (p v q : List UInt8) (w : World)
end
end Go.Proofs.Ytcgpjceopnfahaa
