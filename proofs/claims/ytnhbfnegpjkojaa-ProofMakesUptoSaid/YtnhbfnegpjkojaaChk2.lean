/- proof.next. -/
import Derived.Test.YtnhbfnegpjkojaaChk1
import Derived.Test.YtnhbfnegpjkojaaNib1
set_option linter.unusedSimpArgs false
set_option linter.unusedVariables false
namespace Go.Proofs.Ytnhbfnegpjkojaa
open Go.RowKit
def NextPost (o : List UInt8 × List UInt8 × List UInt8) (w : World) (e : Ending) (w' : World) : Prop :=
  ∃ (a1 : Option Addr) (c1 : Nat) (a2 : Option Addr) (c2 : Nat) (a3 : Option Addr) (c3 : Nat), e = .returned (.tuple #[.slice a1 o.1.length c1, .slice a2 o.2.1.length c2, .slice a3 o.2.2.length c3]) ∧ Below w.heap.size w w' ∧
    Bytes w' (.slice a1 o.1.length c1) o.1 ∧ Bytes w' (.slice a2 o.2.1.length c2) o.2.1 ∧ Bytes w' (.slice a3 o.2.2.length c3) o.2.2
theorem bdr {B : Nat} {a w : World} (h : Below B a w) (n : Nat) : Below B a (w.drewN n) := h.trans ⟨rfl, rfl, rfl, Nat.le_refl _, fun _ _ => rfl⟩
section
variable (pa va ka qa : Option Addr) (pn pc vn vc kn kc qn qc : Nat) (p v q : List UInt8) (ps : List (Value × List UInt8)) (hpn : p.length = pn) (hvn : v.length = vn) (hkn : ps.length = kn) (hqn : q.length = qn)
  (w : World) (hp : Bytes w (.slice pa pn pc) p) (hv : Bytes w (.slice va vn vc) v) (hk : Texts w (.slice ka kn kc) ps) (hq : Bytes w (.slice qa qn qc) q)
end
end Go.Proofs.Ytnhbfnegpjkojaa
