/- Shapes as data. -/
import Derived.Test.YtnhbfnegpjkojaaOpenA
set_option linter.unusedSimpArgs false
set_option linter.unusedVariables false
namespace Go.Proofs.Ytnhbfnegpjkojaa
open Go.RowKit
structure Shp where
  kd : Int
  pv : Value
  p : List UInt8
  vv : Value
  v : List UInt8
  kv : Value
  ps : List (Value × List UInt8)
def shcells (s : Shp) : List Value := [.int .i64 s.kd, s.pv, s.vv, s.kv]
structure IsShp (w : World) (s : Shp) : Prop where
  hp : Bytes w s.pv s.p
  hv : Bytes w s.vv s.v
  hk : Texts w s.kv s.ps
structure ShLe (s : Shp) (N : Nat) : Prop where
  hp : s.p.length ≤ N
  hv : s.v.length ≤ N
  hk : s.ps.length ≤ N
  hks : ∀ q ∈ s.ps, q.2.length ≤ N
theorem ShLe.le {s : Shp} {N M : Nat} (h : ShLe s N) (hm : N ≤ M) : ShLe s M := ⟨Nat.le_trans h.hp hm, Nat.le_trans h.hv hm, Nat.le_trans h.hk hm, fun q hq => Nat.le_trans (h.hks q hq) hm⟩
end Go.Proofs.Ytnhbfnegpjkojaa
