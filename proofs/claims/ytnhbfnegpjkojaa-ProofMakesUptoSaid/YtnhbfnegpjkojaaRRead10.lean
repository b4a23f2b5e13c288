/- The reference's HRead: two shapes are tried. -/
import Derived.Test.YtnhbfnegpjkojaaRRead9
import Derived.Test.YtnhbfnegpjkojaaCuts
set_option linter.unusedSimpArgs false
set_option linter.unusedVariables false
namespace Go.Proofs.Ytnhbfnegpjkojaa
open Go.RowKit
/-- a shape that may be tried -/
structure TrS (B : Nat) (w : World) (s : Shp) : Prop where
  far : ∀ x, s.kv.ownBlock = some x → x ≠ B
  is : IsShp w s
  hp : s.p.length ≤ 4194304
  hv : s.v.length ≤ 1048576
  hk : s.ps.length ≤ 1048576
  hks : ∀ q ∈ s.ps, q.2.length ≤ 1048576
theorem IsShp.below {w w' : World} {s : Shp} (h : IsShp w s) (hb : Below w.heap.size w w') : IsShp w' s := ⟨h.hp.below hb, h.hv.below hb, h.hk.below hb⟩
theorem TrS.zero (B : Nat) (w : World) : TrS B w zShp := ⟨by intro x hx; simp [zShp, Value.ownBlock] at hx, zShp_is w, by simp [zShp], by simp [zShp], by simp [zShp], by simp [zShp]⟩
theorem TrS.two {B : Nat} {w : World} {s : Shp} (h : TrS B w s) : ∀ x ∈ [zShp, s], TrS B w x := fun x hx => by
  simp only [List.mem_cons, List.not_mem_nil, or_false] at hx
  rcases hx with rfl | rfl
  · exact TrS.zero B w
  · exact h
def OneS (s : Shp) : Ty := fun u w => ∃ g, u = .slice (some ⟨g, 0, none⟩) 1 1 ∧ RowOf shcells 4 w u [s]
theorem OneS.mono (s : Shp) : Mono (OneS s) := fun _ _ _ ⟨g, h1, h2⟩ hb => ⟨g, h1, RowOf.kept h2 hb⟩
end Go.Proofs.Ytnhbfnegpjkojaa
