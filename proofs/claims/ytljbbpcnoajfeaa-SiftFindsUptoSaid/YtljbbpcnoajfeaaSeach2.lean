/- sponge.Each, the reference's SEach. -/
import Derived.Test.YtljbbpcnoajfeaaSeach1
set_option linter.unusedSimpArgs false
set_option linter.unusedVariables false
namespace Go.Proofs.Ytljbbpcnoajfeaa
open Go.RowKit
theorem tops_row (l : List UInt8) (C : List Value) (hC : C = scs l) (w : World) : RowOf scs 32 (w.alloc (.cells C.toArray 43)) (.slice (some ⟨w.heap.size, 0, none⟩) 1 1) [l] := by
  subst hC
  have h := Row.made w 32 ([l].flatMap scs) 43 1 (by simp [scs_len]) (by unfold maxLen; omega)
  have e : [l].flatMap scs = scs l := by simp
  unfold RowOf
  rw [e] at h ⊢
  exact h
theorem HashAt.grown {P : List UInt8} {t g : Nat} {w w' : World} {row : Option Nat} (h : HashAt P t g w) (hg : w.grownBy w' row) (hne : row ≠ some g) : HashAt P t g w' := by
  obtain ⟨pt, h1, h2, h3⟩ := h
  exact ⟨pt, h1, h2, h3.grown hg hne⟩
theorem HashAt.alloc {P : List UInt8} {t g : Nat} {w : World} (h : HashAt P t g w) (o : Obj) : HashAt P t g (w.alloc o) := h.kept ((Below.refl _ _).alloc (Nat.le_refl _) o)
def EachPost (ps : List (Value × List UInt8)) (w : World) (e : Ending) (w' : World) : Prop := ∃ v, e = .returned v ∧ OwnOf scs 32 43 w' w.heap.size v (tops ps ps.length) ∧ Below w.heap.size w w'
end Go.Proofs.Ytljbbpcnoajfeaa
