/- Orders of worlds for the law of XTurn. No program in sight. -/
import Derived.Test.YtgmdbleeagfhpaaTurn
set_option linter.unusedSimpArgs false
set_option linter.unusedVariables false
namespace Go.Proofs.Ytgmdbleeagfhpaa
open Go.RowKit
/-- Nothing that was there has changed. -/
def belLe : Turn.Le := ⟨fun w w' => Below w.heap.size w w', fun w => Below.refl _ w, fun h k => h.trans (k.mono h.size), fun h => h.size⟩
theorem belLe.bel {w0 : World} (u : In (belLe.r w0)) : Below w0.heap.size w0 u.val := u.held
theorem belLe.cell {w0 : World} {p : Addr} {v : Value} (h : w0.cell? p = some v) (u : In (belLe.r w0)) : u.val.cell? p = some v := by
  rw [(belLe.bel u).cell (World.block_lt_of_cell? w0 _ h)]; exact h
/-- These slots hold blocks of their own. -/
def ownOnly (l : List Tmp) : Turn.Own := fun t => if l.contains t then some [] else none
theorem ownOnly_ok (l : List Tmp) (w0 : World) : Turn.OldOk (ownOnly l) w0 := by
  refine ⟨fun s t Os Ot _ hs ht g hg => ?_, fun t Os ht g hg => ?_⟩
  · unfold ownOnly at hs
    split at hs
    · cases hs; cases hg
    · cases hs
  · unfold ownOnly at ht
    split at ht
    · cases ht; cases hg
    · cases ht
/-- A new block's pointer. -/
def NewPtr (e : TypeId) (cs : List Value) (B : Nat) : Ty := fun v w => ∃ g, v = .pointer (some ⟨g, 0, none⟩) ∧ B ≤ g ∧ Blk e w g cs
theorem NewPtr.mono (e : TypeId) (cs : List Value) (B : Nat) : Turn.Mono belLe (NewPtr e cs B) := by
  rintro v w w' ⟨g, rfl, hB, hb⟩ h
  exact ⟨g, rfl, hB, hb.kept h⟩
/-- An 'alloc' (or a box): a new block. -/
theorem good_new {P : Program} {F : Turn.Own} {d : Tmp} {w0 w : World} (h : belLe.r w0 w) (e : TypeId) (cs : List Value) :
    Turn.goodUpon belLe P (fun u w' => NewPtr e cs w0.heap.size u w' ∧ Turn.Born F (some d) w.heap.size u w') w (.ok (.value (.pointer (some ⟨w.heap.size, 0, none⟩))) (w.alloc (.cells cs.toArray e))) := by
  have hb : Below w.heap.size w (w.alloc (.cells cs.toArray e)) := (Below.refl _ _).alloc (Nat.le_refl _) _
  refine ⟨hb, ⟨_, rfl, belLe.size h, Blk.new w e cs⟩, ?_⟩
  intro t Os _ _ g hg
  simp only [Turn.blkOf, Option.some.injEq] at hg
  subst hg
  exact ⟨by simp, .inl (Nat.le_refl _)⟩
end Go.Proofs.Ytgmdbleeagfhpaa
