/- Rows and blocks that lie apart from what grows. -/
import Derived.Test.YtljbbpcnoajfeaaBase
set_option linter.unusedSimpArgs false
set_option linter.unusedVariables false
namespace Go.Proofs.Ytljbbpcnoajfeaa
open Go.RowKit
theorem OwnOf.ltT {α : Type} {f : α → List Value} {size : Nat} {e : TypeId} {w : World} {B : Nat} {v : Value} {l : List α} (h : OwnOf f size e w B v l) : ∀ k, v.ownBlock = some k → k < w.heap.size := by
  intro k hk
  rcases h.2 with ⟨rfl, _⟩ | ⟨g, cap, cur, rfl, _, hg, _⟩
  · simp [Value.ownBlock] at hk
  · simp only [Value.ownBlock, Option.some.injEq] at hk
    subst hk
    exact (Array.getElem?_eq_some_iff.1 hg).1
theorem RowOf.offT {α : Type} {f : α → List Value} {size : Nat} {w w' : World} {v : Value} {g : Nat} {l : List α} (h : RowOf f size w v l) (hg : w.grownBy w' (some g)) (hne : ∀ x, v.ownBlock = some x → x ≠ g) : RowOf f size w' v l := by
  obtain ⟨a, c, rfl, _⟩ := h.form
  cases a with
  | none =>
    obtain ⟨h0, a, c', hv, h1, h2, h3⟩ := h
    simp only [Value.slice.injEq] at hv
    obtain ⟨rfl, _, rfl⟩ := hv
    refine ⟨h0, none, _, rfl, h1, h2, .inl ?_⟩
    rcases h3 with h3 | ⟨_, _, _, he, _⟩
    · exact h3
    · simp at he
  | some p =>
    obtain ⟨b, off, s⟩ := p
    exact h.grownNe hg (hne b rfl)
theorem RowOf.grownT {α : Type} {f : α → List Value} {size : Nat} {w w' : World} {v : Value} {l : List α} {row : Option Nat} (h : RowOf f size w v l) (hg : w.grownBy w' row) (hlt : ∀ x, v.ownBlock = some x → x < w.heap.size) (hne : ∀ x, v.ownBlock = some x → row ≠ some x) : RowOf f size w' v l := by
  cases row with
  | some g => exact h.offT hg (fun x hx e => hne x hx (by rw [e]))
  | none => exact h.offT (hg.but (some w.heap.size)) (fun x hx => Nat.ne_of_lt (hlt x hx))
theorem OwnOf.notT {α : Type} {f : α → List Value} {size : Nat} {e e' : TypeId} {w : World} {B g : Nat} {v : Value} {l : List α} {cs : List Value} (h : OwnOf f size e w B v l) (hz : Blk e' w g cs) (hne : e ≠ e') : v.ownBlock ≠ some g := by
  rcases h.2 with ⟨rfl, _⟩ | ⟨g', cap, cur, rfl, _, hg, _⟩
  · simp [Value.ownBlock]
  · intro e2
    simp only [Value.ownBlock, Option.some.injEq] at e2
    subst e2
    have hz2 : w.heap[g']? = some (.cells cs.toArray e' (0, 0)) := hz
    rw [hz2] at hg
    simp only [Option.some.injEq, Obj.cells.injEq] at hg
    exact hne hg.2.1.symm
theorem gsetT (w : World) (b i : Nat) (v : Value) : w.grownBy (w.setCell ⟨b, i, none⟩ v) (some b) :=
  ⟨rfl, rfl, rfl, by simp [World.setCell], fun k _ hk => Below.heap_setCell _ _ _ _ (fun e => hk (by simp [e]))⟩
/-- A whole array out of the middle of a block is loaded, first. -/
theorem take_loadm {P : Program} {S : World → Prop} {ops : Array Oper} {o : Oper} {a : Act} {K : Act → Prop} {E : Prop} (hgd : o.guard = none) (ty : TypeId) (x : Operand) (ho : o.op = .load ty x) (b off : Nat) (hx : a.eval x = .pointer (some ⟨b, off, none⟩)) {n : Nat} (hty : Agg P ty n)
    {cs : List Value} (hn : cs.length = n) (hb : ∀ u, S u → u.rangeAt b off cs) (h : K (a.put o.dst (.agg cs.toArray))) : if Region.wanted o (yielded ops a.tmps) then constI P S o a K else E := by
  have hw : Region.wanted o (yielded ops a.tmps) = true := by simp [Region.wanted, hgd]
  rw [if_pos hw]
  refine ⟨_, fun u => ?_, h⟩
  obtain ⟨d, h1, h2, h3⟩ := hty
  unfold constAtI execOp
  simp only [ho, hx, Instr.loadAt, Instr.sureAddr, Sem.run_bind, Sem.run_pure, Result.andThen_ok, run_loadVar_mid (P := P) u.val b off ty cs d (hb _ u.held) h1 (by cases d <;> simp_all) (by rw [h3, hn])]
end Go.Proofs.Ytljbbpcnoajfeaa
