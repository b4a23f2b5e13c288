/- In regions that draw their order: a whole array out of the middle of a block; '!='. Lemmas of my own with no program in sight. -/
import Derived.Test.YtohenjgegkgncaaHeld
import Derived.Deep.MidRow
set_option linter.unusedSimpArgs false
set_option linter.unusedVariables false
namespace Go.Proofs.Ytohenjgegkgncaa
open Go.RowKit
theorem const_loadm {P : Program} {o : Oper} {a : Act} {w : World} (ty : TypeId) (x : Operand) (ho : o.op = .load ty x) (b off : Nat) (hx : a.eval x = .pointer (some ⟨b, off, none⟩)) {n : Nat} (hty : Agg P ty n) {cs : List Value} (hn : cs.length = n) (hc : w.rangeAt b off cs) :
    constAt P o a w (.agg cs.toArray) := by
  obtain ⟨d, h1, h2, h3⟩ := hty
  unfold constAt execOp
  simp only [ho, hx, Instr.loadAt, Instr.sureAddr, Sem.run_bind, Sem.run_pure, Result.andThen_ok, run_loadVar_mid (P := P) w b off ty cs d hc h1 (by cases d <;> simp_all) (by rw [h3, hn])]
  exact ⟨rfl, rfl⟩
theorem const_neq {P : Program} {o : Oper} {a : Act} {w : World} {v v' u : Value} (ty : TypeId) (x y : Operand) (t : TypeId) (ho : o.op = .binOp .neq ty x y t) (hx : a.eval x = v) (hy : a.eval y = v')
    (hg : ∀ o1 o2 w1, (eqGuard .neq ty o1 o2 v v').run P w1 = .ok () w1) (hq : ∀ w1, (binOp .neq ty v v').run P w1 = .ok u w1) : constAt P o a w u := by
  unfold constAt execOp
  simp only [ho, hx, hy, Sem.run_bind, hg, hq, Result.andThen_ok, Sem.run_pure]
  exact ⟨rfl, rfl⟩
/-- An element's cells, as a range. -/
theorem RowOf.range {α : Type} {f : α → List Value} {size : Nat} (hf : ∀ x, (f x).length = size) {w : World} {a : Option Addr} {n c : Nat} {l : List α} (h : RowOf f size w (.slice a n c) l) (k : Nat) (hk : k < l.length) :
    ∃ b off, a = some ⟨b, off, none⟩ ∧ w.rangeAt b (off + k * size) (f l[k]) := by
  obtain ⟨b, off, ha, hc⟩ := h.cells hf k hk
  exact ⟨b, off, ha, fun j v hv => by rw [Nat.add_assoc]; exact hc j v hv⟩
theorem World.rangeAt.below {w w' : World} {b o : Nat} {cs : List Value} (h : w.rangeAt b o cs) (hb : Below w.heap.size w w') : w'.rangeAt b o cs := fun j v hv => by
  have := h j v hv
  rw [hb.cell (World.block_lt_of_cell? w _ this)]; exact this
theorem rangeAt.ext {w : World} {b o : Nat} {cs : List Value} (h : w.rangeAt b o cs) (u : Ext w) : u.val.rangeAt b o cs := World.rangeAt.below h u.property
/-- A whole array is loaded in a plain region, also behind a guard that holds. -/
theorem wpList_loadW {P : Program} {w : World} {ops : Array Oper} {rest : List Oper} {o : Oper} {a : Act} {Q : Exit → Act → World → Prop} (ty : TypeId) (x : Operand) (ho : o.op = .load ty x) (b off : Nat) (hx : a.eval x = .pointer (some ⟨b, off, none⟩))
    {n : Nat} (hty : Agg P ty n) {cs : List Value} (hn : cs.length = n) (hc : w.rangeAt b off cs) (hw : Region.wanted o (yielded ops a.tmps) = true)
    (h : wpList P ops Q rest (a.put o.dst (.agg cs.toArray)) w) : wpList P ops Q (o :: rest) a w := by
  obtain ⟨d, h1, h2, h3⟩ := hty
  refine wpList_step fun K hK => ?_
  rw [if_pos hw]
  exact wp_load_mid ty x ho b off hx cs d hc h1 (by cases d <;> simp_all) (by rw [h3, hn]) (hK _ _ h)
end Go.Proofs.Ytohenjgegkgncaa
