/- A region that draws its order and whose operations read, and call functions that hand back plain values and change nothing that was there: one walk in the order of the text. No program in sight. -/
import Derived.Test.YtohenjgegkgncaaLib
set_option linter.unusedSimpArgs false
set_option linter.unusedVariables false
namespace Go.Proofs.Ytohenjgegkgncaa
open Go.RowKit
/-- The worlds in which nothing that was there in 'w0' has changed. -/
def Ext (w0 : World) : Type := { w' : World // Below w0.heap.size w0 w' }
instance (w0 : World) : Nonempty (Ext w0) := ⟨⟨w0, Below.refl _ _⟩⟩
def Ext.val {w0 : World} (u : Ext w0) : World := Subtype.val u
theorem Ext.bel {w0 : World} (u : Ext w0) : Below w0.heap.size w0 u.val := u.property
def ExtC (w0 : World) : World → Prop := fun w' => ∃ u : Ext w0, w' = u.val
section
variable {P : Program}
theorem wp_region_ext (w0 : World) {id : Nat} {Q : Exit → Act → World → Prop} {a : Act} {w : World} {l : List Oper} (hm : P.follows .mixedOrders = true) (hB : Region.lexB .any l.toArray = true) (hw : Below w0.heap.size w0 w)
    (h : wpQuiet P l.toArray (fun w' => ∃ u : Ext w0, w' = u.val) (fun a' => ∀ w', Below w0.heap.size w0 w' → Q .normal a' w') l a) : (Code.region id l.toArray true).wp P Q a w :=
  wp_region_quiet (C := fun w' => ∃ u : Ext w0, w' = u.val) hm hB ⟨(⟨{ w with drawn := w.drawn + 1 }, ⟨hw.os, hw.tape, hw.output, hw.size, hw.block⟩⟩ : Ext w0), rfl⟩
    (by
      have key : ∀ (l' : List Oper) (a' : Act), wpQuiet P l.toArray (fun w' => ∃ u : Ext w0, w' = u.val) (fun a' => ∀ w', Below w0.heap.size w0 w' → Q .normal a' w') l' a' →
          wpQuiet P l.toArray (fun w' => ∃ u : Ext w0, w' = u.val) (fun a' => ∀ w', (∃ u : Ext w0, w' = u.val) → Q .normal a' w') l' a' := by
        intro l'
        induction l' with
        | nil => intro a' h' w' ⟨u, hu⟩; rw [hu]; exact h' _ u.bel
        | cons o l' ih =>
          intro a' h'
          unfold wpQuiet at h' ⊢
          split
          · rename_i hw'
            rw [if_pos hw'] at h'
            exact Oper.quiet_mono (fun a ha => ih a ha) h'
          · rename_i hw'
            rw [if_neg hw'] at h'
            exact ih _ h'
      simpa using key l a h)
/-- A callee's contract, met in a world of the class. -/
theorem Calls.ext {w0 : World} {f : FuncId} {args : Array Value} {u : Ext w0} {v : Value}
    (h : Calls P f args u.val fun e w' => e = .returned v ∧ Below u.val.heap.size u.val w') : Calls P f args u.val fun e w'' => e = .returned v ∧ ∃ u' : Ext w0, w'' = u'.val :=
  h.mono fun _ w' ⟨he, hb⟩ => ⟨he, ⟨w', u.bel.trans (hb.mono u.bel.size)⟩, rfl⟩
theorem Calls.ext_same {w0 : World} {f : FuncId} {args : Array Value} {u : Ext w0} {v : Value}
    (h : Calls P f args u.val fun e w' => e = .returned v ∧ u.val = w') : Calls P f args u.val fun e w'' => e = .returned v ∧ ∃ u' : Ext w0, w'' = u'.val :=
  h.mono fun _ _ ⟨he, hb⟩ => ⟨he, u, hb.symm⟩
theorem Calls.ext_same' {w0 : World} {f : FuncId} {args : Array Value} {u : Ext w0} {v : Value}
    (h : Calls P f args u.val fun e w' => e = .returned v ∧ w' = u.val) : Calls P f args u.val fun e w'' => e = .returned v ∧ ∃ u' : Ext w0, w'' = u'.val :=
  h.mono fun _ _ ⟨he, hb⟩ => ⟨he, u, hb⟩
theorem Calls.ext_drew {w0 : World} {f : FuncId} {args : Array Value} {u : Ext w0} {v : Value}
    (h : Calls P f args u.val fun e w' => e = .returned v ∧ ∃ m, w' = u.val.drewN m) : Calls P f args u.val fun e w'' => e = .returned v ∧ ∃ u' : Ext w0, w'' = u'.val :=
  h.mono fun _ _ ⟨he, m, hm⟩ => ⟨he, (⟨u.val.drewN m, ⟨u.bel.os, u.bel.tape, u.bel.output, u.bel.size, u.bel.block⟩⟩ : Ext w0), hm⟩
theorem Ext.cell {w0 : World} (u : Ext w0) {p : Addr} {v : Value} (h : w0.cell? p = some v) : u.val.cell? p = some v := by
  rw [u.bel.cell (World.block_lt_of_cell? w0 _ h)]; exact h
theorem Ext.blk {w0 : World} (u : Ext w0) {e : TypeId} {g : Nat} {cs : List Value} (h : Blk e w0 g cs) : Blk e u.val g cs := h.kept u.bel
theorem Ext.row {α : Type} {f : α → List Value} {size : Nat} {w0 : World} (u : Ext w0) {v : Value} {l : List α} (h : RowOf f size w0 v l) : RowOf f size u.val v l := h.kept u.bel
/-- A whole array is loaded. -/
theorem wpQuiet_loadA {w0 : World} {ops : Array Oper} {Q : Act → Prop} {a : Act} {o : Oper} {rest : List Oper} (ty : TypeId) (x : Operand) (ho : o.op = .load ty x) (hwant : Region.wanted o (yielded ops a.tmps) = true)
    (g : Nat) (hx : a.eval x = .pointer (some ⟨g, 0, none⟩)) {n : Nat} (hty : Agg P ty n) {e : TypeId} {cs : List Value} (hb : Blk e w0 g cs) (hn : cs.length = n)
    (h : wpQuiet P ops (fun w' => ∃ u : Ext w0, w' = u.val) Q rest (a.put o.dst (.agg cs.toArray))) : wpQuiet P ops (fun w' => ∃ u : Ext w0, w' = u.val) Q (o :: rest) a := by
  obtain ⟨d, h1, h2, h3⟩ := hty
  unfold wpQuiet
  rw [if_pos hwant]
  refine ⟨_, fun w' ⟨u, hu⟩ => ?_, h⟩
  subst hu
  unfold Oper.quietAt execOp
  simp only [ho, hx, Instr.loadAt, Instr.sureAddr, Sem.run_bind, Sem.run_pure, Result.andThen_ok, run_loadVar_row (P := P) u.val g e ty cs.toArray (0, 0) d (u.blk hb) h1 (by cases d <;> simp_all) (by rw [h3]; simp [hn])]
  exact ⟨rfl, rfl⟩
end
end Go.Proofs.Ytohenjgegkgncaa
