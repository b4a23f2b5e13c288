/- A struct is built out of its parts; '==' and 'build' in plain regions. -/
import Derived.Test.YtljbbpcnoajfeaaBase
set_option linter.unusedSimpArgs false
set_option linter.unusedVariables false
namespace Go.Proofs.Ytljbbpcnoajfeaa
open Go.RowKit
theorem fold_lay : ∀ (L : List Value) (off j : Nat) (A X C : List Value), A.length = off + j → X.length = L.length → ((L.zipIdx j).foldl (fun (cs : Array Value) (p : Value × Nat) => cs.setIfInBounds (off + p.2) p.1) (A ++ (X ++ C)).toArray) = (A ++ (L ++ C)).toArray
  | [], off, j, A, X, C, hA, hX => by
    obtain rfl : X = [] := List.eq_nil_of_length_eq_zero (by simpa using hX)
    rfl
  | v :: L, off, j, A, X, C, hA, hX => by
    cases X with
    | nil => simp at hX
    | cons x X =>
      rw [List.zipIdx_cons, List.foldl_cons]
      have h1 : ((A ++ (x :: X ++ C)).toArray.setIfInBounds (off + j) v) = ((A ++ [v]) ++ (X ++ C)).toArray := by
        rw [List.setIfInBounds_toArray]
        congr 1
        rw [List.set_append_right _ _ (by omega), hA, Nat.sub_self]
        simp
      rw [h1, fold_lay L off (j + 1) (A ++ [v]) X C (by rw [List.length_append, hA]; simp; omega) (by simpa using hX)]
      congr 1
      simp
theorem fill_lay (place : Nat → Option (Nat × Nat)) (i off : Nat) (v : Value) (L : List Value) (hv : v.cells = L.toArray) (hp : place i = some (off, L.length)) (A X C : List Value) (hA : A.length = off) (hX : X.length = L.length) (rest : List (Nat × Value)) :
    Instr.fill place (A ++ (X ++ C)).toArray ((i, v) :: rest) = Instr.fill place (A ++ (L ++ C)).toArray rest := by
  have h1 : ¬ ((v.cells.size ≠ L.length || off + v.cells.size > (A ++ (X ++ C)).toArray.size) = true) := by
    rw [hv]
    simp only [List.size_toArray, List.length_append, Bool.or_eq_true, decide_eq_true_eq, not_or]
    omega
  have h2 := fold_lay L off 0 A X C (by omega) hX
  rw [Instr.fill, hp]
  dsimp only
  rw [if_neg h1, hv]
  congr 1
  rw [← h2, ← Array.foldl_toList, Array.toList_zipIdx]
/-- 'build' in a typed region -/
theorem good_build {P : Program} {T : Ty} {o : Oper} {a : Act} {w : World} (t : TypeId) (ps : List (Nat × Operand)) (ho : o.op = .build t ps.toArray) (L : List (Nat × Value)) (hL : (ps.map fun x => (x.1, a.eval x.2)) = L) (cells : Array Value) (hb : P.built t L = some cells) (hT : T (.agg cells) w) :
    goodUpon P T w ((execOp a.eval o).run P w) := by
  unfold execOp
  have hb2 : P.built t (ps.toArray.map fun (i, x) => (i, a.eval x)).toList = some cells := by
    rw [← hb, ← hL]
    congr 1
    simp
  simp only [ho, Sem.run_bind, run_build w t _ cells hb2, Result.andThen_ok, Sem.run_pure]
  exact ⟨Below.refl _ _, hT⟩
theorem wpList_buildB {P : Program} {w : World} {ops : Array Oper} {rest : List Oper} {o : Oper} {a : Act} {Q : Exit → Act → World → Prop} (hgd : o.guard = none) (t : TypeId) (ps : List (Nat × Operand)) (ho : o.op = .build t ps.toArray) (L : List (Nat × Value)) (hL : (ps.map fun x => (x.1, a.eval x.2)) = L) (cells : Array Value) (hb : P.built t L = some cells)
    (h : wpList P ops Q rest (a.put o.dst (.agg cells)) w) : wpList P ops Q (o :: rest) a w := by
  have hb2 : P.built t (ps.toArray.map fun (i, x) => (i, a.eval x)).toList = some cells := by
    rw [← hb, ← hL]
    congr 1
    simp
  refine wpList_build hgd t ps.toArray ho (by rw [hb2]; rfl) ?_
  rw [hb2]
  exact h
/-- '==' in a plain region, by its run -/
theorem wpList_eqlC {P : Program} {w : World} {ops : Array Oper} {rest : List Oper} {o : Oper} {a : Act} {Q : Exit → Act → World → Prop} (hgd : o.guard = none) (ty : TypeId) (x y : Operand) (t : TypeId) (ho : o.op = .binOp .eql ty x y t) {v v' u : Value} (hx : a.eval x = v) (hy : a.eval y = v')
    (hg : ∀ o1 o2 w1, (eqGuard .eql ty o1 o2 v v').run P w1 = .ok () w1) (hq : ∀ w1, (binOp .eql ty v v').run P w1 = .ok u w1) (h : wpList P ops Q rest (a.put o.dst u) w) : wpList P ops Q (o :: rest) a w := by
  refine wpList_plain hgd fun K hK => ?_
  unfold Oper.wp execOp
  simp only [ho, hx, hy, Sem.run_bind, hg, hq, Result.andThen_ok, Sem.run_pure]
  exact hK _ _ h
end Go.Proofs.Ytljbbpcnoajfeaa
