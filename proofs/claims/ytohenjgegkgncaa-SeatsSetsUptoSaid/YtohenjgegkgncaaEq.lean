/- '==' between arrays of numbers, with no program in sight. -/
import Derived.Test.YtohenjgegkgncaaLib
import Derived.Laws.StructEq
set_option linter.unusedSimpArgs false
set_option linter.unusedVariables false
namespace Go.Proofs.Ytohenjgegkgncaa
open Go.RowKit
section
variable {P : Program} (w : World)
theorem run_part_int {e : TypeId} {k : IntKind} (he : P.underlying e = some (.int k)) (xs : List Int) (i : Nat) (hi : i < xs.length) :
    (part e (xs.map (Value.int k)).toArray i).run P w = .ok (.int k xs[i]) w := by
  have hagg : (isAgg e).run P w = .ok false w := by
    unfold isAgg
    rw [Sem.run_bind, run_underlying he w]
    simp
  unfold part
  rw [Sem.run_bind, hagg]
  simp [hi]
theorem range'_cons (s n : Nat) (h : 0 < n) : List.range' s n = s :: List.range' (s + 1) (n - 1) := by
  cases n with
  | zero => omega
  | succ n => rfl
theorem run_eql_arr (d n : Nat) {t e : TypeId} {k : IntKind} (ht : P.underlying t = some (.array n e)) (he : P.underlying e = some (.int k)) (hs : (P.info? e).map (·.size) = some 1)
    (xs ys : List Int) (hx : xs.length = n) (hy : ys.length = n) :
    (Op.equalIn (d + 2) t (.agg (xs.map (Value.int k)).toArray) (.agg (ys.map (Value.int k)).toArray)).run P w = .ok (xs == ys) w := by
  cases hq : P.info? e with
  | none => simp [hq] at hs
  | some q =>
    have hs1 : q.size = 1 := by simpa [hq] using hs
    have hsz : (sizeOf e).run P w = .ok 1 w := by simp [sizeOf, typeInfo, hq, hs1]
    unfold Op.equalIn
    simp only [Sem.run_bind, run_underlying ht, Result.andThen_ok, hsz]
    simp only [Std.Legacy.Range.forIn_eq_forIn_range', Std.Legacy.Range.size, Nat.sub_zero, Nat.add_sub_cancel, Nat.div_one]
    have key : ∀ m s, s + m = n → (Sem.run P
          (forIn (List.range' s m) ((none, ()) : Option Bool × Unit) fun i __s => do
            let __do_lift ← part e (List.map (Value.int k) xs).toArray (i * 1)
            let __do_lift_1 ← part e (List.map (Value.int k) ys).toArray (i * 1)
            let __do_lift ← Op.equalIn (d + 1) e __do_lift __do_lift_1
            if (!__do_lift) = true then pure (ForInStep.done (some false, ())) else pure (ForInStep.yield (none, ())))
          w) = .ok (if xs.drop s = ys.drop s then (none, ()) else (some false, ())) w := by
      intro m
      induction m with
      | zero =>
        intro s hsn
        have e1 : xs.drop s = [] := List.drop_eq_nil_of_le (by omega)
        have e2 : ys.drop s = [] := List.drop_eq_nil_of_le (by omega)
        simp [e1, e2]
      | succ m ih =>
        intro s hsn
        have h1 : s < xs.length := by omega
        have h2 : s < ys.length := by omega
        rw [List.range'_succ]
        simp only [List.forIn_cons, Sem.run_bind, Nat.mul_one, run_part_int w he xs s h1, run_part_int w he ys s h2, Result.andThen_ok, run_equalIn_int (P := P) w d e k k _ _ he]
        have hd : (xs.drop s = ys.drop s) = (xs[s] = ys[s] ∧ xs.drop (s + 1) = ys.drop (s + 1)) := by
          rw [List.drop_eq_getElem_cons h1, List.drop_eq_getElem_cons h2, List.cons.injEq]
        simp only [hd]
        by_cases hxy : xs[s] = ys[s]
        · simp only [hxy, beq_self_eq_true, Bool.not_true, Bool.false_eq_true, if_false, Sem.run_pure, Result.andThen_ok]
          have := ih (s + 1) (by omega)
          simp only [Nat.mul_one, Sem.run_bind] at this
          rw [this]
          simp only [true_and]
        · have hb : (xs[s] == ys[s]) = false := by simpa using hxy
          simp only [hb, Bool.not_false, if_true, Sem.run_pure, Result.andThen_ok, hxy, false_and]
          rfl
    rw [key n 0 (by omega)]
    simp only [List.drop_zero, Result.andThen_ok]
    by_cases hxy : xs = ys
    · simp [hxy]
    · have : (xs == ys) = false := by simpa using hxy
      simp [hxy]
/-- '==' of two arrays of numbers -/
theorem run_eqA {n : Nat} {t e : TypeId} {k : IntKind} (ht : P.underlying t = some (.array n e)) (he : P.underlying e = some (.int k)) (hs : (P.info? e).map (·.size) = some 1)
    (xs ys : List Int) (hx : xs.length = n) (hy : ys.length = n) : (binOp .eql t (.agg (xs.map (Value.int k)).toArray) (.agg (ys.map (Value.int k)).toArray)).run P w = .ok (.bool (xs == ys)) w := by
  rw [run_eql_struct, run_eql_arr w 9998 n ht he hs xs ys hx hy]
  rfl
theorem run_neA {n : Nat} {t e : TypeId} {k : IntKind} (ht : P.underlying t = some (.array n e)) (he : P.underlying e = some (.int k)) (hs : (P.info? e).map (·.size) = some 1)
    (xs ys : List Int) (hx : xs.length = n) (hy : ys.length = n) : (binOp .neq t (.agg (xs.map (Value.int k)).toArray) (.agg (ys.map (Value.int k)).toArray)).run P w = .ok (.bool (!(xs == ys))) w := by
  rw [run_neq_struct, run_eql_arr w 9998 n ht he hs xs ys hx hy]
  rfl
end
end Go.Proofs.Ytohenjgegkgncaa
