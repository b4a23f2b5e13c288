/- Pairs in the making; what tree.Pairs' loop keeps. -/
import Derived.Test.YtljbbpcnoajfeaaPrs5
import Derived.Test.YtljbbpcnoajfeaaGrwB
import Derived.Test.YtljbbpcnoajfeaaNibB
import Derived.Test.YtljbbpcnoajfeaaBuild0
import Derived.Test.YtljbbpcnoajfeaaOff
set_option linter.unusedSimpArgs false
set_option linter.unusedVariables false
namespace Go.Proofs.Ytljbbpcnoajfeaa
open Go.RowKit
structure Kvq where
  kv : Value
  k : List UInt8
  vv : Value
  v : List UInt8
def kvq (p : Kvq) : List Value := [p.kv, p.vv]
theorem kvq_len (p : Kvq) : (kvq p).length = 2 := rfl
theorem aggPairQ : Agg Try.prog 75 2 := ⟨_, Try.underlying75, rfl, by kernel_rfl⟩
theorem elPairQ : El0 Try.prog 26 75 (.agg #[.slice none 0 0, .slice none 0 0]) 2 48 kvq := ⟨by kernel_rfl, by kernel_rfl, rfl, by omega, kvq_len⟩
def qtel (p : Kvq) : Rt := (p.k, p.v)
structure OwnQ (W : World) (B : Nat) (p : Kvq) : Prop where
  k : OwnOf b8 1 5 W B p.kv p.k
  v : OwnOf b8 1 5 W B p.vv p.v
theorem OwnQ.kept {W W' : World} {B : Nat} {p : Kvq} (h : OwnQ W B p) (hb : Below W.heap.size W W') : OwnQ W' B p := ⟨h.k.kept hb, h.v.kept hb⟩
theorem OwnQ.blk {W W' : World} {B : Nat} {p : Kvq} (h : OwnQ W B p) (hk : ∀ g cs, Blk 5 W g cs → Blk 5 W' g cs) : OwnQ W' B p := ⟨h.k.blkKept hk, h.v.blkKept hk⟩
theorem kvq_one {W : World} {B : Nat} {p : Kvq} (h : OwnQ W B p) : ∀ u ∈ kvq p, u.oneCell' = true := by
  obtain ⟨_, _, e1, _⟩ := h.k.form
  obtain ⟨_, _, e2, _⟩ := h.v.form
  intro u hu
  unfold kvq at hu
  simp only [List.mem_cons, List.not_mem_nil, or_false] at hu
  rcases hu with rfl | rfl
  · rw [e1]; rfl
  · rw [e2]; rfl
/-- pairs of one's own -/
structure PrL (W : World) (B : Nat) (v : Value) (xs : List Kvq) : Prop where
  own : OwnOf kvq 2 75 W B v xs
  q : ∀ x ∈ xs, OwnQ W B x
/-- what all keys and values of a tree are -/
def prsL (l : List Rt) : List Rt := l.map fun r => (joinR r.1, r.2)
theorem prsL_step (l : List Rt) (k : Nat) (x : Rt) (hk : l[k]? = some x) : prsL (l.take (k + 1)) = prsL (l.take k) ++ [(joinR x.1, x.2)] := by
  obtain ⟨h, rfl⟩ := List.getElem?_eq_some_iff.1 hk
  unfold prsL
  rw [List.take_succ_eq_append_getElem h, List.map_append]
  rfl
/-- what the loop keeps: F is the variable's box -/
structure PrI (w0 : World) (F : Nat) (l : List Rt) (k : Nat) (W : World) : Prop where
  b : Below w0.heap.size w0 W
  out : ∃ v xs, Blk 26 W F [v] ∧ PrL W w0.heap.size v xs ∧ xs.map qtel = prsL (l.take k)
theorem PrI.stab {w0 : World} {F : Nat} {l : List Rt} {k B : Nat} (hB : w0.heap.size ≤ B) : Stab B (PrI w0 F l k) := fun W W' row h hg hr => by
  have hb : ∀ {e : TypeId} {g : Nat} {cs : List Value}, Blk e W g cs → Blk e W' g cs := fun h => h.ncT hg (fun r e => (hr r e).2)
  obtain ⟨v, xs, h1, h2, h3⟩ := h.out
  exact ⟨h.b.grown hg h.b.size (fun k hk => Nat.le_trans hB (hr k hk).1), v, xs, hb h1, ⟨h2.own.blkKept (fun g cs h => hb h), fun x hx => (h2.q x hx).blk (fun g cs h => hb h)⟩, h3⟩
theorem PrI.kept {w0 : World} {F : Nat} {l : List Rt} {k : Nat} {W W' : World} (h : PrI w0 F l k W) (hb : Below W.heap.size W W') : PrI w0 F l k W' := by
  obtain ⟨v, xs, h1, h2, h3⟩ := h.out
  exact ⟨Below.then h.b hb, v, xs, h1.kept hb, ⟨h2.own.kept hb, fun x hx => (h2.q x hx).kept hb⟩, h3⟩
theorem blk_neT {e e' : TypeId} {W : World} {g g' : Nat} {cs cs' : List Value} (h : Blk e W g cs) (h' : Blk e' W g' cs') (hne : e ≠ e') : g ≠ g' := by
  rintro rfl
  have := (show W.heap[g]? = _ from h).symm.trans h'
  simp at this
  exact hne this.2
/-- 'out = append(out, x)' -/
theorem pr_app {w0 y y6 : World} {F : Nat} (hF : w0.heap.size ≤ F) {l : List Rt} {k : Nat} (hb : Below w0.heap.size w0 y) {v v' : Value} {xs : List Kvq} (h1 : Blk 26 y F [v]) (h2 : PrL y w0.heap.size v xs) (h3 : xs.map qtel = prsL (l.take k))
    (x : Rt) (hx : l[k]? = some x) (p : Kvq) (ht : qtel p = (joinR x.1, x.2)) (hp : OwnQ y w0.heap.size p) (ho : OwnOf kvq 2 75 y6 w0.heap.size v' (xs ++ [p])) (hg : y.grownBy y6 v.ownBlock) (B : Nat) :
    Blk 26 y6 F [v] ∧ PrI w0 F l (k + 1) (y6.setCell ⟨F, 0, none⟩ v') ∧ KeepsFrom B y (y6.setCell ⟨F, 0, none⟩ v') ∧ Kt w0 y (y6.setCell ⟨F, 0, none⟩ v') := by
  have hbox6 : Blk 26 y6 F [v] := h1.grown hg (h2.own.notT h1 (by decide))
  have hB6 : Below w0.heap.size y y6 := (Below.refl _ _).grown hg hb.size (fun k hk => h2.own.lt k hk)
  have hB7 : Below w0.heap.size y (y6.setCell ⟨F, 0, none⟩ v') := hB6.setCell (p := ⟨F, 0, none⟩) hF v'
  have keep : ∀ {g : Nat} {e : TypeId} {cs : List Value}, e ≠ 75 → e ≠ 26 → Blk e y g cs → Blk e (y6.setCell ⟨F, 0, none⟩ v') g cs := fun {g e cs} n1 n2 hb => by
    have hb6 : Blk e y6 g cs := hb.grown hg (h2.own.notT hb (fun e' => n1 e'.symm))
    exact hb6.other ⟨F, 0, none⟩ (fun e' => blk_neT hb6 hbox6 n2 e'.symm) v'
  have lg : ∀ {q : Kvq}, OwnQ y w0.heap.size q → OwnQ (y6.setCell ⟨F, 0, none⟩ v') w0.heap.size q := fun h => h.blk (fun g cs hb => keep (by decide) (by decide) hb)
  refine ⟨hbox6, ⟨hb.trans hB7, v', xs ++ [p], hbox6.set 0 v', ⟨ho.grown (grown_cell 0 v') (fun k hk e' => by cases hk; exact ho.notT hbox6 (by decide) e'), fun z hz => ?_⟩, ?_⟩, ?_, ⟨hB7, fun g e cs n1 n2 hb => keep n1 n2 hb⟩⟩
  · rcases List.mem_append.1 hz with hz | hz
    · exact lg (h2.q z hz)
    · rw [List.mem_singleton] at hz
      rw [hz]; exact lg hp
  · rw [List.map_append, h3, prsL_step l k x hx, List.map_cons, List.map_nil, ht]
  · refine (KeepsOthers.trans (KeepsOthers.of_grownBy hg fun j o ej hj => ?_) (KeepsOthers.setCell _ _ _)).from B
    obtain ⟨cs, hc⟩ : ∃ cs, Blk 75 y j cs := by
      rcases h2.own.2 with ⟨rfl, _⟩ | ⟨g, cap, cur, rfl, _, hg, _⟩
      · cases ej
      · simp only [Value.ownBlock, Option.some.injEq] at ej
        subst ej
        exact ⟨cur.toList, by unfold Blk; simpa using hg⟩
    rw [show y.heap[j]? = _ from hc] at hj
    cases hj
    rfl
/-- its value, its pair, a slice of it: as values in a region -/
def OvT (B : Nat) (l : List UInt8) : Ty := fun v w => OwnOf b8 1 5 w B v l
theorem OvT.mono (B : Nat) (l : List UInt8) : Mono (OvT B l) := fun _ _ _ h hb => OwnOf.kept h hb
def QaT (B : Nat) (kv : Value) (k v : List UInt8) : Ty := fun u w => ∃ p : Kvq, u = .agg (kvq p).toArray ∧ p.kv = kv ∧ p.k = k ∧ p.v = v ∧ OwnOf b8 1 5 w B p.vv v
theorem QaT.mono (B : Nat) (kv : Value) (k v : List UInt8) : Mono (QaT B kv k v) := fun _ _ _ ⟨p, h1, h2, h3, h4, h5⟩ hb => ⟨p, h1, h2, h3, h4, OwnOf.kept h5 hb⟩
def QsT (B : Nat) (kv : Value) (k v : List UInt8) : Ty := fun u w => ∃ (p : Kvq) (g : Nat), u = .slice (some ⟨g, 0, none⟩) 1 1 ∧ Blk 75 w g (kvq p) ∧ p.kv = kv ∧ p.k = k ∧ p.v = v ∧ OwnOf b8 1 5 w B p.vv v
theorem QsT.mono (B : Nat) (kv : Value) (k v : List UInt8) : Mono (QsT B kv k v) := fun _ _ _ ⟨p, g, h1, h2, h3, h4, h5, h6⟩ hb => ⟨p, g, h1, h2.kept hb, h3, h4, h5, OwnOf.kept h6 hb⟩
theorem built_q (a b : Option Addr) (n c m d : Nat) : Try.prog.built 75 [(0, .slice a n c), (1, .slice b m d)] = some #[.slice a n c, .slice b m d] := by kernel_rfl
theorem good_oneQ {T : Ty} {o : Oper} {a : Act} {w : World} (x : Operand) (ho : o.op = .buildSlice 26 1 #[(0, x)]) (p : Kvq) (hx : a.eval x = .agg (kvq p).toArray) (hT : T (.slice (some ⟨w.heap.size, 0, none⟩) 1 1) (w.alloc (.cells (kvq p).toArray 75))) :
    goodUpon Try.prog T w ((execOp a.eval o).run Try.prog w) := by
  obtain ⟨i, hi, hz, hsi, _⟩ := elPairQ.info
  have hl := kvq_len p
  have hf := Great.fill_whole (s := 2) (by omega) [Value.agg (kvq p).toArray] ((Array.range (1 * 2)).map ((Value.agg #[Value.slice none 0 0, Value.slice none 0 0]).cells[· % (Value.agg #[Value.slice none 0 0, Value.slice none 0 0]).cells.size]!)) (fun u hu => by rw [List.mem_singleton] at hu; rw [hu]; simpa [Value.cells] using hl) (by simp)
  have e1 : ([Value.agg (kvq p).toArray].flatMap fun v => v.cells.toList).toArray = (kvq p).toArray := by simp [Value.cells]
  rw [e1] at hf
  unfold execOp
  have hr := run_buildSlice (P := Try.prog) w 26 75 1 (#[(0, x)].map fun (i, x) => (i, a.eval x)) (kvq p).toArray i _ elPairQ.ht hi hz (by rw [hsi]; omega) (by rw [hsi]; omega) (by rw [hsi, ← hf]; simp [hx])
  simp only [ho, Sem.run_bind, hr, Result.andThen_ok, Sem.run_pure]
  exact ⟨(Below.refl _ _).alloc (Nat.le_refl _) _, hT⟩
theorem q_row {u : World} {g : Nat} {p : Kvq} (h : Blk 75 u g (kvq p)) : RowOf kvq 2 u (.slice (some ⟨g, 0, none⟩) 1 1) [p] :=
  Blk.row (f := kvq) (size := 2) h [p] 1 1 kvq_len rfl (fun j x hx => by simpa using hx) (Nat.le_refl _) (by unfold maxLen; omega)
/-- the routes of a right tree are fine -/
theorem rgt_fine {t : Nd} (h : rgt 0 t = true) : ∃ l, rts t = some l ∧ ∀ r ∈ l, r.1.length ≤ 64 ∧ r.2.length ≤ 1024 := by
  rw [← gright_rgt] at h
  unfold grightP at h
  cases hl : rts t with
  | none => rw [hl] at h; cases h
  | some l =>
    rw [hl] at h
    simp only [Bool.and_eq_true] at h
    refine ⟨l, rfl, fun r hr => ?_⟩
    have := h.1
    unfold fineB at this
    rw [List.all_eq_true] at this
    have h2 := this r hr
    have h3 : fineP 0 r := by simpa using h2
    unfold fineP at h3
    exact ⟨by omega, by omega⟩
/-- what both answer -/
def PairsP (t : Nd) (w : World) (e : Ending) (w' : World) : Prop :=
  ∃ v xs, e = .returned (.tuple #[v, .int .i64 (if rgt 0 t then 0 else 1)]) ∧ PrL w' w.heap.size v xs ∧ xs.map qtel = (if rgt 0 t then prsL ((rts t).getD []) else []) ∧ Below w.heap.size w w'
end Go.Proofs.Ytljbbpcnoajfeaa
