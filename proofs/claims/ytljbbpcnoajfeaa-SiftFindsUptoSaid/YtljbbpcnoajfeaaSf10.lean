/- A list of found logs in the making; what sift.gather's loop keeps. -/
import Derived.Test.YtljbbpcnoajfeaaSf9
set_option linter.unusedSimpArgs false
set_option linter.unusedVariables false
namespace Go.Proofs.Ytljbbpcnoajfeaa
open Go.RowKit
theorem elFd : El0 Try.prog 38 86 (.agg z13.toArray) 13 80 fdc := ⟨by kernel_rfl, by kernel_rfl, rfl, by omega, fdc_len⟩
/-- found logs of one's own -/
structure FdL (W : World) (B : Nat) (v : Value) (xs : List Fdv) : Prop where
  own : OwnOf fdc 13 86 W B v xs
  lg : ∀ x ∈ xs, OwnLg W B x.l
theorem FdL.kept {W W' : World} {B : Nat} {v : Value} {xs : List Fdv} (h : FdL W B v xs) (hb : Below W.heap.size W W') : FdL W' B v xs := ⟨h.own.kept hb, fun x hx => (h.lg x hx).kept hb⟩
/-- what turns holds no cells -/
def NoCells (W : World) (row : Option Nat) : Prop := ∀ r, row = some r → ∃ o : Obj, W.heap[r]? = some o ∧ o.isCells = false
theorem Blk.nc {e : TypeId} {W : World} {g : Nat} {cs : List Value} {row : Option Nat} (h : Blk e W g cs) (hr : NoCells W row) : row ≠ some g := by
  intro e'
  obtain ⟨o, ho, hc⟩ := hr g e'
  rw [show W.heap[g]? = _ from h] at ho
  cases ho
  cases hc
theorem OwnOf.nc {α : Type} {f : α → List Value} {size : Nat} {e : TypeId} {W W' : World} {B : Nat} {v : Value} {l : List α} {row : Option Nat} (h : OwnOf f size e W B v l) (hg : W.grownBy W' row) (hr : NoCells W row) : OwnOf f size e W' B v l :=
  h.grown hg (fun k hk e' => by
    obtain ⟨cs, hc⟩ := h.isBlkF e'
    exact hc.nc hr hk)
theorem FdL.nc {W W' : World} {B : Nat} {v : Value} {xs : List Fdv} {row : Option Nat} (h : FdL W B v xs) (hg : W.grownBy W' row) (hr : NoCells W row) : FdL W' B v xs := ⟨h.own.nc hg hr, fun x hx => ⟨(h.lg x hx).t.nc hg hr, (h.lg x hx).d.nc hg hr⟩⟩
/-- a block of another kind turns -/
theorem FdL.blk {W W' : World} {B g : Nat} {e : TypeId} {cs : List Value} {v : Value} {xs : List Fdv} (h : FdL W B v xs) (hg : W.grownBy W' (some g)) (hz : Blk e W g cs) (h1 : 86 ≠ e) (h2 : 142 ≠ e) (h3 : 5 ≠ e) : FdL W' B v xs :=
  ⟨h.own.grown hg (fun k hk e' => by cases hk; exact h.own.notT hz h1 e'), fun x hx => ⟨(h.lg x hx).t.grown hg (fun k hk e' => by cases hk; exact (h.lg x hx).t.notT hz h2 e'), (h.lg x hx).d.grown hg (fun k hk e' => by cases hk; exact (h.lg x hx).d.notT hz h3 e')⟩⟩
theorem OwnLg.row {W W' : World} {B B' : Nat} {v : Value} {xs : List Fdv} {l : Lgv} (h : OwnLg W B l) (ho : OwnOf fdc 13 86 W B' v xs) (hg : W.grownBy W' v.ownBlock) : OwnLg W' B l :=
  ⟨h.t.grown hg (fun k hk => h.t.neF ho (by decide) k hk), h.d.grown hg (fun k hk => h.d.neF ho (by decide) k hk)⟩
/-- what the loop keeps -/
structure GaI (w0 : World) (f : Flt) (most : Int) (pre : List (FdA w0)) (W : World) : Prop where
  b : Below w0.heap.size w0 W
  flt : Blk 36 W w0.heap.size (flc f)
  mst : Blk 3 W (w0.heap.size + 1) [.int .i64 most]
  out : ∃ v xs, Blk 38 W (w0.heap.size + 2) [v] ∧ FdL W w0.heap.size v xs ∧ xs.map tel = ((pre.map FdA.v).filter fun x => letB f x.l).map tel
theorem GaI.nc {w0 W W' : World} {f : Flt} {most : Int} {pre : List (FdA w0)} {row : Option Nat} (h : GaI w0 f most pre W) (hg : W.grownBy W' row) (hr : NoCells W row) (hB : ∀ r, row = some r → w0.heap.size ≤ r) : GaI w0 f most pre W' := by
  refine ⟨h.b.grown hg h.b.size (fun k hk => hB k hk), h.flt.grown hg (h.flt.nc hr), h.mst.grown hg (h.mst.nc hr), ?_⟩
  obtain ⟨v, xs, h1, h2, h3⟩ := h.out
  exact ⟨v, xs, h1.grown hg (h1.nc hr), h2.nc hg hr, h3⟩
theorem GaI.kept {w0 W W' : World} {f : Flt} {most : Int} {pre : List (FdA w0)} (h : GaI w0 f most pre W) (hb : Below W.heap.size W W') : GaI w0 f most pre W' := by
  refine ⟨Below.then h.b hb, h.flt.kept hb, h.mst.kept hb, ?_⟩
  obtain ⟨v, xs, h1, h2, h3⟩ := h.out
  exact ⟨v, xs, h1.kept hb, h2.kept hb, h3⟩
theorem keeps_below {W W' : World} (B : Nat) (hb : Below W.heap.size W W') : KeepsFrom B W W' := ⟨hb.size, fun k _ _ h _ => (hb.block k (Array.getElem?_eq_some_iff.1 h).1).trans h⟩
theorem Kp.below {w0 W W' : World} (h0 : w0.heap.size ≤ W.heap.size) (hb : Below W.heap.size W W') : Kp w0 W W' := ⟨hb.mono h0, fun _ _ _ _ h => h.kept hb⟩
theorem gaOwn {w0 : World} {f : Flt} {most : Int} {B : Nat} (hB : w0.heap.size ≤ B) : OwnFrom B (fun (pre : List (FdA w0)) W => GaI w0 f most pre W) := fun _ _ _ _ h hg hr =>
  h.nc hg (fun r e => (hr r e).2) (fun r e => Nat.le_trans hB (hr r e).1)
theorem blkOwn {β : Type} {B : Nat} {e : TypeId} {g : Nat} {cs : List Value} : OwnFrom B (fun (_ : β) W => Blk e W g cs) := fun _ _ _ _ h hg hr => Blk.grown h hg (h.nc (fun r e => (hr r e).2))
theorem blk_ne {e e' : TypeId} {W : World} {g g' : Nat} {cs cs' : List Value} (h : Blk e W g cs) (h' : Blk e' W g' cs') (hne : e ≠ e') : g ≠ g' := by
  rintro rfl
  have := (show W.heap[g]? = _ from h).symm.trans h'
  simp at this
  exact hne this.2
/-- 'out = append(out, own(x))' -/
theorem ga_app {w0 y y6 : World} {f : Flt} {most : Int} {pre : List (FdA w0)} (hG : GaI w0 f most pre y) {v v' : Value} {xs : List Fdv} (h1 : Blk 38 y (w0.heap.size + 2) [v]) (h2 : FdL y w0.heap.size v xs) (h3 : xs.map tel = ((pre.map FdA.v).filter fun x => letB f x.l).map tel)
    (x : FdA w0) (hx : letB f x.v.l = true) (x' : Fdv) (ht : tel x' = tel x.v) (hl : OwnLg y w0.heap.size x'.l) (ho : OwnOf fdc 13 86 y6 w0.heap.size v' (xs ++ [x'])) (hg : y.grownBy y6 v.ownBlock) :
    Blk 38 y6 (w0.heap.size + 2) [v] ∧ GaI w0 f most (pre ++ [x]) (y6.setCell ⟨w0.heap.size + 2, 0, none⟩ v') ∧ Blk 38 (y6.setCell ⟨w0.heap.size + 2, 0, none⟩ v') (w0.heap.size + 2) [v'] ∧ KeepsOthers y (y6.setCell ⟨w0.heap.size + 2, 0, none⟩ v') ∧ Kp w0 y (y6.setCell ⟨w0.heap.size + 2, 0, none⟩ v') := by
  have hbox6 : Blk 38 y6 (w0.heap.size + 2) [v] := h1.grown hg (h2.own.notT h1 (by decide))
  have hbox7 : Blk 38 (y6.setCell ⟨w0.heap.size + 2, 0, none⟩ v') (w0.heap.size + 2) [v'] := hbox6.set 0 v'
  have hB6 : Below w0.heap.size y y6 := (Below.refl _ _).grown hg hG.b.size (fun k hk => h2.own.lt k hk)
  have hB7 : Below w0.heap.size y (y6.setCell ⟨w0.heap.size + 2, 0, none⟩ v') := hB6.setCell (p := ⟨w0.heap.size + 2, 0, none⟩) (by show w0.heap.size ≤ w0.heap.size + 2; omega) v'
  have keep : ∀ {g : Nat} {e : TypeId} {cs : List Value}, 86 ≠ e → e ≠ 38 → Blk e y g cs → Blk e (y6.setCell ⟨w0.heap.size + 2, 0, none⟩ v') g cs := fun {g e cs} n1 n2 hb => by
    have hb6 : Blk e y6 g cs := hb.grown hg (h2.own.notT hb n1)
    exact hb6.other ⟨w0.heap.size + 2, 0, none⟩ (fun e' => blk_ne hb6 hbox6 n2 e'.symm) v'
  have lg : ∀ {l : Lgv}, OwnLg y w0.heap.size l → OwnLg (y6.setCell ⟨w0.heap.size + 2, 0, none⟩ v') w0.heap.size l := fun {l} h => by
    have h6 := h.row h2.own hg
    exact ⟨h6.t.grown (grown_cell 0 v') (fun k hk e' => by cases hk; exact h6.t.notT hbox6 (by decide) e'), h6.d.grown (grown_cell 0 v') (fun k hk e' => by cases hk; exact h6.d.notT hbox6 (by decide) e')⟩
  refine ⟨hbox6, ⟨hG.b.trans hB7, keep (by decide) (by decide) hG.flt, keep (by decide) (by decide) hG.mst, v', xs ++ [x'], hbox7, ⟨ho.grown (grown_cell 0 v') (fun k hk e' => by cases hk; exact ho.notT hbox6 (by decide) e'), fun z hz => ?_⟩, ?_⟩, hbox7, ?_, ⟨hB7, fun g e cs he hb => keep (by rcases he with rfl | rfl <;> decide) (by rcases he with rfl | rfl <;> decide) hb⟩⟩
  · rcases List.mem_append.1 hz with hz | hz
    · exact lg (h2.lg z hz)
    · rw [List.mem_singleton] at hz
      rw [hz]; exact lg hl
  · rw [List.map_append, List.map_append, List.filter_append, List.map_append, h3, List.map_cons, List.map_nil, List.map_cons, List.map_nil, List.filter_cons, if_pos hx, List.filter_nil, List.map_cons, List.map_nil, ht]
  · refine KeepsOthers.trans (KeepsOthers.of_grownBy hg fun j o ej hj => ?_) (KeepsOthers.setCell _ _ _)
    obtain ⟨cs, hc⟩ := h2.own.isBlkF ej
    rw [show y.heap[j]? = _ from hc] at hj
    cases hj
    rfl
/-- sift.logs -/
theorem slogs_any (a : Option Addr) (n c : Nat) (gf : Nat) (lb : Array Value) (w : World) : Calls Try.prog 61 #[.slice a n c, .func (.func gf) #[] lb] w fun e w' => e = .returned (.func (.func 94) #[] #[.pointer (some ⟨w.heap.size, 0, none⟩), .pointer (some ⟨w.heap.size + 1, 0, none⟩)]) ∧ w' = (w.alloc (.cells #[.slice a n c] 32)).alloc (.cells #[.func (.func gf) #[] lb] 92) := by
  go_enter Try.func61, Try.ntmps61
  go_wp2_with fail
  go_ret
  exact ⟨rfl, rfl⟩
end Go.Proofs.Ytljbbpcnoajfeaa
