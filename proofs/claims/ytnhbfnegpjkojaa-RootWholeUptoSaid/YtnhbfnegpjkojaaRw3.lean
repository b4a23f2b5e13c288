/- The reference's treeCodes: what lies there while the kids are gone through. -/
import Derived.Test.YtnhbfnegpjkojaaRw2
import Derived.Maps.RangeWalk
set_option linter.unusedSimpArgs false
set_option linter.unusedVariables false
namespace Go.Proofs.Ytnhbfnegpjkojaa
open Go.RowKit
theorem RowOf.grownT {α : Type} {f : α → List Value} {size : Nat} {w w' : World} {v : Value} {l : List α} {row : Option Nat} (h : RowOf f size w v l) (hg : w.grownBy w' row) (hlt : ∀ x, v.ownBlock = some x → x < w.heap.size) (hne : ∀ x, v.ownBlock = some x → row ≠ some x) : RowOf f size w' v l := by
  cases row with
  | some g => exact h.offT hg (fun x hx e => hne x hx (by rw [e]))
  | none => exact h.offT (hg.but (some w.heap.size)) (fun x hx => Nat.ne_of_lt (hlt x hx))
theorem OwnOf.notT {α : Type} {f : α → List Value} {size : Nat} {e e' : TypeId} {w : World} {B g : Nat} {v : Value} {l : List α} {cs : List Value} (h : OwnOf f size e w B v l) (hz : Blk e' w g cs) (hne : e ≠ e') : v.ownBlock ≠ some g := by
  rcases h.2 with ⟨rfl, _⟩ | ⟨g', cap, cur, rfl, _, hg, _⟩
  · simp [Value.ownBlock]
  · intro e2
    simp only [Value.ownBlock, Option.some.injEq] at e2
    subst e2
    have hz2 : w.heap[g']? = some (.cells cs.toArray e' (0, 0)) := hz
    rw [hz2] at hg
    simp only [Option.some.injEq, Obj.cells.injEq] at hg
    exact hne hg.2.1.symm
/-- a text of the call's own, apart from two rows in the making -/
structure TxG (w : World) (kv rv : Value) (u : World) (q : Value × List UInt8) : Prop where
  h : Bytes u q.1 q.2
  l : q.2.length ≤ 1000000000
  b : ∀ k, q.1.ownBlock = some k → w.heap.size + 2 ≤ k ∧ k < u.heap.size ∧ kv.ownBlock ≠ some k ∧ rv.ownBlock ≠ some k
theorem TxG.kept {w : World} {kv rv : Value} {u u' : World} {q : Value × List UInt8} (h : TxG w kv rv u q) (hb : Below u.heap.size u u') : TxG w kv rv u' q :=
  ⟨h.h.kept hb, h.l, fun k hk => ⟨(h.b k hk).1, Nat.lt_of_lt_of_le (h.b k hk).2.1 hb.size, (h.b k hk).2.2⟩⟩
/-- one of the rows grows -/
theorem TxG.grewS {w : World} {kv kv' rv : Value} {u u' : World} {q : Value × List UInt8} (h : TxG w kv rv u q) (hg : u.grownBy u' kv.ownBlock) (hp : ∀ k, kv'.ownBlock = some k → kv.ownBlock = some k ∨ u.heap.size ≤ k) : TxG w kv' rv u' q :=
  ⟨RowOf.grownT h.h hg (fun k hk => (h.b k hk).2.1) (fun k hk => (h.b k hk).2.2.1), h.l, fun k hk => ⟨(h.b k hk).1, Nat.lt_of_lt_of_le (h.b k hk).2.1 hg.size, fun e => (hp k e).elim (h.b k hk).2.2.1 (fun h1 => by have := (h.b k hk).2.1; omega), (h.b k hk).2.2.2⟩⟩
theorem TxG.swap {w : World} {kv rv : Value} {u : World} {q : Value × List UInt8} (h : TxG w kv rv u q) : TxG w rv kv u q := ⟨h.h, h.l, fun k hk => ⟨(h.b k hk).1, (h.b k hk).2.1, (h.b k hk).2.2.2, (h.b k hk).2.2.1⟩⟩
/-- what lies there -/
structure TcW (w : World) (N4 : List Value) (kd : Int) (P V kv rv : Value) (sums rest : List (Value × List UInt8)) (u : World) : Prop where
  hb : Below w.heap.size w u
  z1 : Blk 25 u w.heap.size N4
  z2 : Blk 190 u (w.heap.size + 1) [.int .i64 kd, P, V, kv]
  oS : OwnOf tcell 1 22 u (w.heap.size + 2) kv sums
  oR : OwnOf tcell 1 22 u (w.heap.size + 2) rv rest
  ne : ∀ k, kv.ownBlock = some k → rv.ownBlock ≠ some k
  tS : ∀ q ∈ sums, TxG w kv rv u q
  tR : ∀ q ∈ rest, TxG w kv rv u q
section
variable {w : World} {N4 : List Value} {kd : Int} {P V kv kv' rv rv' : Value} {sums rest sums' rest' : List (Value × List UInt8)} {u u' : World}
theorem TcW.kept (h : TcW w N4 kd P V kv rv sums rest u) (hb : Below u.heap.size u u') : TcW w N4 kd P V kv rv sums rest u' :=
  ⟨Below.then h.hb hb, h.z1.kept hb, h.z2.kept hb, h.oS.kept hb, h.oR.kept hb, h.ne, fun q hq => (h.tS q hq).kept hb, fun q hq => (h.tR q hq).kept hb⟩
/-- the codes grow -/
theorem TcW.grewR (h : TcW w N4 kd P V kv rv sums rest u) (hg : u.grownBy u' rv.ownBlock) (ho : OwnOf tcell 1 22 u' (w.heap.size + 2) rv' (rest ++ rest')) (hp : ∀ k, rv'.ownBlock = some k → rv.ownBlock = some k ∨ u.heap.size ≤ k) (hn : ∀ q ∈ rest', TxG w kv rv u q) : TcW w N4 kd P V kv rv' sums (rest ++ rest') u' :=
  ⟨h.hb.grown hg h.hb.size (fun k hk => by have := OwnOf.lt h.oR k hk; omega), h.z1.grown hg (h.oR.notT h.z1 (by decide)), h.z2.grown hg (h.oR.notT h.z2 (by decide)),
    h.oS.grown hg (fun k hk e => h.ne k e hk), ho, fun k hk e => (hp k e).elim (h.ne k hk) (fun h1 => by have := OwnOf.ltT h.oS k hk; omega),
    fun q hq => ((h.tS q hq).swap.grewS hg hp).swap, fun q hq => by
      rcases List.mem_append.1 hq with hq | hq
      · exact ((h.tR q hq).swap.grewS hg hp).swap
      · exact ((hn q hq).swap.grewS hg hp).swap⟩
theorem gsetT (w : World) (b i : Nat) (v : Value) : w.grownBy (w.setCell ⟨b, i, none⟩ v) (some b) :=
  ⟨rfl, rfl, rfl, by simp [World.setCell], fun k _ hk => Below.heap_setCell _ _ _ _ (fun e => hk (by simp [e]))⟩
theorem TxG.set {q : Value × List UInt8} (h : TxG w kv rv u q) (i : Nat) (v : Value) : TxG w kv rv (u.setCell ⟨w.heap.size + 1, i, none⟩ v) q :=
  ⟨RowOf.grownT h.h (gsetT u _ i v) (fun k hk => (h.b k hk).2.1) (fun k hk e => by have := (h.b k hk).1; simp only [Option.some.injEq] at e; omega), h.l, fun k hk => by have := h.b k hk; simpa only [World.size_setCell] using this⟩
/-- the sums grow -/
theorem TcW.grewS (h : TcW w N4 kd P V kv rv sums rest u) (hg : u.grownBy u' kv.ownBlock) (ho : OwnOf tcell 1 22 u' (w.heap.size + 2) kv' (sums ++ sums')) (hp : ∀ k, kv'.ownBlock = some k → kv.ownBlock = some k ∨ u.heap.size ≤ k) (hn : ∀ q ∈ sums', TxG w kv rv u q) :
    TcW w N4 kd P V kv' rv (sums ++ sums') rest (u'.setCell ⟨w.heap.size + 1, 3, none⟩ kv') := by
  have y1 := h.z1.grown hg (h.oS.notT h.z1 (by decide))
  have y2 := h.z2.grown hg (h.oS.notT h.z2 (by decide))
  have oR := h.oR.grown hg (fun k hk e => h.ne k hk e)
  have hb := h.hb.grown hg h.hb.size (fun k hk => by have := OwnOf.lt h.oS k hk; omega)
  have g2 := gsetT u' (w.heap.size + 1) 3 kv'
  have y3 := y2.set 3 kv'
  refine ⟨hb.setCell (by simp) _, y1.other _ (by simp) _, y3, ho.grown g2 (fun k hk => by cases hk; exact ho.notT y2 (by decide)), oR.grown g2 (fun k hk => by cases hk; exact oR.notT y2 (by decide)), fun k hk e => (hp k hk).elim (fun h1 => h.ne k h1 e) (fun h1 => by have := OwnOf.ltT h.oR k e; omega), fun q hq => ?_, fun q hq => ((h.tR q hq).grewS hg hp).set 3 kv'⟩
  rcases List.mem_append.1 hq with hq | hq
  · exact ((h.tS q hq).grewS hg hp).set 3 kv'
  · exact ((hn q hq).grewS hg hp).set 3 kv'
end
end Go.Proofs.Ytnhbfnegpjkojaa
