/- What an item that the call made hangs on; how a slice and its parts are read in any world. -/
import Derived.Test.YtohenjgegkgncaaSplit1
import Derived.Test.YtohenjgegkgncaaApp
set_option linter.unusedSimpArgs false
set_option linter.unusedVariables false
namespace Go.Proofs.Ytohenjgegkgncaa
open Go.RowKit
/-- the item hangs on the blocks of 'S' alone -/
def Fp (S : Nat → Prop) (w : World) (it : Itm) : Prop := ∀ u : World, (∀ b, S b → b < w.heap.size → u.heap[b]? = w.heap[b]?) → IsItm u it
theorem Fp.is {S : Nat → Prop} {w : World} {it : Itm} (h : Fp S w it) : IsItm w it := h w (fun _ _ _ => rfl)
theorem Fp.to {S S' : Nat → Prop} {w w' : World} {it : Itm} (h : Fp S w it) (hs : w.heap.size ≤ w'.heap.size) (hb : ∀ b, S b → b < w.heap.size → w'.heap[b]? = w.heap[b]? ∧ S' b) : Fp S' w' it := by
  intro u hu
  exact h u (fun b h1 h2 => by
    obtain ⟨h3, h4⟩ := hb b h1 h2
    rw [hu b h4 (Nat.lt_of_lt_of_le h2 hs), h3])
/-- what a slice of the call's own reads as hangs on its block -/
theorem OwnOf.onto {α : Type} {f : α → List Value} {size : Nat} {e : TypeId} {w u : World} {B : Nat} {v : Value} {l : List α} (h : OwnOf f size e w B v l) (hu : ∀ b, v.ownBlock = some b → b < w.heap.size → u.heap[b]? = w.heap[b]?) : OwnOf f size e u B v l := by
  refine ⟨h.1, ?_⟩
  rcases h.2 with h2 | ⟨g, cap, cur, rfl, h3, h4, h5⟩
  · exact .inl h2
  · refine .inr ⟨g, cap, cur, rfl, h3, ?_, h5⟩
    rw [hu g rfl (Array.getElem?_eq_some_iff.1 h4).1]; exact h4
theorem Fp.txt {S : Nat → Prop} {w : World} {B : Nat} {v : Value} {t : List UInt8} (h : OwnOf b8 1 5 w B v t) (hS : ∀ b, B ≤ b → S b) : Fp S w (.mk false v t (.slice none 0 0) []) := by
  intro u hu
  refine .mk false v t _ [] (h.onto (fun b h1 h2 => hu b (hS b (h.lt b h1)) h2)).row (RowOf.nil icells 3 u) (by simp)
theorem Fp.lst {S : Nat → Prop} {w : World} {B : Nat} {kv : Value} {ks : List Itm} (h : OwnOf icells 3 25 w B kv ks) (hk : ∀ k ∈ ks, Fp S w k) (hS : ∀ b, B ≤ b → S b) : Fp S w (.mk true (.slice none 0 0) [] kv ks) := by
  intro u hu
  exact .mk true _ [] kv ks (RowOf.nil b8 1 u) (h.onto (fun b h1 h2 => hu b (hS b (h.lt b h1)) h2)).row (fun k hk' => hk k hk' u hu)
/-- 'v'' is a part of 'v': whatever 'v' reads as, 'v'' reads as its end -/
def SubB (v : Value) (b : List UInt8) (v' : Value) (b' : List UInt8) : Prop := ∀ u : World, Bytes u v b → Bytes u v' b'
theorem SubB.refl (v : Value) (b : List UInt8) : SubB v b v b := fun _ h => h
theorem SubB.trans {v1 v2 v3 : Value} {b1 b2 b3 : List UInt8} (h : SubB v1 b1 v2 b2) (k : SubB v2 b2 v3 b3) : SubB v1 b1 v3 b3 := fun u hu => k u (h u hu)
theorem sub_from {a : Option Addr} {c : Nat} {l : List UInt8} {w : World} (h : Bytes w (.slice a l.length c) l) (lo : Nat) (h1 : lo ≤ l.length) (x : Int) (hx : x = lo) :
    ∃ a' c', (∀ k w', (Instr.slice 22 (.slice a l.length c) (some (.int k x)) none none).run Try.prog w' = .ok (.slice a' (l.length - lo) c') w') ∧ SubB (.slice a l.length c) l (.slice a' (l.length - lo) c') (l.drop lo) := by
  obtain ⟨a', c', h2, _⟩ := RowOf.from elU8 h lo h1 x hx
  refine ⟨a', c', h2, fun u hu => ?_⟩
  obtain ⟨a2, c2, h3, h4⟩ := RowOf.from elU8 hu lo h1 x hx
  have := (h2 .i64 u).symm.trans (h3 .i64 u)
  simp only [Result.ok.injEq, Value.slice.injEq] at this
  obtain ⟨⟨rfl, _, rfl⟩, _⟩ := this
  exact h4
theorem sub_to {a : Option Addr} {c : Nat} {l : List UInt8} {w : World} (h : Bytes w (.slice a l.length c) l) (hi : Nat) (h1 : hi ≤ l.length) (x : Int) (hx : x = hi) :
    ∃ a' c', (∀ k w', (Instr.slice 22 (.slice a l.length c) none (some (.int k x)) none).run Try.prog w' = .ok (.slice a' hi c') w') ∧ SubB (.slice a l.length c) l (.slice a' hi c') (l.take hi) := by
  obtain ⟨a', c', h2, _⟩ := RowOf.to elU8 h hi h1 x hx
  refine ⟨a', c', h2, fun u hu => ?_⟩
  obtain ⟨a2, c2, h3, h4⟩ := RowOf.to elU8 hu hi h1 x hx
  have := (h2 .i64 u).symm.trans (h3 .i64 u)
  simp only [Result.ok.injEq, Value.slice.injEq] at this
  obtain ⟨⟨rfl, _, rfl⟩, _⟩ := this
  exact h4
/-- the reader's bytes outlive a change of a reader -/
theorem Bytes.off_r {w u : World} {v x : Value} {g : Nat} {l : List UInt8} (h : Bytes w v l) (hz : Blk 113 w g [x]) (hx : ∃ a n c, x = .slice a n c) (hg : w.grownBy u (some g)) : Bytes u v l := by
  obtain ⟨a, n, c, rfl⟩ := hx
  exact Bytes.off_v h hz (by intro y hy k; simp at hy; subst hy; simp) hg
theorem grown_bel' {w u v : World} {g : Nat} (h : w.grownBy u (some g)) (hb : Below u.heap.size u v) : w.grownBy v (some g) :=
  ⟨hb.os.trans h.os, hb.tape.trans h.tape, hb.output.trans h.output, Nat.le_trans h.size hb.size, fun i hi hne => (hb.block i (Nat.lt_of_lt_of_le hi h.size)).trans (h.block i hi hne)⟩
theorem grown_trans {a b c : World} {g : Option Nat} (h : a.grownBy b g) (k : b.grownBy c g) : a.grownBy c g :=
  ⟨k.os.trans h.os, k.tape.trans h.tape, k.output.trans h.output, Nat.le_trans h.size k.size, fun i hi hne => (k.block i (Nat.lt_of_lt_of_le hi h.size) hne).trans (h.block i hi hne)⟩
end Go.Proofs.Ytohenjgegkgncaa
