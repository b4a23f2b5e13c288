/- A list of texts in the making, some of which lie in blocks that were there before it. -/
import Derived.Test.YtffkjjpjfehcnaaKids
import Derived.Test.YtffkjjpjfehcnaaHdr1
set_option linter.unusedSimpArgs false
set_option linter.unusedVariables false
namespace Go.Proofs.Ytffkjjpjfehcnaa
open Go.RowKit
structure LkV (w : World) (zs : List (TypeId × Nat × List Value)) (B g9 : Nat) (kv : Value) (ks : List Itm) (u : World) : Prop where
  hb : Below w.heap.size w u
  hz : ∀ p ∈ zs, Blk p.1 u p.2.1 p.2.2 ∧ p.2.1 < B
  hm : Blk 128 u g9 [.bool true, .slice none 0 0, kv]
  hO : OwnOf icells 3 128 u B kv ks
  hn : kv.ownBlock ≠ some g9
  hF : ∀ k ∈ ks, Fp (fun x => x ≠ g9 ∧ kv.ownBlock ≠ some x) u k
  h1 : w.heap.size ≤ B
  h2 : B ≤ g9
section
variable {w : World} {zs : List (TypeId × Nat × List Value)} {B g9 : Nat} {kv : Value} {ks : List Itm} {u : World}
theorem LkV.kept {u' : World} (h : LkV w zs B g9 kv ks u) (hb : Below u.heap.size u u') : LkV w zs B g9 kv ks u' :=
  ⟨Below.then h.hb hb, fun p hp => ⟨(h.hz p hp).1.kept hb, (h.hz p hp).2⟩, h.hm.kept hb, h.hO.kept hb, h.hn, fun k hk => (h.hF k hk).to hb.size (fun x hx hl => ⟨hb.block x hl, hx⟩), h.h1, h.h2⟩
theorem LkV.grew {u' : World} {kv' : Value} {it : Itm} (h : LkV w zs B g9 kv ks u) (hit : Fp (fun x => x ≠ g9 ∧ kv.ownBlock ≠ some x) u it) (hg : u.grownBy u' kv.ownBlock) (hO : OwnOf icells 3 128 u' B kv' (ks ++ [it]))
    (hp : ∀ k, kv'.ownBlock = some k → kv.ownBlock = some k ∨ u.heap.size ≤ k) : LkV w zs B g9 kv' (ks ++ [it]) (u'.setCell ⟨g9, 2, none⟩ kv') := by
  have q1 := h.h1
  have q2 := h.h2
  have hl9 := h.hm.lt
  have hst : u'.grownBy (u'.setCell ⟨g9, 2, none⟩ kv') (some g9) := grown_cell 2 kv'
  have hn' : kv'.ownBlock ≠ some g9 := fun e => by
    rcases hp _ e with h1 | h1
    · exact h.hn h1
    · omega
  have hall : ∀ k, Fp (fun x => x ≠ g9 ∧ kv.ownBlock ≠ some x) u k → Fp (fun x => x ≠ g9 ∧ kv'.ownBlock ≠ some x) (u'.setCell ⟨g9, 2, none⟩ kv') k := by
    intro k hk
    refine hk.to (Nat.le_trans hg.size hst.size) (fun x hx hlt => ⟨?_, hx.1, fun e => ?_⟩)
    · have hx1 := hx.1
      rw [hst.block x (Nat.lt_of_lt_of_le hlt hg.size) (by simp; omega), hg.block x hlt (fun e => hx.2 e.symm)]
    · rcases hp x e with h1 | h1
      · exact hx.2 h1
      · omega
  have hb2 := h.hb.grown hg h.hb.size (fun k hk => by have := h.hO.lt k hk; omega)
  have hne : ∀ b, b < B → kv.ownBlock ≠ some b := fun b hb e => by have := h.hO.lt b e; omega
  refine ⟨hb2.setCell (by show w.heap.size ≤ g9; omega) _, fun p hp => ⟨((h.hz p hp).1.grown hg (hne _ (h.hz p hp).2)).other _ (by have := (h.hz p hp).2; simp; omega) _, (h.hz p hp).2⟩, (h.hm.grown hg h.hn).set 2 kv', hO.grown hst (fun k hk e => by cases hk; exact hn' e), hn', fun k hk => ?_, q1, q2⟩
  rcases List.mem_append.1 hk with hk | hk
  · exact hall k (h.hF k hk)
  · rw [List.mem_singleton] at hk; subst hk; exact hall k hit
theorem LkV.is (h : LkV w zs B g9 kv ks u) : IsItm u (lst kv ks) := IsItm.lst h.hO.row (fun k hk => (h.hF k hk).is)
theorem fp_at {S : Nat → Prop} {w : World} {v : Value} {t : List UInt8} (h : Bytes w v t) (hS : ∀ b, v.ownBlock = some b → S b) : Fp S w (txt v t) := by
  intro u hu
  exact .mk false v t _ [] (Bytes.onto h (fun b h1 h2 => hu b (hS b h1) h2)) (RowOf.nil icells 3 u) (by simp)
/-- a text made since -/
theorem LkV.text {u' : World} {v : Value} {t : List UInt8} (h : LkV w zs B g9 kv ks u) {B' : Nat} (hB : u.heap.size ≤ B') (hit : TxB B' t v u') : Fp (fun x => x ≠ g9 ∧ kv.ownBlock ≠ some x) u' (txt v t) := by
  have hlt := h.hm.lt
  exact fp_text hit (fun b hb => ⟨by omega, fun e => by have := own_ltK h.hO e; omega⟩)
/-- a text that lies below -/
theorem LkV.low {u' : World} {v : Value} {t : List UInt8} (h : LkV w zs B g9 kv ks u) (hit : Bytes u' v t) (hlow : ∀ b, v.ownBlock = some b → b < B) : Fp (fun x => x ≠ g9 ∧ kv.ownBlock ≠ some x) u' (txt v t) := by
  have h2 := h.h2
  exact fp_at hit (fun b hb => ⟨by have := hlow b hb; omega, fun e => by have := h.hO.lt b e; have := hlow b hb; omega⟩)
end
/-- a part of a block, as bytes -/
theorem Blk.bytesAt {e : TypeId} {w : World} {g : Nat} {cs : List Value} (hb : Blk e w g cs) (off n : Nat) (t : List UInt8) (ht : (cs.drop off).take n = by8 t) (hl : t.length = n) (hn : n ≤ maxLen) : Bytes w (.slice (some ⟨g, off, none⟩) n n) t := by
  subst hl
  refine ⟨flat_len (f := b8) (size := 1) (fun _ => rfl) t, _, _, rfl, Nat.le_refl _, hn, .inr ⟨g, off, none, rfl, .inl rfl, fun j u hu => ?_⟩⟩
  rw [flat_b8] at hu
  have hj : j < t.length := by have := (List.getElem?_eq_some_iff.1 hu).1; simpa using this
  rw [hb.cell]
  have : (by8 t)[j]? = some u := hu
  rw [← ht, List.getElem?_take_of_lt hj, List.getElem?_drop] at this
  exact this
theorem run_part_at {P : Program} {e : TypeId} (ha : ∀ w, (isAgg e).run P w = .ok false w) {cs : Array Value} {k : Nat} {v : Value} (h : cs[k]? = some v) (w : World) : (part e cs k).run P w = .ok v w := by
  unfold part
  simp [ha, h]
/-- 'a[i]' of an array of plain values -/
theorem run_index_at {P : Program} {t e : TypeId} {n : Nat} (ht : P.underlying t = some (.array n e)) (hs : (P.info? e).map (·.size) = some 1) (ha : ∀ w, (isAgg e).run P w = .ok false w) (cs : Array Value) (k : Nat) (hk : k < n) {v : Value} (h : cs[k]? = some v) (w : World) (ik : IntKind) :
    (Instr.index t (.agg cs) (.int ik (k : Int))).run P w = .ok v w := run_index_agg ht hs cs k hk w ik (run_part_at ha h w)
end Go.Proofs.Ytffkjjpjfehcnaa
