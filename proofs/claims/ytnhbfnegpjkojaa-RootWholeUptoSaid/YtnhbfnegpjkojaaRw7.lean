/- root.codes: what lies there while the kids are gone through. -/
import Derived.Test.YtnhbfnegpjkojaaRw6
set_option linter.unusedSimpArgs false
set_option linter.unusedVariables false
namespace Go.Proofs.Ytnhbfnegpjkojaa
open Go.RowKit
/-- all but a cell's block and a row's own lies as it lay -/
structure But2 (g : Nat) (v : Value) (w w' : World) : Prop where
  os : w'.os = w.os
  tape : w'.tape = w.tape
  output : w'.output = w.output
  size : w.heap.size ≤ w'.heap.size
  block : ∀ k, k < w.heap.size → k ≠ g → v.ownBlock ≠ some k → w'.heap[k]? = w.heap[k]?
theorem But2.refl (g : Nat) (v : Value) (w : World) : But2 g v w w := ⟨rfl, rfl, rfl, Nat.le_refl _, fun _ _ _ _ => rfl⟩
theorem But2.trans {g : Nat} {v v' : Value} {w u u' : World} (h : But2 g v w u) (hv : ∀ k, v'.ownBlock = some k → v.ownBlock = some k ∨ w.heap.size ≤ k) (h' : But2 g v' u u') : But2 g v w u' :=
  ⟨h'.os.trans h.os, h'.tape.trans h.tape, h'.output.trans h.output, Nat.le_trans h.size h'.size, fun k hk h1 h2 =>
    (h'.block k (Nat.lt_of_lt_of_le hk h.size) h1 (fun e => (hv k e).elim h2 (fun h3 => by omega))).trans (h.block k hk h1 h2)⟩
theorem But2.kept {g : Nat} {v : Value} {w u u' : World} (h : But2 g v w u) (hb : Below u.heap.size u u') : But2 g v w u' :=
  ⟨hb.os.trans h.os, hb.tape.trans h.tape, hb.output.trans h.output, Nat.le_trans h.size hb.size, fun k hk h1 h2 => (hb.block k (Nat.lt_of_lt_of_le hk h.size)).trans (h.block k hk h1 h2)⟩
theorem But2.grown {g : Nat} {v : Value} {w u u' : World} {row : Option Nat} (h : But2 g v w u) (hg : u.grownBy u' row) (hr : ∀ k, row = some k → k = g ∨ v.ownBlock = some k ∨ w.heap.size ≤ k) : But2 g v w u' :=
  ⟨hg.os.trans h.os, hg.tape.trans h.tape, hg.output.trans h.output, Nat.le_trans h.size hg.size, fun k hk h1 h2 =>
    (hg.block k (Nat.lt_of_lt_of_le hk h.size) (fun e => by rcases hr k e.symm with h3 | h3 | h3
                                                            · exact h1 h3
                                                            · exact h2 h3
                                                            · omega)).trans (h.block k hk h1 h2)⟩
theorem But2.below {g B : Nat} {v : Value} {w u : World} (h : But2 g v w u) (hB : B ≤ w.heap.size) (hg : B ≤ g) (hv : ∀ k, v.ownBlock = some k → B ≤ k) : Below B w u :=
  ⟨h.os, h.tape, h.output, h.size, fun k hk => h.block k (by omega) (by omega) (fun e => by have := hv k e; omega)⟩
theorem Blk.but {e : TypeId} {w w' : World} {g k : Nat} {v : Value} {cs : List Value} (h : Blk e w k cs) (hb : But2 g v w w') (h1 : k ≠ g) (h2 : v.ownBlock ≠ some k) : Blk e w' k cs := (hb.block k h.lt h1 h2).trans h
theorem RowOf.but {α : Type} {f : α → List Value} {size : Nat} {w w' : World} {g : Nat} {v a : Value} {l : List α} (h : RowOf f size w a l) (hb : But2 g v w w') (h1 : a.ownBlock ≠ some g) (h2 : ∀ x, a.ownBlock = some x → v.ownBlock ≠ some x) : RowOf f size w' a l := by
  obtain ⟨h0, a, c, rfl, k1, k2, h3⟩ := h
  refine ⟨h0, a, c, rfl, k1, k2, ?_⟩
  rcases h3 with h3 | ⟨b, off, s, rfl, hs, h3⟩
  · exact .inl h3
  · refine .inr ⟨b, off, s, rfl, hs, fun j u hu => ?_⟩
    have hc := h3 j u hu
    rw [World.cell?_of_block (w := w) (hb.block b (World.block_lt_of_cell? w _ hc) (fun e => h1 (by rw [← e]; rfl)) (h2 b rfl))]; exact hc
theorem OwnOf.but {α : Type} {f : α → List Value} {size : Nat} {e : TypeId} {w w' : World} {g B : Nat} {v a : Value} {l : List α} (h : OwnOf f size e w B a l) (hb : But2 g v w w') (h1 : a.ownBlock ≠ some g) (h2 : ∀ x, a.ownBlock = some x → v.ownBlock ≠ some x) : OwnOf f size e w' B a l := by
  refine ⟨h.1, ?_⟩
  rcases h.2 with h3 | ⟨q, cap, cur, rfl, h3, h4, h5⟩
  · exact .inl h3
  · exact .inr ⟨q, cap, cur, rfl, h3, (hb.block q (Array.getElem?_eq_some_iff.1 h4).1 (fun e => h1 (by rw [← e]; rfl)) (h2 q rfl)).trans h4, h5⟩
/-- a text made since, apart from two rows in the making -/
structure TxC (z : Nat) (kv rv : Value) (u : World) (q : Value × List UInt8) : Prop where
  h : Bytes u q.1 q.2
  l : q.2.length ≤ 1000000000
  b : ∀ k, q.1.ownBlock = some k → z < k ∧ k < u.heap.size ∧ kv.ownBlock ≠ some k ∧ rv.ownBlock ≠ some k
theorem TxC.kept {z : Nat} {kv rv : Value} {u u' : World} {q : Value × List UInt8} (h : TxC z kv rv u q) (hb : Below u.heap.size u u') : TxC z kv rv u' q :=
  ⟨h.h.kept hb, h.l, fun k hk => ⟨(h.b k hk).1, Nat.lt_of_lt_of_le (h.b k hk).2.1 hb.size, (h.b k hk).2.2⟩⟩
theorem TxC.grewS {z : Nat} {kv kv' rv : Value} {u u' : World} {q : Value × List UInt8} (h : TxC z kv rv u q) (hg : u.grownBy u' kv.ownBlock) (hp : ∀ k, kv'.ownBlock = some k → kv.ownBlock = some k ∨ u.heap.size ≤ k) : TxC z kv' rv u' q :=
  ⟨RowOf.grownT h.h hg (fun k hk => (h.b k hk).2.1) (fun k hk => (h.b k hk).2.2.1), h.l, fun k hk => ⟨(h.b k hk).1, Nat.lt_of_lt_of_le (h.b k hk).2.1 hg.size, fun e => (hp k e).elim (h.b k hk).2.2.1 (fun h1 => by have := (h.b k hk).2.1; omega), (h.b k hk).2.2.2⟩⟩
theorem TxC.but {z g : Nat} {kv rv rv' : Value} {u u' : World} {q : Value × List UInt8} (h : TxC z kv rv u q) (hb : But2 g rv u u') (hg : g ≤ z) (hp : ∀ k, rv'.ownBlock = some k → rv.ownBlock = some k ∨ u.heap.size ≤ k) : TxC z kv rv' u' q :=
  ⟨RowOf.but h.h hb (fun e => by have := (h.b _ e).1; omega) (fun x hx => (h.b x hx).2.2.2), h.l, fun k hk => ⟨(h.b k hk).1, Nat.lt_of_lt_of_le (h.b k hk).2.1 hb.size, (h.b k hk).2.2.1, fun e => (hp k e).elim (h.b k hk).2.2.2 (fun h1 => by have := (h.b k hk).2.1; omega)⟩⟩
theorem TxC.set {z : Nat} {kv rv : Value} {u : World} {q : Value × List UInt8} (h : TxC z kv rv u q) (i : Nat) (v : Value) : TxC z kv rv (u.setCell ⟨z, i, none⟩ v) q :=
  ⟨RowOf.grownT h.h (gsetT u _ i v) (fun k hk => (h.b k hk).2.1) (fun k hk e => by have := (h.b k hk).1; simp only [Option.some.injEq] at e; omega), h.l, fun k hk => by have := h.b k hk; simpa only [World.size_setCell] using this⟩
/-- what lies there -/
structure CdW (w : World) (N4 : List Value) (kd : Int) (P V : Value) (g B0 z : Nat) (v0 : Value) (ps : List (Value × List UInt8)) (kv rv : Value) (sums rest : List (Value × List UInt8)) (u : World) : Prop where
  bt : But2 g v0 w u
  pv : ∀ k, rv.ownBlock = some k → v0.ownBlock = some k ∨ w.heap.size ≤ k
  gl : g < w.heap.size
  zl : w.heap.size < z
  z1 : Blk 25 u w.heap.size N4
  z2 : Blk 190 u z [.int .i64 kd, P, V, kv]
  zg : Blk 26 u g [rv]
  oS : OwnOf tcell 1 22 u (z + 1) kv sums
  oR : OwnOf tcell 1 22 u B0 rv (ps ++ (.slice none 0 0, []) :: rest)
  ne : ∀ k, kv.ownBlock = some k → rv.ownBlock ≠ some k
  tS : ∀ q ∈ sums, TxC z kv rv u q
  tR : ∀ q ∈ rest, TxC z kv rv u q
/-- what codes comes to -/
def CdPost (C : List UInt8) (A : List (List UInt8)) (g B0 : Nat) (v : Value) (ps : List (Value × List UInt8)) (w : World) (e : Ending) (w' : World) : Prop :=
  ∃ cv v' ps', e = .returned cv ∧ Bytes w' cv C ∧ C.length ≤ 1000000000 ∧ (∀ k, cv.ownBlock = some k → w.heap.size ≤ k ∧ k < w'.heap.size ∧ v'.ownBlock ≠ some k) ∧ Blk 26 w' g [v'] ∧ OwnOf tcell 1 22 w' B0 v' (ps ++ ps') ∧ ps'.map (·.2) = A ∧
    (∀ q ∈ ps', Bytes w' q.1 q.2 ∧ q.2.length ≤ 1000000000 ∧ ∀ k, q.1.ownBlock = some k → w.heap.size ≤ k ∧ k < w'.heap.size ∧ v'.ownBlock ≠ some k) ∧ (∀ k, v'.ownBlock = some k → v.ownBlock = some k ∨ w.heap.size ≤ k) ∧ But2 g v w w'
section
variable {w : World} {N4 : List Value} {kd : Int} {P V kv kv' v0 rv rv' : Value} {g B0 z : Nat} {ps sums rest sums' rest' : List (Value × List UInt8)} {u u' : World}
theorem CdW.kept (h : CdW w N4 kd P V g B0 z v0 ps kv rv sums rest u) (hb : Below u.heap.size u u') : CdW w N4 kd P V g B0 z v0 ps kv rv sums rest u' :=
  ⟨h.bt.kept hb, h.pv, h.gl, h.zl, h.z1.kept hb, h.z2.kept hb, h.zg.kept hb, h.oS.kept hb, h.oR.kept hb, h.ne, fun q hq => (h.tS q hq).kept hb, fun q hq => (h.tR q hq).kept hb⟩
theorem CdW.grewS (h : CdW w N4 kd P V g B0 z v0 ps kv rv sums rest u) (hg : u.grownBy u' kv.ownBlock) (ho : OwnOf tcell 1 22 u' (z + 1) kv' (sums ++ sums')) (hp : ∀ k, kv'.ownBlock = some k → kv.ownBlock = some k ∨ u.heap.size ≤ k) (hn : ∀ q ∈ sums', TxC z kv rv u q) :
    CdW w N4 kd P V g B0 z v0 ps kv' rv (sums ++ sums') rest (u'.setCell ⟨z, 3, none⟩ kv') := by
  have hzl := h.zl
  have hgl := h.gl
  have y1 := h.z1.grown hg (h.oS.notT h.z1 (by decide))
  have y2 := h.z2.grown hg (h.oS.notT h.z2 (by decide))
  have yg := h.zg.grown hg (h.oS.notT h.zg (by decide))
  have oR := h.oR.grown hg (fun k hk e => h.ne k hk e)
  have hb := h.bt.grown hg (fun k hk => .inr (.inr (by have := OwnOf.lt h.oS k hk; omega)))
  have g2 := gsetT u' z 3 kv'
  have y3 := y2.set 3 kv'
  refine ⟨hb.grown g2 (fun k hk => .inr (.inr (by cases hk; omega))), h.pv, h.gl, h.zl, y1.other _ (by show z ≠ w.heap.size; omega) _, y3, yg.other _ (by show z ≠ g; omega) _, ho.grown g2 (fun k hk => by cases hk; exact ho.notT y2 (by decide)), oR.grown g2 (fun k hk => by cases hk; exact oR.notT y2 (by decide)), fun k hk e => (hp k hk).elim (fun h1 => h.ne k h1 e) (fun h1 => by have := OwnOf.ltT h.oR k e; omega), fun q hq => ?_, fun q hq => ((h.tR q hq).grewS hg hp).set 3 kv'⟩
  rcases List.mem_append.1 hq with hq | hq
  · exact ((h.tS q hq).grewS hg hp).set 3 kv'
  · exact ((hn q hq).grewS hg hp).set 3 kv'
/-- a kid's codes are laid -/
theorem CdW.call (h : CdW w N4 kd P V g B0 z v0 ps kv rv sums rest u) (hb : But2 g rv u u') (hz : Blk 26 u' g [rv']) (ho : OwnOf tcell 1 22 u' B0 rv' ((ps ++ (.slice none 0 0, []) :: rest) ++ rest')) (hp : ∀ k, rv'.ownBlock = some k → rv.ownBlock = some k ∨ u.heap.size ≤ k)
    (hn : ∀ q ∈ rest', Bytes u' q.1 q.2 ∧ q.2.length ≤ 1000000000 ∧ ∀ k, q.1.ownBlock = some k → u.heap.size ≤ k ∧ k < u'.heap.size ∧ rv'.ownBlock ≠ some k) : CdW w N4 kd P V g B0 z v0 ps kv rv' sums (rest ++ rest') u' := by
  have hzl := h.zl
  have hgl := h.gl
  have hz2 := h.z2.lt
  refine ⟨h.bt.trans h.pv hb, fun k hk => (hp k hk).elim (h.pv k) (fun h1 => .inr (Nat.le_trans h.bt.size h1)), h.gl, h.zl, h.z1.but hb (by omega) (h.oR.notT h.z1 (by decide)), h.z2.but hb (by omega) (h.oR.notT h.z2 (by decide)), hz, h.oS.but hb (fun e => by have := OwnOf.lt h.oS _ e; omega) (h.ne), by rw [List.append_assoc] at ho; exact ho,
    fun k hk e => (hp k e).elim (h.ne k hk) (fun h1 => by have := OwnOf.ltT h.oS k hk; omega), fun q hq => (h.tS q hq).but hb (by omega) hp, fun q hq => ?_⟩
  rcases List.mem_append.1 hq with hq | hq
  · exact (h.tR q hq).but hb (by omega) hp
  · obtain ⟨k1, k2, k3⟩ := hn q hq
    exact ⟨k1, k2, fun k hk => ⟨by have := (k3 k hk).1; omega, (k3 k hk).2.1, fun e => by have h1 := OwnOf.ltT h.oS k e; have h2 := (k3 k hk).1; omega, (k3 k hk).2.2⟩⟩
end
/-- what the kids come to, a leaf's as nothing -/
def smK (kd : Int) (ks : List Nd) (k : Nat) : List (List UInt8) := if kd = 1 then List.replicate k [] else smN (ks.take k)
def alK (kd : Int) (ks : List Nd) (k : Nat) : List (List UInt8) := if kd = 1 then [] else alL (ks.take k)
theorem cdN_K (kd : Int) (pv : Value) (p : List UInt8) (vv : Value) (v : List UInt8) (kv : Value) (ks : List Nd) : cdN (.mk kd pv p vv v kv ks) = if shOk kd p v (smK kd ks ks.length) = true then shB kd p v (smK kd ks ks.length) else [] := by
  rw [cdN, smK, List.take_length]
  by_cases h : kd = 1
  · subst h
    rw [if_pos rfl, if_pos rfl, shOk_leaf p v [] (List.replicate ks.length []), shB_leaf p v [] (List.replicate ks.length [])]
  · rw [if_neg h, if_neg h]
theorem alN_K (kd : Int) (pv : Value) (p : List UInt8) (vv : Value) (v : List UInt8) (kv : Value) (ks : List Nd) : alN (.mk kd pv p vv v kv ks) = cdN (.mk kd pv p vv v kv ks) :: alK kd ks ks.length := by
  rw [alN, alK, List.take_length]
theorem smK_le (kd : Int) (ks : List Nd) (k : Nat) : ∀ l ∈ smK kd ks k, l.length ≤ 1048576 := by
  intro l h
  unfold smK at h
  split at h
  · rw [List.eq_of_mem_replicate h]; simp
  · exact smN_le _ l h
theorem smK_len (kd : Int) (ks : List Nd) (k : Nat) (hk : k ≤ ks.length) : (smK kd ks k).length = k := by
  unfold smK
  split
  · simp
  · rw [smN_len, List.length_take]; omega
end Go.Proofs.Ytnhbfnegpjkojaa
