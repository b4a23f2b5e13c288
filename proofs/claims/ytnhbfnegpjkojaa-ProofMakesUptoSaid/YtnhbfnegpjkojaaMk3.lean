/- proof.Make: what lies there. -/
import Derived.Test.YtnhbfnegpjkojaaMk2
import Derived.Test.YtnhbfnegpjkojaaChk4
import Derived.Deep.Cut
set_option linter.unusedSimpArgs false
set_option linter.unusedVariables false
namespace Go.Proofs.Ytnhbfnegpjkojaa
open Go.RowKit
theorem OwnOf.neM {α β : Type} {f : α → List Value} {f' : β → List Value} {size size' : Nat} {e e' : TypeId} {w : World} {B B' : Nat} {v v' : Value} {l : List α} {l' : List β} (h : OwnOf f size e w B v l) (h' : OwnOf f' size' e' w B' v' l') (hne : e ≠ e') : ∀ k, v'.ownBlock = some k → v.ownBlock ≠ some k := by
  intro k hk hk'
  rcases h.2 with ⟨rfl, _⟩ | ⟨g, cap, cur, rfl, _, hg, _⟩
  · simp [Value.ownBlock] at hk'
  · rcases h'.2 with ⟨rfl, _⟩ | ⟨g', cap', cur', rfl, _, hg', _⟩
    · simp [Value.ownBlock] at hk
    · simp only [Value.ownBlock, Option.some.injEq] at hk hk'
      subst hk hk'
      rw [hg] at hg'
      simp only [Option.some.injEq, Obj.cells.injEq] at hg'
      exact hne hg'.2.1
/-- A whole array out of the middle of a block is loaded, first. -/
theorem take_loadm {P : Program} {S : World → Prop} {ops : Array Oper} {o : Oper} {a : Act} {K : Act → Prop} {E : Prop} (hgd : o.guard = none) (ty : TypeId) (x : Operand) (ho : o.op = .load ty x) (b off : Nat) (hx : a.eval x = .pointer (some ⟨b, off, none⟩)) {n : Nat} (hty : Agg P ty n)
    {cs : List Value} (hn : cs.length = n) (hb : ∀ u, S u → u.rangeAt b off cs) (h : K (a.put o.dst (.agg cs.toArray))) : if Region.wanted o (yielded ops a.tmps) then constI P S o a K else E := by
  have hw : Region.wanted o (yielded ops a.tmps) = true := by simp [Region.wanted, hgd]
  rw [if_pos hw]
  refine ⟨_, fun u => ?_, h⟩
  obtain ⟨d, h1, h2, h3⟩ := hty
  unfold constAtI execOp
  simp only [ho, hx, Instr.loadAt, Instr.sureAddr, Sem.run_bind, Sem.run_pure, Result.andThen_ok, run_loadVar_mid (P := P) u.val b off ty cs d (hb _ u.held) h1 (by cases d <;> simp_all) (by rw [h3, hn])]
/-- what lies there -/
structure MkW (w : World) (B : Nat) (va : Value) (all : List (Value × List UInt8)) (hv0 : Value) (H : List UInt8) (t : Nd) (ov : Value) (outs : List (Value × List UInt8)) (u : World) : Prop where
  hb : Below w.heap.size w u
  z : Blk 25 u w.heap.size (ndcells t)
  ra : RowOf tcell 1 u va all
  ta : ∀ q ∈ all, Bytes u q.1 q.2
  oh : OwnOf b8 1 5 u B hv0 H
  oo : OwnOf tcell 1 22 u B ov outs
  fa : ∀ k, va.ownBlock = some k → w.heap.size < k ∧ k < B
  ft : ∀ q ∈ all, ∀ k, q.1.ownBlock = some k → w.heap.size < k ∧ k < B
  hB : w.heap.size < B ∧ B ≤ u.heap.size
section
variable {w : World} {B : Nat} {va : Value} {all : List (Value × List UInt8)} {hv0 : Value} {H : List UInt8} {t t' : Nd} {ov ov' : Value} {outs outs' : List (Value × List UInt8)} {u u' : World}
theorem MkW.kept (h : MkW w B va all hv0 H t ov outs u) (hb : Below u.heap.size u u') : MkW w B va all hv0 H t ov outs u' :=
  ⟨Below.then h.hb hb, h.z.kept hb, h.ra.kept hb, fun q hq => (h.ta q hq).kept hb, h.oh.kept hb, h.oo.kept hb, h.fa, h.ft, h.hB.1, Nat.le_trans h.hB.2 hb.size⟩
/-- a code is laid behind the others -/
theorem MkW.grew (h : MkW w B va all hv0 H t ov outs u) (hg : u.grownBy u' ov.ownBlock) (ho : OwnOf tcell 1 22 u' B ov' outs') : MkW w B va all hv0 H t ov' outs' u' :=
  have hB := h.hB
  ⟨h.hb.grown hg h.hb.size (fun k hk => by have := OwnOf.lt h.oo k hk; omega), h.z.grown hg (h.oo.notT h.z (by decide)), RowOf.grownT h.ra hg (fun k hk => by have := (h.fa k hk).2; omega) (fun k hk e => by have h1 := OwnOf.lt h.oo k e; have h2 := (h.fa k hk).2; omega),
    fun q hq => RowOf.grownT (h.ta q hq) hg (fun k hk => by have := (h.ft q hq k hk).2; omega) (fun k hk e => by have h1 := OwnOf.lt h.oo k e; have h2 := (h.ft q hq k hk).2; omega), h.oh.grown hg (fun k hk => OwnOf.neM h.oh h.oo (by decide) k hk), ho, h.fa, h.ft, hB.1, Nat.le_trans hB.2 hg.size⟩
/-- a kid's cells are laid -/
theorem MkW.kid (h : MkW w B va all hv0 H t ov outs u) {gk : Nat} {cs : List Value} (hg : u.grownBy u' (some gk)) (hz : Blk 25 u gk cs) (hgk : B ≤ gk) : MkW w B va all hv0 H t ov outs u' :=
  have hB := h.hB
  ⟨h.hb.grown hg h.hb.size (fun k hk => by cases hk; omega), h.z.grown hg (fun e => by simp only [Option.some.injEq] at e; omega), h.ra.offT hg (fun k hk => by have := (h.fa k hk).2; omega), fun q hq => (h.ta q hq).offT hg (fun k hk => by have := (h.ft q hq k hk).2; omega),
    h.oh.grown hg (fun k hk => by cases hk; exact h.oh.notT hz (by decide)), h.oo.grown hg (fun k hk => by cases hk; exact h.oo.notT hz (by decide)), h.fa, h.ft, hB.1, Nat.le_trans hB.2 hg.size⟩
/-- it goes on with another node -/
theorem MkW.turn (h : MkW w B va all hv0 H t ov outs u) (hg : u.grownBy u' (some w.heap.size)) (hz : Blk 25 u' w.heap.size (ndcells t')) : MkW w B va all hv0 H t' ov outs u' :=
  have hB := h.hB
  ⟨h.hb.grown hg h.hb.size (fun k hk => by cases hk; exact Nat.le_refl _), hz, h.ra.offT hg (fun k hk => by have := (h.fa k hk).1; omega), fun q hq => (h.ta q hq).offT hg (fun k hk => by have := (h.ft q hq k hk).1; omega),
    h.oh.grown hg (fun k hk e => by cases hk; have := OwnOf.lt h.oh _ e; omega), h.oo.grown hg (fun k hk e => by cases hk; have := OwnOf.lt h.oo _ e; omega), h.fa, h.ft, hB.1, Nat.le_trans hB.2 hg.size⟩
end
/-- what a drawn region reads of a node, of a path, of a kid -/
def KidS (p1 p2 : Addr) (v1 v2 : Value) (xb xo : Nat) (KC : List Value) (u : World) : Prop := u.cell? p1 = some v1 ∧ u.cell? p2 = some v2 ∧ u.rangeAt xb xo KC
theorem KidS.grown {p1 p2 : Addr} {v1 v2 : Value} {xb xo gk : Nat} {KC : List Value} {u u' : World} (h : KidS p1 p2 v1 v2 xb xo KC u) (hg : u.grownBy u' (some gk)) (h1 : p1.block ≠ gk) (h2 : p2.block ≠ gk) (h3 : xb ≠ gk) : KidS p1 p2 v1 v2 xb xo KC u' :=
  ⟨hg.cell h.1 (fun e => h1 (by simpa using e)), hg.cell h.2.1 (fun e => h2 (by simpa using e)), fun j v hv => hg.cell (h.2.2 j v hv) (fun e => h3 (by simpa using e))⟩
def MkP (E : Int) (A : List (List UInt8)) (w : World) (e : Ending) (w' : World) : Prop := ∃ v ps, e = .returned (.tuple #[v, .int .i64 E]) ∧ RowOf tcell 1 w' v ps ∧ (∀ q ∈ ps, Bytes w' q.1 q.2) ∧ ps.map (·.2) = A ∧ Below w.heap.size w w'
/-- what a key shows: the refusals -/
def mkE (t : Nd) (key : List UInt8) : Int := if rgt 0 t = true then (if key.length ≤ 32 then 0 else 3) else 1
def mkL (t : Nd) (key : List UInt8) : List (List UInt8) := if rgt 0 t = true then (if key.length ≤ 32 then dn (bulkN t) t (halvesL key) else []) else []
/-- how far it has come -/
structure MkS (w : World) (t0 : Nd) (H : List UInt8) (hv0 : Value) (T : List (List UInt8)) (all outs : List (Value × List UInt8)) (t : Nd) (i : Nat) (p : List UInt8) (pv : Value) (n d : Nat) : Prop where
  hn : bulkN t ≤ n
  hr : rgt d t = true
  hI : IsNd w t
  hb : bulkN t ≤ 1048576
  hd : t.kd ≠ 0 → ∃ l, (whN t0).drop i = alN t ++ l
  hi : i < (whN t0).length
  hs : SubB hv0 H pv p
  hx : ∀ x ∈ p, x.toNat < 16
  hm : ∀ q ∈ outs, q ∈ all
  ht : outs.map (·.2) ++ (dn n t p).tail = T
  hl : outs.length + n ≤ 1048577
theorem MkS.stop {w : World} {t0 : Nd} {H : List UInt8} {hv0 : Value} {T : List (List UInt8)} {all outs : List (Value × List UInt8)} {kd : Int} {tv : Value} {path : List UInt8} {vv : Value} {vb : List UInt8} {kv : Value} {ks : List Nd} {i : Nat} {p : List UInt8} {pv : Value} {n d : Nat} (h : MkS w t0 H hv0 T all outs (.mk kd tv path vv vb kv ks) i p pv n d)
    (hs : rst kd path p = none ∨ ∃ j q k, rst kd path p = some (j, q) ∧ ks[j]? = some k ∧ k.kd = 0) : outs.map (·.2) = T := by
  rw [← h.ht]
  have hn := h.hn
  cases n with
  | zero => have := bulkN_pos (.mk kd tv path vv vb kv ks); omega
  | succ n =>
    rcases hs with hs | ⟨j, q, k, hs, hk, hk0⟩
    · rw [dn, hs]; simp
    · rw [dn, hs]
      simp only [hk, hk0, if_true, List.tail_cons, List.append_nil]
/-- it goes on with a kid -/
theorem MkS.go {w : World} {t0 : Nd} {H : List UInt8} {hv0 : Value} {T : List (List UInt8)} {all outs : List (Value × List UInt8)} {kd : Int} {tv : Value} {path : List UInt8} {vv : Value} {vb : List UInt8} {kv : Value} {ks : List Nd} {i : Nat} {p : List UInt8} {pv : Value} {n d : Nat} (h : MkS w t0 H hv0 T all outs (.mk kd tv path vv vb kv ks) i p pv n d)
    {j : Nat} {q : List UInt8} {k : Nd} {qv : Value} (hs : rst kd path p = some (j, q)) (hk : ks[j]? = some k) (hk0 : k.kd ≠ 0) (hq : SubB pv p qv q) (hW : all.map (·.2) = whN t0) : ∃ x d', all[i + 1 + szL (ks.take j)]? = some x ∧ MkS w t0 H hv0 T all (outs ++ [x]) k (i + 1 + szL (ks.take j)) q qv (n - 1) d' ∧ n - 1 + 1 = n := by
  have hn := h.hn
  have hmem : k ∈ ks := List.mem_of_getElem? hk
  have hbk := bulkN_mem hmem
  obtain ⟨k', d', hk', hr', _⟩ := rst_kid h.hr hs h.hx
  rw [hk] at hk'
  simp only [Option.some.injEq] at hk'
  subst hk'
  simp only [bulkN] at hn
  obtain ⟨m, rfl⟩ : ∃ m, n = m + 1 := ⟨n - 1, by omega⟩
  have hkd : kd ≠ 0 ∧ kd ≠ 1 := by
    unfold rst at hs
    split at hs
    · rename_i e; subst e; decide
    · split at hs
      · rename_i e; subst e; decide
      · cases hs
  obtain ⟨l, hl⟩ := h.hd hkd.1
  obtain ⟨l2, hl2⟩ := alL_at ks j k hk hk0
  have hd2 : (whN t0).drop (i + 1 + szL (ks.take j)) = alN k ++ (l2 ++ l) := by
    rw [show i + 1 + szL (ks.take j) = i + (1 + szL (ks.take j)) from by omega, ← List.drop_drop, hl, alN, if_neg hkd.2, List.cons_append, Nat.add_comm 1, List.drop_succ_cons, List.drop_append, hl2]
    have h1 : szL (ks.take j) ≤ (alL ks).length := by rw [alL_sz]; exact szL_take ks j
    rw [Nat.sub_eq_zero_of_le h1, List.drop_zero, List.append_assoc]
  obtain ⟨l3, hl3⟩ := alN_ne k
  have hlt : i + 1 + szL (ks.take j) < (whN t0).length := by
    have := congrArg List.length hd2
    rw [List.length_drop, hl3] at this
    simp at this; omega
  have hal : i + 1 + szL (ks.take j) < all.length := by rw [← hW, List.length_map] at hlt; exact hlt
  obtain ⟨x, hx⟩ : ∃ x, all[i + 1 + szL (ks.take j)]? = some x := ⟨_, List.getElem?_eq_getElem hal⟩
  have hx2 : x.2 = cdN k := by
    have h1 : (whN t0)[i + 1 + szL (ks.take j)]? = some x.2 := by rw [← hW, List.getElem?_map, hx]; rfl
    have h2 : ((whN t0).drop (i + 1 + szL (ks.take j)))[0]? = some x.2 := by rw [List.getElem?_drop, Nat.add_zero]; exact h1
    rw [hd2, hl3] at h2
    simpa using h2.symm
  refine ⟨x, d', hx, ⟨by omega, hr', ?_, by have := h.hb; simp only [bulkN] at this; omega, fun _ => ⟨_, hd2⟩, hlt, h.hs.trans hq, (rst_half hs h.hx).1, fun y hy => ?_, ?_, by have := h.hl; simp only [List.length_append, List.length_singleton]; omega⟩, by omega⟩
  · exact h.hI.inv.2.2.2 k hmem
  · rcases List.mem_append.1 hy with hy | hy
    · exact h.hm y hy
    · rw [List.mem_singleton] at hy; rw [hy]; exact List.mem_of_getElem? hx
  · have ht := h.ht
    rw [dn, hs] at ht
    simp only [hk, List.tail_cons] at ht
    rw [if_neg hk0] at ht
    rw [← ht, List.map_append, List.append_assoc]
    congr 1
    rw [show m + 1 - 1 = m from rfl, List.map_singleton, hx2, ← hdN_kd hk0]
    obtain ⟨kd', a1, a2, a3, a4, a5, a6⟩ := k
    cases m with
    | zero => rw [dn]; rfl
    | succ m => rw [dn]; rfl
end Go.Proofs.Ytnhbfnegpjkojaa
