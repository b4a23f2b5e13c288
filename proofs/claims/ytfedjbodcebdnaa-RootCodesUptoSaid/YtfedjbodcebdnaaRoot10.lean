/- The reference's shapeItem of a fork: what lies there in a round; append as a step. -/
import Derived.Test.YtfedjbodcebdnaaRoot7
import Derived.Test.YtfedjbodcebdnaaRoot4
set_option linter.unusedSimpArgs false
set_option linter.unusedVariables false
namespace Go.Proofs.Ytfedjbodcebdnaa
open Go.RowKit
theorem RowOf.grownO {α : Type} {f : α → List Value} {size : Nat} {w w' : World} {b off n c : Nat} {s : Option Nat} {row : Option Nat} {l : List α} (h : RowOf f size w (.slice (some ⟨b, off, s⟩) n c) l) (hg : w.grownBy w' row) (hne : row ≠ some b) : RowOf f size w' (.slice (some ⟨b, off, s⟩) n c) l := by
  obtain ⟨h0, a, c', hv, h1, h2, h3⟩ := h
  simp only [Value.slice.injEq] at hv
  obtain ⟨rfl, hn, rfl⟩ := hv
  refine ⟨h0, _, _, by rw [hn], h1, h2, ?_⟩
  rcases h3 with ⟨h4, _⟩ | ⟨b', off', s', he, hs, hc⟩
  · simp at h4
  · simp only [Option.some.injEq, Addr.mk.injEq] at he
    obtain ⟨rfl, rfl, rfl⟩ := he
    refine .inr ⟨_, _, _, rfl, hs, fun j u hu => ?_⟩
    have hcc := hc j u hu
    have hlt := World.block_lt_of_cell? w _ hcc
    rw [← hcc]
    exact World.cell?_of_block (w := w) (hg.block b hlt (fun e => hne e.symm))
/-- 'append(own, src...)' as one step of a drawn region. -/
theorem step_appB {α : Type} {f : α → List Value} {P : Program} {w : World} {ops : Array Oper} {o : Oper} {a : Act} {K : Act → World → Prop} {Q : Exit → Act → World → Prop} {E : Prop} (hgd : o.guard = none) (s x : Operand) (t : TypeId)
    (ho : o.op = .call { callee := .builtin .append, args := #[s, x], argTypes := #[t, t] })
    {e : TypeId} {z : Value} {size bytes : Nat} (el : El0 P t e z size bytes f) {B : Nat}
    {v : Value} {l m : List α} (h1 : ∀ u ∈ m.flatMap f, u.oneCell' = true) (hs : a.eval s = v) (hown : OwnOf f size e w B v l)
    {u : Value} (hx : a.eval x = u) (hrow : RowOf f size w u m) (hB : B ≤ w.heap.size)
    (hbytes : (l.length + m.length) * bytes ≤ 140737488355328) (h63 : l.length + m.length ≤ maxLen)
    (h : ∀ v' w', OwnOf f size e w' B v' (l ++ m) → w.grownBy w' v.ownBlock → K (a.put o.dst v') w') : if Region.wanted o (yielded ops a.tmps) then o.wp P a w K Q else E := by
  have hw : Region.wanted o (yielded ops a.tmps) = true := by simp [Region.wanted, hgd]
  rw [if_pos hw]
  obtain ⟨i, hi, hz, hsi, hby⟩ := el.info
  obtain ⟨h0, ad, c, rfl, _, _, h3⟩ := hrow
  rcases h3 with ⟨rfl, hm, rfl⟩ | ⟨b, off, sp, rfl, hsp, h3⟩
  · obtain rfl : m = [] := List.eq_nil_of_length_eq_zero hm
    have hrun := run_append_owned_none (P := P) (w := w) B t o.type e i size el.ht hi v _ _ hown
    have hh := h v w (by simpa using hown) ⟨rfl, rfl, rfl, Nat.le_refl _, fun _ _ _ => rfl⟩
    unfold Oper.wp
    simp only [List.length_nil] at hx
    simp [execOp, ho, resolve, invoke, builtin, hs, hx, hrun, Result.andThen]
    exact hh
  · have hnews : ∀ j y, (m.flatMap f)[j]? = some y → w.cell? ((⟨b, off, sp⟩ : Addr).add j) = some y := by
      intro j y hy
      by_cases hm : m.length = 0
      · obtain rfl : m = [] := List.eq_nil_of_length_eq_zero hm
        simp at hy
      · obtain rfl : sp = none := hsp.resolve_right hm
        have hadd : (⟨b, off, none⟩ : Addr).add j = ⟨b, off + j, none⟩ := by unfold Addr.add; split <;> simp_all
        rw [hadd]; exact h3 j y hy
    obtain ⟨v', w', hr, k1, k2, _, _⟩ := run_append_own_at (P := P) w B t o.type e i z size bytes el.ht hi hz hsi hby el.hzs el.hsz v _ _ hown ⟨b, off, sp⟩ _ c _ h0 hnews h1 h63 hbytes hB
    unfold Oper.wp execOp
    simp only [ho, resolve, invoke, builtin, Sem.run_bind, Sem.run_pure, Result.andThen_ok, List.map_toArray, List.map_cons, List.map_nil, hs, hx, hr]
    exact h v' w' (by unfold OwnOf; rw [List.length_append, List.flatMap_append]; exact k1) k2
theorem elText : El0 Try.prog 51 34 (.slice none 0 0) 1 24 tcell := ⟨by kernel_rfl, by kernel_rfl, rfl, by omega, fun _ => rfl⟩
theorem texts_one {w : World} {ps : List (Value × List UInt8)} (h : ∀ p ∈ ps, Bytes w p.1 p.2) : ∀ u ∈ ps.flatMap tcell, u.oneCell' = true := by
  intro u hu
  obtain ⟨p, hp, hu⟩ := List.mem_flatMap.1 hu
  obtain ⟨a, c, hf, _, _⟩ := RowOf.form (h p hp)
  simp only [tcell, List.mem_singleton] at hu
  rw [hu, hf]; rfl
/-- two cells hold these values -/
def Cell2 (p q : Addr) (v x : Value) (u : World) : Prop := CellAt p v u ∧ CellAt q x u
theorem Cell2.below {p q : Addr} {v x : Value} {u u' : World} (h : Cell2 p q v x u) (hb : Below u.heap.size u u') : Cell2 p q v x u' := ⟨h.1.below hb, h.2.below hb⟩
theorem CellAt.grownO {p : Addr} {v : Value} {u u' : World} {row : Option Nat} (h : CellAt p v u) (hg : u.grownBy u' row) (hne : row ≠ some p.block) : CellAt p v u' := by
  unfold CellAt at h ⊢
  have hlt := World.block_lt_of_cell? u _ h
  rw [← h]
  exact World.cell?_of_block (w := u) (hg.block p.block hlt (fun e => hne e.symm))
/-- What lies there in a round. -/
structure FkX (w : World) (g4 Bs gq cq : Nat) (box : List Value) (qs : List (Value × List UInt8)) (kv : Value) (its : List Itm) (u : World) : Prop where
  hs : Blk 70 u w.heap.size box
  hz : Blk 37 u (w.heap.size + 1) [.bool false, .slice none 0 0, .slice none 0 0]
  hi : Blk 37 u g4 [.bool true, .slice none 0 0, kv]
  hO : OwnOf icells 3 37 u Bs kv its
  hb : Below w.heap.size w u
  hg : w.heap.size + 1 < g4
  hB : g4 < Bs
  hr : RowOf tcell 1 u (.slice (some ⟨gq, 0, none⟩) 17 cq) qs
  hq : gq < Bs
  hq4 : gq ≠ g4
theorem FkX.kept {w u u' : World} {g4 Bs gq cq : Nat} {box : List Value} {qs : List (Value × List UInt8)} {kv : Value} {its : List Itm} (h : FkX w g4 Bs gq cq box qs kv its u) (hb : Below u.heap.size u u') : FkX w g4 Bs gq cq box qs kv its u' :=
  ⟨h.hs.kept hb, h.hz.kept hb, h.hi.kept hb, h.hO.kept hb, Below.then h.hb hb, h.hg, h.hB, h.hr.kept hb, h.hq, h.hq4⟩
theorem FkX.grew {w u u' : World} {g4 Bs gq cq : Nat} {box : List Value} {qs : List (Value × List UInt8)} {kv kv' : Value} {its its' : List Itm} (h : FkX w g4 Bs gq cq box qs kv its u) (hg : u.grownBy u' kv.ownBlock) (hO : OwnOf icells 3 37 u' Bs kv' its') :
    FkX w g4 Bs gq cq box qs kv' its' (u'.setCell ⟨g4, 2, none⟩ kv') := by
  have hg4 := h.hg
  have hB := h.hB
  have hq := h.hq
  have hne : ∀ b, b < Bs → kv.ownBlock ≠ some b := fun b hb e => by have := (World.ownsRow.lt h.hO b e).1; omega
  have hs := h.hs.grown hg (hne _ (by omega))
  have hz := h.hz.grown hg (hne _ (by omega))
  have hi := h.hi.grown hg (hne _ hB)
  have hb := h.hb.grown hg h.hb.size (fun k hk => by have := (World.ownsRow.lt h.hO k hk).1; omega)
  refine ⟨hs.other _ (by simp; omega) _, hz.other _ (by simp; omega) _, hi.set 2 kv', hO.grown (grown_cell 2 kv') (fun k hk e => ?_), hb.setCell (by show w.heap.size ≤ g4; omega) _, hg4, hB, RowOf.grownNe (RowOf.grownO h.hr hg (hne _ hq)) (grown_cell 2 kv') h.hq4, hq, h.hq4⟩
  cases hk
  have := (World.ownsRow.lt hO _ e).1
  omega
end Go.Proofs.Ytfedjbodcebdnaa
