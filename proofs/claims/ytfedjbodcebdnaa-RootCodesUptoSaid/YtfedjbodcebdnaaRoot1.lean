/- Shapes as data: what they are written as; root.sum. -/
import Derived.Test.YtfedjbodcebdnaaItem1
import Derived.Test.YtfedjbodcebdnaaOpen2
import Derived.Test.YtfedjbodcebdnaaNib7
set_option linter.unusedSimpArgs false
set_option linter.unusedVariables false
namespace Go.Proofs.Ytfedjbodcebdnaa
open Go.RowKit
/-- is it a sum, or (if it may lack) nothing? -/
def sumOk (n : Nat) (lack : Bool) : Bool := decide (n = 32) || (lack && decide (n = 0))
/-- a list of texts, written -/
def lsB (ts : List (List UInt8)) : List UInt8 := headB 192 (ts.flatMap textB).length ++ ts.flatMap textB
def manyB (v : List UInt8) (ks : List (List UInt8)) : Nat := min v.length 1 + (ks.map fun k => min k.length 1).sum
/-- is it a shape? -/
def shOk (k : Int) (p v : List UInt8) (ks : List (List UInt8)) : Bool :=
  if k = 0 then true
  else if k = 1 then !wrongB p && decide (1 ≤ v.length) && decide (v.length ≤ 1024)
  else if k = 2 then !wrongB p && decide (1 ≤ p.length) && decide (ks.length = 1) && decide ((ks[0]?.getD []).length = 32)
  else if k = 3 then decide (ks.length = 16) && decide (v.length ≤ 1024) && (ks.all fun t => sumOk t.length true) && decide (2 ≤ manyB v ks)
  else false
def shB (k : Int) (p v : List UInt8) (ks : List (List UInt8)) : List UInt8 :=
  if k = 0 then textB []
  else if k = 1 then lsB [joinR (tagL p true), v]
  else if k = 2 then lsB [joinR (tagL p false), ks[0]?.getD []]
  else lsB (ks ++ [v])
def txts (ps : List (Value × List UInt8)) : List Itm := ps.map fun p => txt p.1 p.2
theorem encL_txts (ps : List (Value × List UInt8)) : encL (txts ps) = (ps.map (·.2)).flatMap textB := by
  induction ps with
  | nil => simp [txts, encL]
  | cons p ps ih =>
    have e : txts (p :: ps) = txt p.1 p.2 :: txts ps := rfl
    rw [e, encL, encI_txt, ih]; simp
theorem encI_lst_txts (kv : Value) (ps : List (Value × List UInt8)) : encI (lst kv (txts ps)) = lsB (ps.map (·.2)) := by
  rw [encI_lst, encL_txts]; rfl
theorem bulkL_txts (ps : List (Value × List UInt8)) : bulkL (txts ps) = (ps.map fun p => 1 + p.2.length).sum := by
  induction ps with
  | nil => simp [txts, bulkL]
  | cons p ps ih =>
    have e : txts (p :: ps) = txt p.1 p.2 :: txts ps := rfl
    rw [e, bulkL, bulk_txt, ih]; simp
theorem txts_is {w : World} {ps : List (Value × List UInt8)} (h : ∀ p ∈ ps, Bytes w p.1 p.2) : ∀ k ∈ txts ps, IsItm w k := by
  intro k hk
  obtain ⟨p, hp, rfl⟩ := List.mem_map.1 hk
  exact IsItm.txt (h p hp)
/-- What comes of an item: is there one? then it is written so. -/
def ItemPost (ok : Bool) (B : List UInt8) (w : World) (e : Ending) (w' : World) : Prop :=
  ∃ (l : Bool) (ta : Option Addr) (tn tc : Nat) (t : List UInt8) (ka : Option Addr) (kn kc : Nat) (ks : List Itm), e = .returned (.tuple #[.agg #[.bool l, .slice ta tn tc, .slice ka kn kc], .bool ok]) ∧
    (ok = true → IsItm w' (.mk l (.slice ta tn tc) t (.slice ka kn kc) ks) ∧ encI (.mk l (.slice ta tn tc) t (.slice ka kn kc) ks) = B ∧ bulkI (.mk l (.slice ta tn tc) t (.slice ka kn kc) ks) ≤ 100000000) ∧ Below w.heap.size w w'
set_option maxRecDepth 100000 in
theorem rsum_any (a : Option Addr) (n c : Nat) (lack : Bool) (w : World) (hn : n ≤ 140737488355328) : Calls Try.prog 106 #[.slice a n c, .bool lack] w fun e w' => e = .returned (.bool (sumOk n lack)) ∧ w = w' := by
  have h : n = 32 ∨ (n = 0) ∨ (n ≠ 32 ∧ n ≠ 0) := by omega
  rcases h with rfl | rfl | ⟨h1, h2⟩
  · go_enter Try.func106, Try.ntmps106
    go_wp2
    go_ret
    exact ⟨rfl, rfl⟩
  · cases lack
    all_goals
      go_enter Try.func106, Try.ntmps106
      go_wp2
      go_ret
      exact ⟨rfl, rfl⟩
  · have e1 : ((n : Int) == 32) = false := by rw [beq_eq_false_iff_ne]; omega
    have e2 : ((n : Int) == 0) = false := by rw [beq_eq_false_iff_ne]; omega
    have e3 : sumOk n lack = false := by unfold sumOk; simp [h1, h2]
    have E3 := Lib.hid e3
    clear e3
    cases lack
    all_goals
      go_enter Try.func106, Try.ntmps106
      go_wp2
      go_ret
      exact ⟨by rw [E3.out]; rfl, rfl⟩
def ListT (T V : List UInt8) : Ty := fun v w => ∃ (g : Nat) (v1 v2 : Value), v = .agg #[.bool true, .slice none 0 0, .slice (some ⟨g, 0, none⟩) 2 2] ∧ RowOf icells 3 w (.slice (some ⟨g, 0, none⟩) 2 2) [txt v1 T, txt v2 V] ∧ Bytes w v1 T ∧ Bytes w v2 V
theorem ListT.mono (T V : List UInt8) : Mono (ListT T V) := fun _ _ _ ⟨g, v1, v2, h1, h2, h3, h4⟩ hb => ⟨g, v1, v2, h1, RowOf.kept h2 hb, RowOf.kept h3 hb, RowOf.kept h4 hb⟩
def PairT (v1 v2 : Value) (T V : List UInt8) : Ty := fun v w => ∃ g : Nat, v = .slice (some ⟨g, 0, none⟩) 2 2 ∧ RowOf icells 3 w v [txt v1 T, txt v2 V]
theorem PairT.mono (v1 v2 : Value) (T V : List UInt8) : Mono (PairT v1 v2 T V) := fun _ _ _ ⟨g, h1, h2⟩ hb => ⟨g, h1, RowOf.kept h2 hb⟩
/-- the worlds in which that cell holds that value -/
def CellAt (p : Addr) (v : Value) (u : World) : Prop := u.cell? p = some v
theorem CellAt.below {p : Addr} {v : Value} {u u' : World} (h : CellAt p v u) (hb : Below u.heap.size u u') : CellAt p v u' := by
  unfold CellAt at h ⊢
  rw [hb.cell (World.block_lt_of_cell? u _ h)]; exact h
theorem CellAt.grown {p : Addr} {v : Value} {u u' : World} {g : Nat} (h : CellAt p v u) (hg : u.grownBy u' (some g)) (hne : p.block ≠ g) : CellAt p v u' := by
  unfold CellAt at h ⊢
  have hlt := World.block_lt_of_cell? u _ h
  rw [← h]
  exact World.cell?_of_block (w := u) (hg.block p.block hlt (by simpa using hne))
theorem RowOf.grownNe {α : Type} {f : α → List Value} {size : Nat} {w w' : World} {b off n c g : Nat} {s : Option Nat} {l : List α} (h : RowOf f size w (.slice (some ⟨b, off, s⟩) n c) l) (hg : w.grownBy w' (some g)) (hne : b ≠ g) : RowOf f size w' (.slice (some ⟨b, off, s⟩) n c) l := by
  obtain ⟨h0, a, c', hv, h1, h2, h3⟩ := h
  simp only [Value.slice.injEq] at hv
  obtain ⟨rfl, hn, rfl⟩ := hv
  refine ⟨h0, _, _, by rw [hn], h1, h2, ?_⟩
  rcases h3 with ⟨h4, _⟩ | ⟨b', off', s', he, hs, hc⟩
  · simp at h4
  · simp only [Option.some.injEq, Addr.mk.injEq] at he
    obtain ⟨rfl, rfl, rfl⟩ := he
    refine .inr ⟨_, _, _, rfl, hs, fun j u hu => ?_⟩
    have hcc := hc j u hu
    have hlt := World.block_lt_of_cell? w _ hcc
    rw [← hcc]
    exact World.cell?_of_block (w := w) (hg.block b hlt (by simpa using hne))
/-- A text is no part of a block that holds no bytes. -/
theorem Bytes.off {w w' : World} {a : Option Addr} {n c g : Nat} {l : List UInt8} {e : TypeId} {cs : List Value} (h : Bytes w (.slice a n c) l) (hz : Blk e w g cs) (hno : ∀ u ∈ cs, ∀ k, u ≠ .int .u8 k) (hg : w.grownBy w' (some g)) : Bytes w' (.slice a n c) l := by
  cases a with
  | none =>
    obtain ⟨h0, a, c', hv, h1, h2, h3⟩ := h
    simp only [Value.slice.injEq] at hv
    obtain ⟨rfl, hn, rfl⟩ := hv
    refine ⟨h0, none, _, by rw [hn], h1, h2, .inl ?_⟩
    rcases h3 with h3 | ⟨_, _, _, he, _⟩
    · exact h3
    · simp at he
  | some p =>
    obtain ⟨b, off, s⟩ := p
    by_cases hb : b = g
    · subst hb
      by_cases hl : l = []
      · subst hl
        obtain ⟨h0, a, c', hv, h1, h2, h3⟩ := h
        simp only [Value.slice.injEq] at hv
        obtain ⟨rfl, hn, rfl⟩ := hv
        refine ⟨h0, _, _, by rw [hn], h1, h2, ?_⟩
        rcases h3 with ⟨h4, _⟩ | ⟨b', off', s', he, hs, hc⟩
        · simp at h4
        · exact .inr ⟨b', off', s', he, hs, fun j u hu => by simp at hu⟩
      · exfalso
        have hpos : 0 < l.length := by cases l with
          | nil => exact absurd rfl hl
          | cons x l => simp
        obtain ⟨b', off', he, hc⟩ := Bytes.at h 0 hpos
        simp only [Option.some.injEq, Addr.mk.injEq] at he
        obtain ⟨rfl, rfl, _⟩ := he
        rw [hz.cell] at hc
        exact hno _ (List.mem_of_getElem? hc) _ rfl
    · exact h.grownNe hg hb
end Go.Proofs.Ytfedjbodcebdnaa
