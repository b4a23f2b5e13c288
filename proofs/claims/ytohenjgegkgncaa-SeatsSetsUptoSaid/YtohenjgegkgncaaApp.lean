/- append onto a slice of the call's own, with the place of what comes of it: lemmas of my own with no program in sight. -/
import Derived.Test.YtohenjgegkgncaaLib
import Derived.Maps.AppendAt
import Derived.Great.BuildSlice
set_option linter.unusedSimpArgs false
set_option linter.unusedVariables false
namespace Go.Proofs.Ytohenjgegkgncaa
open Go.RowKit
theorem OwnOf.grown {α : Type} {f : α → List Value} {size : Nat} {e : TypeId} {w w' : World} {B : Nat} {v : Value} {l : List α} {row : Option Nat} (h : OwnOf f size e w B v l) (hg : w.grownBy w' row) (hne : ∀ k, row = some k → v.ownBlock ≠ some k) : OwnOf f size e w' B v l := by
  refine World.ownsRow.kept h hg ?_
  cases hv : v.ownBlock with
  | none => exact .inl rfl
  | some k =>
    right
    intro e'
    cases hr : row with
    | none => rw [hr] at e'; simp at e'
    | some q => exact hne q hr (hv.trans (e'.trans hr))
theorem OwnOf.lower {α : Type} {f : α → List Value} {size : Nat} {e : TypeId} {w : World} {B B' : Nat} {v : Value} {l : List α} (h : OwnOf f size e w B v l) (hB : B' ≤ B) : OwnOf f size e w B' v l := by
  refine ⟨h.1, ?_⟩
  rcases h.2 with h2 | ⟨g, cap, cur, h2, h3, h4⟩
  · exact .inl h2
  · exact .inr ⟨g, cap, cur, h2, Nat.le_trans hB h3, h4⟩
/-- 'append(own, src...)': as wpList_app, and where the new slice lies. -/
theorem wpList_appA {α : Type} {f : α → List Value} {P : Program} {w : World} {ops : Array Oper} {rest : List Oper} {o : Oper} {a : Act} {Q : Exit → Act → World → Prop} (hgd : o.guard = none) (s x : Operand) (t : TypeId)
    (ho : o.op = .call { callee := .builtin .append, args := #[s, x], argTypes := #[t, t] })
    {e : TypeId} {z : Value} {size bytes : Nat} (el : El P t e z size bytes f) {B : Nat}
    {v : Value} {l m : List α} (hs : a.eval s = v) (hown : OwnOf f size e w B v l)
    {u : Value} (hx : a.eval x = u) (hrow : RowOf f size w u m) (hB : B ≤ w.heap.size)
    (hbytes : (l.length + m.length) * bytes ≤ 140737488355328) (h63 : l.length + m.length ≤ maxLen)
    (h : ∀ v' w', OwnOf f size e w' B v' (l ++ m) → w.grownBy w' v.ownBlock → (∀ k, v'.ownBlock = some k → v.ownBlock = some k ∨ w.heap.size ≤ k) → wpList P ops Q rest (a.put o.dst v') w') : wpList P ops Q (o :: rest) a w := by
  obtain ⟨i, hi, hz, hsi, hby⟩ := el.info
  obtain ⟨h0, ad, c, rfl, _, _, h3⟩ := hrow
  rcases h3 with ⟨rfl, hm, rfl⟩ | ⟨b, off, sp, rfl, hsp, h3⟩
  · obtain rfl : m = [] := List.eq_nil_of_length_eq_zero hm
    refine wpList_append_own_none hgd s x t ho B e i size el.ht hi v _ _ hs hown hx ?_
    exact h v w (by simpa using hown) ⟨rfl, rfl, rfl, Nat.le_refl _, fun _ _ _ => rfl⟩ (fun k hk => .inl hk)
  · refine wpList_append_own_at w hgd s x t ho B e i z size bytes el.ht hi hz hsi hby el.hzs el.hsz v _ _ hs hown ⟨b, off, sp⟩ _ c _ hx h0 (fun j y hy => ?_) (el.one m) h63 hbytes hB
      (fun v' w' k1 k2 _ k4 => h v' w' (by unfold OwnOf; rw [List.length_append, List.flatMap_append]; exact k1) k2 (fun k hk => by
        rcases k4 with k4 | k4
        · exact .inl (k4 ▸ hk)
        · rw [k4] at hk; cases hk; exact .inr (Nat.le_refl _)))
    by_cases hm : m.length = 0
    · obtain rfl : m = [] := List.eq_nil_of_length_eq_zero hm
      simp at hy
    · obtain rfl : sp = none := hsp.resolve_right hm
      have hadd : (⟨b, off, none⟩ : Addr).add j = ⟨b, off + j, none⟩ := by unfold Addr.add; split <;> simp_all
      rw [hadd]; exact h3 j y hy
/-- What the tables say of a slice type 't' of elements 'e': as El, of elements whose cells may be anything. -/
structure El0 {α : Type} (P : Program) (t e : TypeId) (z : Value) (size bytes : Nat) (f : α → List Value) : Prop where
  ht : P.underlying t = some (.slice e)
  hi : (P.info? e).map (fun i => (i.zero, i.size, i.bytes)) = some (some z, size, bytes)
  hzs : z.cells.size = size
  hsz : 0 < size
  hf : ∀ x, (f x).length = size
theorem El0.info {α : Type} {P : Program} {t e : TypeId} {z : Value} {size bytes : Nat} {f : α → List Value} (h : El0 P t e z size bytes f) : ∃ i, P.info? e = some i ∧ i.zero = some z ∧ i.size = size ∧ i.bytes = bytes := by
  have := h.hi
  cases hh : P.info? e with
  | none => simp [hh] at this
  | some i => simp [hh] at this; exact ⟨i, rfl, this⟩
theorem El.to0 {α : Type} {P : Program} {t e : TypeId} {z : Value} {size bytes : Nat} {f : α → List Value} (h : El P t e z size bytes f) : El0 P t e z size bytes f := ⟨h.ht, h.hi, h.hzs, h.hsz, h.hf⟩
/-- 'append(own, src...)' of such elements. -/
theorem wpList_appB {α : Type} {f : α → List Value} {P : Program} {w : World} {ops : Array Oper} {rest : List Oper} {o : Oper} {a : Act} {Q : Exit → Act → World → Prop} (hgd : o.guard = none) (s x : Operand) (t : TypeId)
    (ho : o.op = .call { callee := .builtin .append, args := #[s, x], argTypes := #[t, t] })
    {e : TypeId} {z : Value} {size bytes : Nat} (el : El0 P t e z size bytes f) {B : Nat}
    {v : Value} {l m : List α} (h1 : ∀ u ∈ m.flatMap f, u.oneCell' = true) (hs : a.eval s = v) (hown : OwnOf f size e w B v l)
    {u : Value} (hx : a.eval x = u) (hrow : RowOf f size w u m) (hB : B ≤ w.heap.size)
    (hbytes : (l.length + m.length) * bytes ≤ 140737488355328) (h63 : l.length + m.length ≤ maxLen)
    (h : ∀ v' w', OwnOf f size e w' B v' (l ++ m) → w.grownBy w' v.ownBlock → (∀ k, v'.ownBlock = some k → v.ownBlock = some k ∨ w.heap.size ≤ k) → wpList P ops Q rest (a.put o.dst v') w') : wpList P ops Q (o :: rest) a w := by
  obtain ⟨i, hi, hz, hsi, hby⟩ := el.info
  obtain ⟨h0, ad, c, rfl, _, _, h3⟩ := hrow
  rcases h3 with ⟨rfl, hm, rfl⟩ | ⟨b, off, sp, rfl, hsp, h3⟩
  · obtain rfl : m = [] := List.eq_nil_of_length_eq_zero hm
    refine wpList_append_own_none hgd s x t ho B e i size el.ht hi v _ _ hs hown hx ?_
    exact h v w (by simpa using hown) ⟨rfl, rfl, rfl, Nat.le_refl _, fun _ _ _ => rfl⟩ (fun k hk => .inl hk)
  · refine wpList_append_own_at w hgd s x t ho B e i z size bytes el.ht hi hz hsi hby el.hzs el.hsz v _ _ hs hown ⟨b, off, sp⟩ _ c _ hx h0 (fun j y hy => ?_) h1 h63 hbytes hB
      (fun v' w' k1 k2 _ k4 => h v' w' (by unfold OwnOf; rw [List.length_append, List.flatMap_append]; exact k1) k2 (fun k hk => by
        rcases k4 with k4 | k4
        · exact .inl (k4 ▸ hk)
        · rw [k4] at hk; cases hk; exact .inr (Nat.le_refl _)))
    by_cases hm : m.length = 0
    · obtain rfl : m = [] := List.eq_nil_of_length_eq_zero hm
      simp at hy
    · obtain rfl : sp = none := hsp.resolve_right hm
      have hadd : (⟨b, off, none⟩ : Addr).add j = ⟨b, off + j, none⟩ := by unfold Addr.add; split <;> simp_all
      rw [hadd]; exact h3 j y hy
/-- '[]T{x, y, ..}': each element an aggregate (or one cell). -/
theorem wpList_buildN {α : Type} {f : α → List Value} {P : Program} {w : World} {ops : Array Oper} {rest : List Oper} {o : Oper} {a : Act} {Q : Exit → Act → World → Prop} (hgd : o.guard = none) (t : TypeId) (n : Nat) (parts : Array (Nat × Operand))
    (ho : o.op = .buildSlice t n parts) {e : TypeId} {z : Value} {size bytes : Nat} (el : El0 P t e z size bytes f) (l : List α) (vs : List Value) (hl : l.length = n) (hv : (parts.map fun (i, x) => (i, a.eval x)).toList = (vs.zipIdx 0).map fun x => (x.2, x.1))
    (hc : vs.map (fun v => v.cells.toList) = l.map f) (hn : 0 < n) (hs : n * size ≤ 16777216)
    (h : wpList P ops Q rest (a.put o.dst (.slice (some ⟨w.heap.size, 0, none⟩) n n)) (w.alloc (.cells (l.flatMap f).toArray e))) : wpList P ops Q (o :: rest) a w := by
  obtain ⟨i, hi, hz, hsi, _⟩ := el.info
  have hp := el.hsz
  have hpos : 0 < n * size := Nat.mul_pos hn hp
  refine wpList_buildSlice hgd t e n parts ho (l.flatMap f).toArray i z el.ht hi hz (by rw [hsi]; omega) (by rw [hsi]; omega) ?_ h
  have hvl : vs.length = n := by
    have := congrArg List.length hc
    simp only [List.length_map] at this
    omega
  have hvs : ∀ u ∈ vs, u.cells.size = size := by
    intro u hu
    have h1 : u.cells.toList ∈ l.map f := by rw [← hc]; exact List.mem_map.2 ⟨u, hu, rfl⟩
    obtain ⟨y, _, hy⟩ := List.mem_map.1 h1
    have := el.hf y
    rw [hy] at this
    simpa using this
  have hf := Great.fill_whole (s := size) hp vs ((Array.range (n * size)).map (z.cells[· % z.cells.size]!)) hvs (by simp [hvl])
  have e1 : vs.flatMap (fun v => v.cells.toList) = l.flatMap f := by
    rw [List.flatMap_def, List.flatMap_def, hc]
  rw [hsi, hv, hf, e1]
theorem Row.built {α : Type} {f : α → List Value} {size : Nat} (hf : ∀ x, (f x).length = size) (w : World) (e : TypeId) (l : List α) (n : Nat) (hl : l.length = n) (hm : n ≤ maxLen) : RowOf f size (w.alloc (.cells (l.flatMap f).toArray e)) (.slice (some ⟨w.heap.size, 0, none⟩) n n) l := by
  subst hl
  exact Row.made w size (l.flatMap f) e l.length (flat_len hf l) hm
/-- '[]T{x}': one element. -/
theorem wpList_build1 {α : Type} {f : α → List Value} {P : Program} {w : World} {ops : Array Oper} {rest : List Oper} {o : Oper} {a : Act} {Q : Exit → Act → World → Prop} (hgd : o.guard = none) (x : Operand) (t : TypeId)
    (ho : o.op = .buildSlice t 1 #[(0, x)]) {e : TypeId} {z : Value} {size bytes : Nat} (el : El P t e z size bytes f) (v : Value) (C : List Value) (hx : a.eval x = v) (hv : v.cells = C.toArray) (hC : C.length = size) (hs : size ≤ 16777216)
    (h : wpList P ops Q rest (a.put o.dst (.slice (some ⟨w.heap.size, 0, none⟩) 1 1)) (w.alloc (.cells C.toArray e))) : wpList P ops Q (o :: rest) a w := by
  obtain ⟨i, hi, hz, hsi, _⟩ := el.info
  have hp := el.hsz
  refine wpList_buildSlice hgd t e 1 #[(0, x)] ho C.toArray i z el.ht hi hz (by rw [hsi]; omega) (by rw [hsi]; omega) ?_ h
  have hf := Great.fill_whole (s := size) hp [v] ((Array.range (1 * size)).map (z.cells[· % z.cells.size]!)) (fun u hu => by rw [List.mem_singleton] at hu; rw [hu, hv]; simpa using hC) (by simp)
  rw [hsi]
  have e1 : ([v].flatMap fun v => v.cells.toList).toArray = C.toArray := by simp [hv]
  rw [e1] at hf
  rw [← hf]
  simp [hx]
/-- Two slices of the call's own that do not lie in one block. -/
def Apart2 (v u : Value) : Prop := ∀ k, v.ownBlock = some k → u.ownBlock ≠ some k
theorem Apart2.symm {v u : Value} (h : Apart2 v u) : Apart2 u v := fun k hk e => h k e hk
theorem Apart2.moved {α : Type} {f : α → List Value} {size : Nat} {e : TypeId} {w : World} {B : Nat} {v v' u : Value} {l : List α} (h : Apart2 v u) (hu : OwnOf f size e w B u l) (hl : ∀ k, v'.ownBlock = some k → v.ownBlock = some k ∨ w.heap.size ≤ k) : Apart2 v' u := by
  intro k hk hk'
  rcases hl k hk with h1 | h1
  · exact h k h1 hk'
  · have := (World.ownsRow.lt hu k hk').2
    omega
theorem Apart2.nil (v : Value) : Apart2 (.slice none 0 0) v := fun k hk => by simp [Value.ownBlock] at hk
theorem RowOf.grownNe {α : Type} {f : α → List Value} {size : Nat} {w w' : World} {b off n c g : Nat} {s : Option Nat} {l : List α} (h : RowOf f size w (.slice (some ⟨b, off, s⟩) n c) l) (hg : w.grownBy w' (some g)) (hne : b ≠ g) : RowOf f size w' (.slice (some ⟨b, off, s⟩) n c) l := by
  obtain ⟨h0, a, c', hv, h1, h2, h3⟩ := h
  simp only [Value.slice.injEq] at hv
  obtain ⟨rfl, hn, rfl⟩ := hv
  refine ⟨h0, _, _, by rw [hn], h1, h2, ?_⟩
  rcases h3 with ⟨h4, _⟩ | ⟨b', off', s', he, hs, hc⟩
  · simp at h4
  · simp only [Option.some.injEq, Addr.mk.injEq] at he
    obtain ⟨rfl, rfl, rfl⟩ := he
    refine .inr ⟨_, _, _, rfl, hs, fun j u hu => ?_⟩
    have hcc := hc j u hu
    have hlt := World.block_lt_of_cell? w _ hcc
    rw [← hcc]
    exact World.cell?_of_block (w := w) (hg.block b hlt (by simpa using hne))
/-- A text is no part of a block that holds no bytes. -/
theorem Bytes.off {w w' : World} {a : Option Addr} {n c g : Nat} {l : List UInt8} {e : TypeId} {cs : List Value} (h : Bytes w (.slice a n c) l) (hz : Blk e w g cs) (hno : ∀ u ∈ cs, ∀ k, u ≠ .int .u8 k) (hg : w.grownBy w' (some g)) : Bytes w' (.slice a n c) l := by
  cases a with
  | none =>
    obtain ⟨h0, a, c', hv, h1, h2, h3⟩ := h
    simp only [Value.slice.injEq] at hv
    obtain ⟨rfl, hn, rfl⟩ := hv
    refine ⟨h0, none, _, by rw [hn], h1, h2, .inl ?_⟩
    rcases h3 with h3 | ⟨_, _, _, he, _⟩
    · exact h3
    · simp at he
  | some p =>
    obtain ⟨b, off, s⟩ := p
    by_cases hb : b = g
    · subst hb
      by_cases hl : l = []
      · subst hl
        obtain ⟨h0, a, c', hv, h1, h2, h3⟩ := h
        simp only [Value.slice.injEq] at hv
        obtain ⟨rfl, hn, rfl⟩ := hv
        refine ⟨h0, _, _, by rw [hn], h1, h2, ?_⟩
        rcases h3 with ⟨h4, _⟩ | ⟨b', off', s', he, hs, hc⟩
        · simp at h4
        · exact .inr ⟨b', off', s', he, hs, fun j u hu => by simp at hu⟩
      · exfalso
        have hpos : 0 < l.length := by cases l with
          | nil => exact absurd rfl hl
          | cons x l => simp
        obtain ⟨b', off', he, hc⟩ := Bytes.at h 0 hpos
        simp only [Option.some.injEq, Addr.mk.injEq] at he
        obtain ⟨rfl, rfl, _⟩ := he
        rw [hz.cell] at hc
        exact hno _ (List.mem_of_getElem? hc) _ rfl
    · exact h.grownNe hg hb
theorem Bytes.off_v {w w' : World} {v : Value} {g : Nat} {l : List UInt8} {e : TypeId} {cs : List Value} (h : Bytes w v l) (hz : Blk e w g cs) (hno : ∀ u ∈ cs, ∀ k, u ≠ .int .u8 k) (hg : w.grownBy w' (some g)) : Bytes w' v l := by
  obtain ⟨a, c, rfl, _, _⟩ := RowOf.form h
  exact Bytes.off h hz hno hg
theorem grown_cell {w : World} {g : Nat} (k : Nat) (x : Value) : w.grownBy (w.setCell ⟨g, k, none⟩ x) (some g) :=
  ⟨rfl, rfl, rfl, by simp, fun i hi hne => heap_setCell_other w _ i _ (by simpa using hne)⟩
/-- '[]T{x, y, ..}', the new world under a name of its own. -/
theorem wpList_buildW {α : Type} {f : α → List Value} {P : Program} {w : World} {ops : Array Oper} {rest : List Oper} {o : Oper} {a : Act} {Q : Exit → Act → World → Prop} (hgd : o.guard = none) (t : TypeId) (n : Nat) (ps : List (Nat × Operand))
    (ho : o.op = .buildSlice t n ps.toArray) {e : TypeId} {z : Value} {size bytes : Nat} (el : El0 P t e z size bytes f) (l : List α) (vs : List Value) (hl : l.length = n) (hv : (ps.map fun x => (x.1, a.eval x.2)) = (vs.zipIdx 0).map fun x => (x.2, x.1))
    (hc : vs.map (fun v => v.cells.toList) = l.map f) (hn : 0 < n) (hs : n * size ≤ 16777216)
    (h : ∀ w', Blk e w' w.heap.size (l.flatMap f) → RowOf f size w' (.slice (some ⟨w.heap.size, 0, none⟩) n n) l → Below w.heap.size w w' → wpList P ops Q rest (a.put o.dst (.slice (some ⟨w.heap.size, 0, none⟩) n n)) w') : wpList P ops Q (o :: rest) a w := by
  have hp := el.hsz
  have hm : n ≤ maxLen := by
    have : n * 1 ≤ n * size := Nat.mul_le_mul_left _ hp
    unfold maxLen; omega
  exact wpList_buildN hgd t n ps.toArray ho el l vs hl (by rw [← hv]; simp) hc hn hs (h _ (Blk.new w e _) (Row.built el.hf w e l n hl hm) ((Below.refl _ _).alloc (Nat.le_refl _) _))
end Go.Proofs.Ytohenjgegkgncaa
