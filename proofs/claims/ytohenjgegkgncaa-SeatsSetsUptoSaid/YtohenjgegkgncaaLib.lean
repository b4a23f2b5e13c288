/- Small lemmas of my own on worlds, rows of cells and lists, with no program in sight. -/
import Derived.WalkKit
import Derived.WalkSpells
import Derived.WalkLawsBesides
import Derived.Deep.QuietTactic
import Derived.BigQuiet
import Derived.Lib.Hide
import Derived.Laws.AppendOwnNone
import Derived.Laws.CopyOwn
set_option linter.unusedSimpArgs false
set_option linter.unusedVariables false
namespace Go.Proofs.Ytohenjgegkgncaa
open Go.RowKit

/-- a byte as a value -/
@[go_sem] def u8v (x : UInt8) : Value := .int .u8 (x.toNat : Int)
theorem u8_lt (x : UInt8) : (x.toNat : Int) < 256 ∧ 0 ≤ (x.toNat : Int) := by have := x.toNat_lt; omega
theorem ret_int {k : IntKind} {a b : Int} (h : a = b) : Ending.returned (.int k a) = .returned (.int k b) := by rw [h]
theorem val_int {k : IntKind} {a b : Int} (h : a = b) : Value.int k a = .int k b := by rw [h]
theorem ret_bool {a b : Bool} (h : a = b) : Ending.returned (.bool a) = .returned (.bool b) := by rw [h]
theorem val_bool {a b : Bool} (h : a = b) : Value.bool a = .bool b := by rw [h]

/-- The slice value 'v' reads in world 'w' as the cells 'xs' ('n' elements of 'size' cells). -/
def Row (w : World) (size : Nat) (v : Value) (n : Nat) (xs : List Value) : Prop :=
  xs.length = n * size ∧ ∃ a c, v = .slice a n c ∧ n ≤ c ∧ c ≤ maxLen ∧
    ((a = none ∧ n = 0 ∧ c = 0) ∨ ∃ b off s, a = some ⟨b, off, s⟩ ∧ (s = none ∨ n = 0) ∧ ∀ j u, xs[j]? = some u → w.cell? ⟨b, off + j, none⟩ = some u)
/-- .. as the list 'l', each element written by 'f' as 'size' cells. -/
def RowOf {α : Type} (f : α → List Value) (size : Nat) (w : World) (v : Value) (l : List α) : Prop := Row w size v l.length (l.flatMap f)
/-- .. and the slice is the call's own, from block 'B' on. -/
def OwnOf {α : Type} (f : α → List Value) (size : Nat) (e : TypeId) (w : World) (B : Nat) (v : Value) (l : List α) : Prop := w.ownsRow B e size v l.length (l.flatMap f)
/-- an element's cells: a byte, a bool, a word's part, an int -/
def b8 (x : UInt8) : List Value := [u8v x]
def bbool (x : Bool) : List Value := [.bool x]
def bu64 (x : Int) : List Value := [.int .u64 x]
def bi64 (x : Int) : List Value := [.int .i64 x]
abbrev Bytes (w : World) (v : Value) (l : List UInt8) : Prop := RowOf b8 1 w v l
theorem flat_b8 (l : List UInt8) : l.flatMap b8 = l.map u8v := by induction l <;> simp_all [b8]
theorem flat_len {α : Type} {f : α → List Value} {size : Nat} (hf : ∀ x, (f x).length = size) (l : List α) : (l.flatMap f).length = l.length * size := by
  induction l with
  | nil => simp
  | cons x l ih => simp [ih, hf, Nat.add_mul]; omega
theorem flat_get {α : Type} {f : α → List Value} {size : Nat} (hf : ∀ x, (f x).length = size) (l : List α) (k : Nat) (hk : k < l.length) (j : Nat) (hj : j < size) :
    (l.flatMap f)[k * size + j]? = (f l[k])[j]? := by
  induction l generalizing k with
  | nil => simp at hk
  | cons x l ih =>
    rw [List.flatMap_cons]
    cases k with
    | zero => simp only [Nat.zero_mul, Nat.zero_add, List.getElem_cons_zero]; rw [List.getElem?_append_left (by rw [hf]; exact hj)]
    | succ k =>
      rw [List.getElem?_append_right (by rw [hf, Nat.add_mul]; omega)]
      have : (k + 1) * size + j - (f x).length = k * size + j := by rw [hf, Nat.add_mul]; omega
      rw [this, ih k (by simpa using hk)]
      rfl

theorem Row.kept {w w' : World} {size : Nat} {v : Value} {n : Nat} {xs : List Value} (h : Row w size v n xs) (hb : Below w.heap.size w w') : Row w' size v n xs := by
  obtain ⟨h0, a, c, rfl, h1, h2, h3⟩ := h
  refine ⟨h0, a, c, rfl, h1, h2, ?_⟩
  rcases h3 with h3 | ⟨b, off, s, rfl, hs, h3⟩
  · exact .inl h3
  · refine .inr ⟨b, off, s, rfl, hs, fun j u hu => ?_⟩
    have := h3 j u hu
    rw [hb.cell (World.block_lt_of_cell? w _ this)]; exact this
theorem Row.same {w w' : World} {size : Nat} {v : Value} {n : Nat} {xs : List Value} (h : Row w size v n xs) (hb : ∀ p u, w.cell? p = some u → w'.cell? p = some u) : Row w' size v n xs := by
  obtain ⟨h0, a, c, rfl, h1, h2, h3⟩ := h
  exact ⟨h0, a, c, rfl, h1, h2, h3.imp_right fun ⟨b, off, s, e, hs, h3⟩ => ⟨b, off, s, e, hs, fun j u hu => hb _ _ (h3 j u hu)⟩⟩
theorem Row.alloc {w : World} {size : Nat} {v : Value} {n : Nat} {xs : List Value} (h : Row w size v n xs) (o : Obj) : Row (w.alloc o) size v n xs :=
  h.kept ((Below.refl _ _).alloc (Nat.le_refl _) o)
theorem Row.drew {w : World} {size : Nat} {v : Value} {n : Nat} {xs : List Value} (h : Row w size v n xs) : Row w.drew size v n xs := h
theorem Row.made (w : World) (size : Nat) (cs : List Value) (e : TypeId) (n : Nat) (hs : cs.length = n * size) (hn : n ≤ maxLen) :
    Row (w.alloc (.cells cs.toArray e)) size (.slice (some ⟨w.heap.size, 0, none⟩) n n) n cs := by
  refine ⟨by simpa using hs, _, _, rfl, Nat.le_refl _, hn, .inr ⟨_, _, _, rfl, .inl rfl, fun j u hu => ?_⟩⟩
  rw [World.cell?_alloc_at _ _ _ _ rfl]
  simpa using hu
theorem Row.one (w : World) (x : Value) (e : TypeId) : Row (w.alloc (.cells #[x] e)) 1 (.slice (some ⟨w.heap.size, 0, none⟩) 1 1) 1 [x] :=
  Row.made w 1 [x] e 1 rfl (by unfold maxLen; omega)
theorem Row.own {w : World} {base : Nat} {e : TypeId} {size : Nat} {v : Value} {n : Nat} {xs : List Value} (h : w.ownsRow base e size v n xs) : Row w size v n xs := by
  refine ⟨h.1, ?_⟩
  have hc := @World.ownsRow.cells w base e size v n xs h
  rcases h.2 with ⟨rfl, rfl⟩ | ⟨g, cap, cur, rfl, _, _, h1, h2, _, _⟩
  · exact ⟨none, 0, rfl, Nat.le_refl _, by unfold maxLen; omega, .inl ⟨rfl, rfl, rfl⟩⟩
  · refine ⟨_, _, rfl, h1, h2, .inr ⟨g, 0, none, rfl, .inl rfl, fun j u hu => ?_⟩⟩
    have := hc (g := g) rfl j u hu
    have hadd : (⟨g, 0, none⟩ : Addr).add j = ⟨g, 0 + j, none⟩ := by unfold Addr.add; split <;> simp_all
    rwa [hadd] at this
theorem Row.nil (w : World) (size : Nat) : Row w size (.slice none 0 0) 0 [] := ⟨by simp, none, 0, rfl, Nat.le_refl _, by unfold maxLen; omega, .inl ⟨rfl, rfl, rfl⟩⟩

theorem RowOf.kept {α : Type} {f : α → List Value} {size : Nat} {w w' : World} {v : Value} {l : List α} (h : RowOf f size w v l) (hb : Below w.heap.size w w') : RowOf f size w' v l := Row.kept h hb
theorem RowOf.below {α : Type} {f : α → List Value} {size : Nat} {w0 w' : World} {v : Value} {l : List α} (h : RowOf f size w0 v l) (hb : Below w0.heap.size w0 w') : RowOf f size w' v l := Row.kept h hb
theorem RowOf.alloc {α : Type} {f : α → List Value} {size : Nat} {w : World} {v : Value} {l : List α} (h : RowOf f size w v l) (o : Obj) : RowOf f size (w.alloc o) v l := Row.alloc h o
theorem RowOf.fits {α : Type} {f : α → List Value} {size : Nat} {w : World} {a : Option Addr} {n c : Nat} {l : List α} (h : RowOf f size w (.slice a n c) l) : n = l.length ∧ n ≤ c ∧ c ≤ maxLen := by
  obtain ⟨_, _, _, hv, h1, h2, _⟩ := h
  simp only [Value.slice.injEq] at hv
  obtain ⟨rfl, rfl, rfl⟩ := hv
  exact ⟨rfl, h1, h2⟩
theorem RowOf.form {α : Type} {f : α → List Value} {size : Nat} {w : World} {v : Value} {l : List α} (h : RowOf f size w v l) : ∃ a c, v = .slice a l.length c ∧ l.length ≤ c ∧ c ≤ maxLen := by
  obtain ⟨_, a, c, hv, h1, h2, _⟩ := h
  exact ⟨a, c, hv, h1, h2⟩
theorem RowOf.small {α : Type} {f : α → List Value} {size : Nat} {w : World} {v : Value} {l : List α} (h : RowOf f size w v l) : l.length ≤ maxLen := by
  obtain ⟨a, c, _, h1, h2⟩ := h.form; omega
/-- What a round reads: the slice is not nil, and here are the element's cells. -/
theorem RowOf.cells {α : Type} {f : α → List Value} {size : Nat} (hf : ∀ x, (f x).length = size) {w : World} {a : Option Addr} {n c : Nat} {l : List α} (h : RowOf f size w (.slice a n c) l) (k : Nat) (hk : k < l.length) :
    ∃ b off, a = some ⟨b, off, none⟩ ∧ ∀ j u, (f l[k])[j]? = some u → w.cell? ⟨b, off + (k * size + j), none⟩ = some u := by
  obtain ⟨_, _, _, hv, _, _, h⟩ := h
  simp only [Value.slice.injEq] at hv
  obtain ⟨rfl, rfl, rfl⟩ := hv
  rcases h with ⟨_, h0, _⟩ | ⟨b, off, s, rfl, hs, hc⟩
  · omega
  · obtain rfl : s = none := hs.resolve_right (by omega)
    refine ⟨b, off, rfl, fun j u hu => hc _ _ ?_⟩
    have hj : j < size := by
      have := (List.getElem?_eq_some_iff.1 hu).1
      rwa [hf] at this
    rw [flat_get hf l k hk j hj]; exact hu
theorem Bytes.at {w : World} {a : Option Addr} {n c : Nat} {l : List UInt8} (h : Bytes w (.slice a n c) l) (k : Nat) (hk : k < l.length) :
    ∃ b off, a = some ⟨b, off, none⟩ ∧ w.cell? ⟨b, off + k, none⟩ = some (.int .u8 (l[k].toNat : Int)) := by
  obtain ⟨b, off, ha, hc⟩ := RowOf.cells (f := b8) (size := 1) (fun _ => rfl) h k hk
  exact ⟨b, off, ha, by simpa [u8v] using hc 0 _ rfl⟩

/-- What a round reads of an argument, in a later world. -/
theorem Bytes.later {w w' : World} {a : Option Addr} {n c : Nat} {l : List UInt8} (h : Bytes w (.slice a n c) l) (hb : Below w.heap.size w w') (k : Nat) (hk : k < l.length) :
    ∃ b off, a = some ⟨b, off, none⟩ ∧ b < w.heap.size ∧ w'.cell? ⟨b, off + k, none⟩ = some (.int .u8 (l[k].toNat : Int)) := by
  obtain ⟨b, off, ha, hc⟩ := h.at k hk
  have hlt := World.block_lt_of_cell? w _ hc
  exact ⟨b, off, ha, hlt, by rw [hb.cell hlt]; exact hc⟩
theorem cell_aside {w : World} {p q : Addr} {v u : Value} (h : w.cell? p = some v) (hne : p.block ≠ q.block) : (w.setCell q u).cell? p = some v := by
  rw [World.cell?_of_block (w := w) (heap_setCell_other w q p.block u hne)]; exact h
/-- What the tables say of a slice type 't' of elements 'e', and how an element is written. -/
structure El {α : Type} (P : Program) (t e : TypeId) (z : Value) (size bytes : Nat) (f : α → List Value) : Prop where
  ht : P.underlying t = some (.slice e)
  hi : (P.info? e).map (fun i => (i.zero, i.size, i.bytes)) = some (some z, size, bytes)
  hzs : z.cells.size = size
  hsz : 0 < size
  hf : ∀ x, (f x).length = size
  h1 : ∀ x, ∀ u ∈ f x, u.oneCell' = true
theorem El.info {α : Type} {P : Program} {t e : TypeId} {z : Value} {size bytes : Nat} {f : α → List Value} (h : El P t e z size bytes f) : ∃ i, P.info? e = some i ∧ i.zero = some z ∧ i.size = size ∧ i.bytes = bytes := by
  have := h.hi
  cases hh : P.info? e with
  | none => simp [hh] at this
  | some i => simp [hh] at this; exact ⟨i, rfl, this⟩
theorem El.one {α : Type} {P : Program} {t e : TypeId} {z : Value} {size bytes : Nat} {f : α → List Value} (h : El P t e z size bytes f) (l : List α) : ∀ u ∈ l.flatMap f, u.oneCell' = true := by
  intro u hu
  obtain ⟨x, _, hx⟩ := List.mem_flatMap.1 hu
  exact h.h1 x u hx

theorem OwnOf.form {α : Type} {f : α → List Value} {size : Nat} {e : TypeId} {w : World} {B : Nat} {v : Value} {l : List α} (h : OwnOf f size e w B v l) : ∃ a c, v = .slice a l.length c ∧ c ≤ maxLen := by
  rcases h.2 with ⟨rfl, h0⟩ | ⟨g, cap, cur, rfl, _, _, _, h1, _⟩
  · rw [h0]; exact ⟨_, _, rfl, by unfold maxLen; omega⟩
  · exact ⟨_, _, rfl, h1⟩
/-- The slot's shape, its length spelt as you say. -/
theorem OwnOf.form' {α : Type} {f : α → List Value} {size : Nat} {e : TypeId} {w : World} {B : Nat} {v : Value} {l : List α} (h : OwnOf f size e w B v l) (n : Nat) (hn : l.length = n) : ∃ a c, v = .slice a n c ∧ c ≤ maxLen := hn ▸ h.form
theorem RowOf.form' {α : Type} {f : α → List Value} {size : Nat} {w : World} {v : Value} {l : List α} (h : RowOf f size w v l) (n : Nat) (hn : l.length = n) : ∃ a c, v = .slice a n c ∧ c ≤ maxLen := by
  obtain ⟨a, c, hv, _, hc⟩ := h.form
  exact ⟨a, c, hn ▸ hv, hc⟩
theorem OwnOf.row {α : Type} {f : α → List Value} {size : Nat} {e : TypeId} {w : World} {B : Nat} {v : Value} {l : List α} (h : OwnOf f size e w B v l) : RowOf f size w v l := Row.own h
theorem OwnOf.lt {α : Type} {f : α → List Value} {size : Nat} {e : TypeId} {w : World} {B : Nat} {v : Value} {l : List α} (h : OwnOf f size e w B v l) : ∀ k, v.ownBlock = some k → B ≤ k := fun k hk => (World.ownsRow.lt h k hk).1
theorem OwnOf.nil {α : Type} (f : α → List Value) (size : Nat) (e : TypeId) (w : World) (B : Nat) : OwnOf f size e w B (.slice none 0 0) ([] : List α) := World.ownsRow_nil w B e size
theorem OwnOf.alloc {α : Type} {f : α → List Value} {size : Nat} {e : TypeId} {w : World} {B : Nat} {v : Value} {l : List α} (h : OwnOf f size e w B v l) (o : Obj) : OwnOf f size e (w.alloc o) B v l := World.ownsRow.alloc h o
theorem OwnOf.drew {α : Type} {f : α → List Value} {size : Nat} {e : TypeId} {w : World} {B : Nat} {v : Value} {l : List α} (h : OwnOf f size e w B v l) : OwnOf f size e w.drew B v l := h
theorem RowOf.drew {α : Type} {f : α → List Value} {size : Nat} {w : World} {v : Value} {l : List α} (h : RowOf f size w v l) : RowOf f size w.drew v l := h
theorem OwnOf.kept {α : Type} {f : α → List Value} {size : Nat} {e : TypeId} {w w' : World} {B : Nat} {v : Value} {l : List α} (h : OwnOf f size e w B v l) (hb : Below w.heap.size w w') : OwnOf f size e w' B v l :=
  World.ownsRow.kept (row := none) h ⟨hb.os, hb.tape, hb.output, hb.size, fun k hk _ => hb.block k hk⟩ (by cases hv : v.ownBlock <;> simp)
theorem OwnOf.made {α : Type} (f : α → List Value) (size : Nat) (e : TypeId) (w : World) (B : Nat) (l : List α) (cs : Array Value) (n : Nat) (hcs : cs.toList = l.flatMap f) (hn : n = l.length) (hs : cs.size = n * size) (hB : B ≤ w.heap.size) (hm : n ≤ maxLen) :
    OwnOf f size e (w.alloc (.cells cs e)) B (.slice (some ⟨w.heap.size, 0, none⟩) n n) l := by
  subst hn; unfold OwnOf; rw [← hcs]; exact World.ownsRow_lit w cs _ hB hm hs
theorem OwnOf.empty {α : Type} (f : α → List Value) (size : Nat) (e : TypeId) (w : World) (B : Nat) (hB : B ≤ w.heap.size) : OwnOf f size e (w.alloc (.cells #[] e)) B (.slice (some ⟨w.heap.size, 0, none⟩) 0 0) ([] : List α) :=
  OwnOf.made f size e w B [] #[] 0 rfl rfl (by simp) hB (by unfold maxLen; omega)

/-- 'append(own, src...)': the source reads as a list, nil or not. -/
theorem wpList_app {α : Type} {f : α → List Value} {P : Program} {w : World} {ops : Array Oper} {rest : List Oper} {o : Oper} {a : Act} {Q : Exit → Act → World → Prop} (hgd : o.guard = none) (s x : Operand) (t : TypeId)
    (ho : o.op = .call { callee := .builtin .append, args := #[s, x], argTypes := #[t, t] })
    {e : TypeId} {z : Value} {size bytes : Nat} (el : El P t e z size bytes f) {B : Nat} {w0 : World}
    {v : Value} {l m : List α} (hs : a.eval s = v) (hown : OwnOf f size e w B v l)
    {u : Value} (hx : a.eval x = u) (hrow : RowOf f size w u m) (hbel : Below B w0 w) (hB : B ≤ w.heap.size)
    (hbytes : (l.length + m.length) * bytes ≤ 140737488355328) (h63 : l.length + m.length ≤ maxLen)
    (h : ∀ v' w', OwnOf f size e w' B v' (l ++ m) → Below B w0 w' → w.grownBy w' v.ownBlock → B ≤ w'.heap.size → wpList P ops Q rest (a.put o.dst v') w') : wpList P ops Q (o :: rest) a w := by
  obtain ⟨i, hi, hz, hsi, hby⟩ := el.info
  obtain ⟨h0, ad, c, rfl, _, _, h3⟩ := hrow
  rcases h3 with ⟨rfl, hm, rfl⟩ | ⟨b, off, sp, rfl, hsp, h3⟩
  · obtain rfl : m = [] := List.eq_nil_of_length_eq_zero hm
    refine wpList_append_own_none hgd s x t ho B e i size el.ht hi v _ _ hs hown hx ?_
    exact h v w (by simpa using hown) hbel ⟨rfl, rfl, rfl, Nat.le_refl _, fun _ _ _ => rfl⟩ hB
  · refine wpList_append_own w hgd s x t ho B e i z size bytes el.ht hi hz hsi hby el.hzs el.hsz v _ _ hs hown ⟨b, off, sp⟩ _ c _ hx h0 (fun j y hy => ?_) (el.one m) h63 hbytes hB
      (fun v' w' k1 k2 _ => h v' w' (by unfold OwnOf; rw [List.length_append, List.flatMap_append]; exact k1) (hbel.grown k2 hB hown.lt) k2 (Nat.le_trans hB k2.size))
    have hsn : sp = none := hsp.resolve_right fun h0' => by
      have : m = [] := List.eq_nil_of_length_eq_zero h0'
      subst this; simp at hy
    subst hsn
    have hadd : (⟨b, off, none⟩ : Addr).add j = ⟨b, off + j, none⟩ := by unfold Addr.add; split <;> simp_all
    rw [hadd]; exact h3 j y hy
theorem RowOf.one {α : Type} (f : α → List Value) (size : Nat) (w : World) (x : α) (cs : Array Value) (e : TypeId) (hcs : cs.toList = f x) (hs : (f x).length = size) : RowOf f size (w.alloc (.cells cs e)) (.slice (some ⟨w.heap.size, 0, none⟩) 1 1) [x] := by
  have := Row.made w size (f x) e 1 (by simpa using hs) (by unfold maxLen; omega)
  unfold RowOf
  rw [show cs = (f x).toArray from by rw [← hcs]]
  simpa using this
theorem RowOf.nil {α : Type} (f : α → List Value) (size : Nat) (w : World) : RowOf f size w (.slice none 0 0) ([] : List α) := Row.nil w size
theorem RowOf.made {α : Type} (f : α → List Value) (size : Nat) (w : World) (l : List α) (cs : Array Value) (e : TypeId) (n : Nat) (hcs : cs.toList = l.flatMap f) (hn : n = l.length) (hs : (l.flatMap f).length = n * size) (hm : n ≤ maxLen) : RowOf f size (w.alloc (.cells cs e)) (.slice (some ⟨w.heap.size, 0, none⟩) n n) l := by
  subst hn
  have := Row.made w size (l.flatMap f) e l.length hs hm
  unfold RowOf
  rw [show cs = (l.flatMap f).toArray from by rw [← hcs]]
  exact this
theorem one_b8 (x : UInt8) : ∀ u ∈ b8 x, u.oneCell' = true := by
  intro u hu
  simp only [b8, List.mem_singleton] at hu; subst hu; rfl

/-- Block 'g' holds just these cells, none frozen. -/
def Blk (e : TypeId) (w : World) (g : Nat) (cs : List Value) : Prop := w.heap[g]? = some (.cells cs.toArray e (0, 0))
theorem Blk.cell {e : TypeId} {w : World} {g : Nat} {cs : List Value} (h : Blk e w g cs) (i : Nat) : w.cell? ⟨g, i, none⟩ = cs[i]? := by
  rw [cell_of_row w g i _ e (0, 0) h]; simp
theorem Blk.get {e : TypeId} {w : World} {g : Nat} {cs : List Value} (h : Blk e w g cs) (i : Nat) (hi : i < cs.length) : w.cell? ⟨g, i, none⟩ = some cs[i] := by
  rw [h.cell, List.getElem?_eq_getElem hi]
theorem Blk.has {e : TypeId} {w : World} {g : Nat} {cs : List Value} (h : Blk e w g cs) (i : Nat) (hi : i < cs.length) : ∃ x, w.cell? ⟨g, i, none⟩ = some x := ⟨_, h.get i hi⟩
theorem Blk.free {e : TypeId} {w : World} {g : Nat} {cs : List Value} (h : Blk e w g cs) (i : Nat) : w.frozen? ⟨g, i, none⟩ = false := frozen_of_row w g i _ e h
theorem Blk.set {e : TypeId} {w : World} {g : Nat} {cs : List Value} (h : Blk e w g cs) (i : Nat) (u : Value) : Blk e (w.setCell ⟨g, i, none⟩ u) g (cs.set i u) := by
  unfold Blk; rw [heap_setCell_same w g i _ e u h]; simp
theorem Blk.other {e : TypeId} {w : World} {g : Nat} {cs : List Value} (h : Blk e w g cs) (a : Addr) (ha : a.block ≠ g) (u : Value) : Blk e (w.setCell a u) g cs := by
  unfold Blk; rw [heap_setCell_other w a g u (Ne.symm ha)]; exact h
theorem Blk.alloc {e : TypeId} {w : World} {g : Nat} {cs : List Value} (h : Blk e w g cs) (o : Obj) : Blk e (w.alloc o) g cs := by
  unfold Blk; rw [Below.heap_alloc w o g (Array.getElem?_eq_some_iff.1 h).1]; exact h
theorem Blk.new (w : World) (e : TypeId) (cs : List Value) : Blk e (w.alloc (.cells cs.toArray e)) w.heap.size cs := heap_alloc_new w _
theorem Blk.newA (w : World) (e : TypeId) (cs : Array Value) : Blk e (w.alloc (.cells cs e)) w.heap.size cs.toList := by unfold Blk; simpa using heap_alloc_new w _
theorem Blk.lt {e : TypeId} {w : World} {g : Nat} {cs : List Value} (h : Blk e w g cs) : g < w.heap.size := (Array.getElem?_eq_some_iff.1 h).1
theorem Blk.drew {e : TypeId} {w : World} {g : Nat} {cs : List Value} (h : Blk e w g cs) : Blk e w.drew g cs := h
theorem Blk.below {e : TypeId} {w w' : World} {g B : Nat} {cs : List Value} (h : Blk e w g cs) (hb : Below B w w') (hg : g < B) : Blk e w' g cs := (hb.block g hg).trans h
theorem Blk.kept {e : TypeId} {w w' : World} {g : Nat} {cs : List Value} (h : Blk e w g cs) (hb : Below w.heap.size w w') : Blk e w' g cs := (hb.block g h.lt).trans h
theorem Blk.grown {e : TypeId} {w w' : World} {g : Nat} {cs : List Value} {row : Option Nat} (h : Blk e w g cs) (hg : w.grownBy w' row) (hne : row ≠ some g) : Blk e w' g cs :=
  (hg.block g h.lt (fun e => hne e.symm)).trans h
/-- A slice over the block's own head. -/
theorem Blk.row {α : Type} {f : α → List Value} {size : Nat} {e : TypeId} {w : World} {g : Nat} {cs : List Value} (h : Blk e w g cs) (l : List α) (n c : Nat) (hf : ∀ x, (f x).length = size) (hl : l.length = n) (hcs : ∀ (j : Nat) (u : Value), (l.flatMap f)[j]? = some u → cs[j]? = some u) (hc : n ≤ c) (hm : c ≤ maxLen) :
    RowOf f size w (.slice (some ⟨g, 0, none⟩) n c) l := by
  subst hl
  refine ⟨flat_len hf l, _, _, rfl, hc, hm, .inr ⟨g, 0, none, rfl, .inl rfl, fun j u hu => ?_⟩⟩
  rw [Nat.zero_add, h.cell]; exact hcs j u hu
theorem Blk.own {α : Type} {f : α → List Value} {size : Nat} {e : TypeId} {w : World} {g B : Nat} {l : List α} (h : Blk e w g (l.flatMap f)) (n : Nat) (hf : ∀ x, (f x).length = size) (hl : l.length = n) (hB : B ≤ g) (hm : n ≤ maxLen) : OwnOf f size e w B (.slice (some ⟨g, 0, none⟩) n n) l := by
  subst hl
  refine ⟨flat_len hf l, .inr ⟨g, _, _, rfl, hB, h, Nat.le_refl _, hm, by simpa using flat_len hf l, ?_⟩⟩
  simp only [List.toList_toArray]
  exact List.take_of_length_le (by rw [flat_len hf l]; exact Nat.le_refl _)
/-- 'make([]T, n)' of one-cell elements. -/
theorem wpList_make1 {α : Type} {f : α → List Value} {P : Program} {w : World} {ops : Array Oper} {rest : List Oper} {o : Oper} {a : Act} {Q : Exit → Act → World → Prop}
    (hg : o.guard = none) (l c : Operand) (t : TypeId) (hop : o.op = Op.makeSlice t l c)
    {e : TypeId} {z : Value} {bytes : Nat} (el : El P t e z 1 bytes f) (hzc : z.cells = #[z]) {B : Nat} {w0 : World}
    (kl kc : IntKind) (L C : Int) (n : Nat) (hl : a.eval l = .int kl L) (hc : a.eval c = .int kc C) (hL : L = (n : Int)) (hC : C = (n : Int))
    (hbel : Below B w0 w) (hB : B ≤ w.heap.size) (b2 : bytes * n ≤ 281474976710656) (b3 : n ≤ maxLen)
    (hK : ∀ w', Blk e w' w.heap.size (List.replicate n z) → Below B w0 w' → w.grownBy w' none → B < w'.heap.size → wpList P ops Q rest (a.put o.dst (.slice (some ⟨w.heap.size, 0, none⟩) n n)) w') :
    wpList P ops Q (o :: rest) a w := by
  obtain ⟨i, hi, hz, hsi, hby⟩ := el.info
  refine wpList_make_full w hg l c t hop B e i z 1 el.ht hi hz hsi kl kc L C n hl hc hL hC (by rw [hby]; exact b2) b3 hB fun w' h1 h2 => ?_
  rw [Nat.mul_one, hzc, toList_madeCells_one] at h1
  have hblk : Blk e w' w.heap.size (List.replicate n z) := by
    rcases h1.2 with ⟨h', _⟩ | ⟨g', cap', cur, h', _, hgg, _, _, hcs, htake⟩
    · simp at h'
    · simp only [Value.slice.injEq, Option.some.injEq, Addr.mk.injEq, and_true, true_and] at h'
      obtain ⟨rfl, rfl⟩ := h'
      have : cur.toList = List.replicate n z := by
        rw [← htake]; exact (List.take_of_length_le (by simp [hcs])).symm
      unfold Blk; rw [← this]; simpa using hgg
  exact hK w' hblk (hbel.grown h2 hB (fun k hk => by cases hk)) h2 (Nat.lt_of_le_of_lt hB hblk.lt)

/-- What the tables say of an array or struct type of 'n' cells. -/
def Agg (P : Program) (ty : TypeId) (n : Nat) : Prop := ∃ d, P.underlying ty = some d ∧ (match d with | .struct _ | .array _ _ => true | _ => false) = true ∧ (P.info? ty).map (·.size) = some n
/-- A whole array is read out of its block. -/
theorem wpList_loadA {P : Program} {w : World} {ops : Array Oper} {rest : List Oper} {o : Oper} {a : Act} {Q : Exit → Act → World → Prop} (hgd : o.guard = none) (ty : TypeId) (x : Operand) (ho : o.op = .load ty x)
    (g : Nat) (hx : a.eval x = .pointer (some ⟨g, 0, none⟩)) {n : Nat} (hty : Agg P ty n) {e : TypeId} {cs : List Value} (hb : Blk e w g cs) (hn : cs.length = n)
    (h : wpList P ops Q rest (a.put o.dst (.agg cs.toArray)) w) : wpList P ops Q (o :: rest) a w := by
  obtain ⟨d, h1, h2, h3⟩ := hty
  exact wpList_load_row hgd ty x ho g hx e cs.toArray (0, 0) d hb h1 (by cases d <;> simp_all) (by rw [h3]; simp [hn]) h
/-- A whole array is written into its block. -/
theorem wpList_storeA {P : Program} {w : World} {ops : Array Oper} {rest : List Oper} {o : Oper} {a : Act} {Q : Exit → Act → World → Prop} (hgd : o.guard = none) (ty : TypeId) (x y : Operand) (ho : o.op = .store ty x y)
    (g : Nat) (cs : List Value) (hx : a.eval x = .pointer (some ⟨g, 0, none⟩)) (hy : a.eval y = .agg cs.toArray) {n : Nat} (hty : Agg P ty n) {e : TypeId} {old : List Value} (hb : Blk e w g old) (hn : cs.length = n) (ho2 : old.length = n)
    (h1 : ∀ u ∈ cs, u.oneCell' = true) {B : Nat} {w0 : World} (hbel : Below B w0 w) (hB : B ≤ g)
    (h : ∀ w', Blk e w' g cs → Below B w0 w' → w.grownBy w' (some g) → wpList P ops Q rest (a.put o.dst undef) w') : wpList P ops Q (o :: rest) a w := by
  obtain ⟨d, _, _, h3⟩ := hty
  refine wpList_store_row hgd ty x y ho g cs.toArray hx hy e old.toArray hb (by rw [h3]; simp [hn]) (by simp [hn, ho2]) (by rw [Array.all_eq_true_iff_forall_mem]; simpa using h1) ?_
  refine h _ ?_ (below_setRow hbel hB _) ⟨rfl, rfl, rfl, by simp, fun k _ hk => setRow_other w g k _ (fun e => hk (by rw [e]))⟩
  exact setRow_heap w g _ _ e _ hb
/-- The result lies in a block of its own. -/
theorem results_blk {P : Program} {fn : Func} {p : Tmp} {ty : TypeId} (h : fn.results = #[.cell p ty]) (tmps : Array Value) (w : World) (g : Nat) {n : Nat} (hty : Agg P ty n) {e : TypeId} {cs : List Value} (hb : Blk e w g cs) (hn : cs.length = n)
    (hp : tmps.getD p undef = .pointer (some ⟨g, 0, none⟩)) : (results fn tmps).run P w = .ok (.agg cs.toArray) w := by
  obtain ⟨d, h1, h2, h3⟩ := hty
  exact results_cell_row h tmps w g e cs.toArray (0, 0) d hp hb h1 (by cases d <;> simp_all) (by rw [h3]; simp [hn])

/-- 'copy(own[off:], src)': the source reads as a list and fits. -/
theorem wpList_copyTo {α : Type} {f : α → List Value} {P : Program} {w : World} {ops : Array Oper} {rest : List Oper} {o : Oper} {a : Act} {Q : Exit → Act → World → Prop} (hgd : o.guard = none) (d s : Operand) (dT sT : TypeId)
    (ho : o.op = .call { callee := .builtin .copy, args := #[d, s], argTypes := #[dT, sT] }) {e t : TypeId} {z : Value} {bytes : Nat} (el : El P dT t z 1 bytes f)
    (g off dLen dCap : Nat) (hd : a.eval d = .slice (some ⟨g, off, none⟩) dLen dCap) (u : Value) (m : List α) (hs : a.eval s = u) (hrow : RowOf f 1 w u m) (hle : m.length ≤ dLen)
    (cur : List Value) (hg : Blk e w g cur) (hfit : off + m.length ≤ cur.length) (B : Nat) (w0 : World) (hb : Below B w0 w) (hBg : B ≤ g)
    (h : ∀ w', Blk e w' g (splice cur off (m.flatMap f)) → Below B w0 w' → wpList P ops Q rest (a.put o.dst (goInt m.length)) w') :
    wpList P ops Q (o :: rest) a w := by
  obtain ⟨i, hi, hz, hsi, hby⟩ := el.info
  have hlen : (m.flatMap f).length = m.length := by rw [flat_len el.hf]; simp
  obtain ⟨h0, ad, c, rfl, _, _, h3⟩ := hrow
  refine wpList_copy_splice hgd d s dT sT ho t el.ht (by rw [hi]; simp [hsi]) _ ad dLen dCap m.length c hd hs g off cur e hg (m.flatMap f) (by rw [hlen]; exact (Nat.min_eq_left hle).symm) ?_ (by rw [hlen]; exact hfit) (el.one m) B w0 hb hBg ?_
  · intro hpos
    rcases h3 with ⟨_, hm, _⟩ | ⟨b, o2, sp, rfl, hsp, h3⟩
    · omega
    · obtain rfl : sp = none := hsp.resolve_right (by omega)
      refine ⟨rfl, _, rfl, fun j v hv => ?_⟩
      have hadd : (⟨b, o2, none⟩ : Addr).add j = ⟨b, o2 + j, none⟩ := by unfold Addr.add; split <;> simp_all
      rw [hadd]; exact h3 j v hv
  · rw [hlen]; exact fun w' h1 h2 => h w' h1 h2

theorem Calls.quiet_of2 {P : Program} {f : FuncId} {args : Array Value} {w : World} {a n : Nat} {v : Value}
    (h : Calls P f args (w.drewN (a + n)) fun e w' => e = .returned v ∧ ∃ m, w' = (w.drewN (a + n)).drewN m) : Calls P f args (w.drewN (a + n)) fun e w'' => e = .returned v ∧ ∃ m, w'' = w.drewN (a + m) :=
  h.mono fun _ _ ⟨he, m, hm⟩ => ⟨he, n + m, by rw [hm, World.drewN_drewN, Nat.add_assoc]⟩
theorem undrew {w w' : World} (h : Below w.drew.heap.size w.drew w') : Below w.heap.size w w' := ⟨h.os, h.tape, h.output, h.size, h.block⟩
theorem Below.then {w0 w1 w2 : World} (h : Below w0.heap.size w0 w1) (k : Below w1.heap.size w1 w2) : Below w0.heap.size w0 w2 := h.trans (k.mono h.size)
/-- a string as a value -/
@[go_sem] def str (l : List UInt8) : Value := .string ⟨l.toArray⟩
theorem fold_push (l : List UInt8) : ∀ r : ByteArray, (l.map (fun x => (x.toNat : Int))).foldl (fun r n => r.push (UInt8.ofNat n.toNat)) r = ⟨r.data ++ l.toArray⟩ := by
  induction l with
  | nil => intro r; simp
  | cons x l ih =>
    intro r
    simp only [List.map_cons, List.foldl_cons]
    rw [ih]
    simp [ByteArray.push]
/-- 'string(b)' -/
theorem run_str {P : Program} {w : World} {src dst e : TypeId} (hs : P.underlying src = some (.slice e)) (he : P.underlying e = some (.int .u8)) (hd : P.underlying dst = some .string)
    {v : Value} {l : List UInt8} (h : Bytes w v l) : (convert src dst v).run P w = .ok (str l) w := by
  obtain ⟨h0, a, c, rfl, _, _, h3⟩ := h
  rw [run_convert_bytes_string w src dst e a _ c hs he hd]
  rcases h3 with ⟨rfl, hn, rfl⟩ | ⟨b, off, sp, rfl, hsp, h3⟩
  · obtain rfl : l = [] := List.eq_nil_of_length_eq_zero hn
    simp [Conv.bytesToString, str]
    rfl
  · by_cases hn0 : l.length = 0
    · obtain rfl : l = [] := List.eq_nil_of_length_eq_zero hn0
      have hl : (loadCells ⟨b, off, sp⟩ 0).run P w = .ok (([] : List Int).map (Value.int .u8)).toArray w := by simp [loadCells, loadCellsFrom]
      simp only [List.length_nil]
      rw [run_bytesToString w _ _ c _ hl]
      simp [str]; rfl
    obtain rfl : sp = none := hsp.resolve_right hn0
    have hl : (loadCells ⟨b, off, none⟩ l.length).run P w = .ok ((l.map (fun x => (x.toNat : Int))).map (Value.int .u8)).toArray w := by
      have hb : (l.map (fun x => (x.toNat : Int))).map (Value.int .u8) = l.flatMap b8 := by rw [flat_b8, List.map_map]; rfl
      have := run_loadCells_list (P := P) (w := w) ⟨b, off, none⟩ (l.flatMap b8) (fun j v hv => by
        have hadd : (⟨b, off, none⟩ : Addr).add j = ⟨b, off + j, none⟩ := by unfold Addr.add; split <;> simp_all
        rw [hadd]; exact h3 j v hv)
      rw [hb]
      simpa [flat_b8] using this
    rw [run_bytesToString w _ _ c _ hl, fold_push]
    simp [str]

/-- 's[lo:hi]' of a slice that reads as a list: the part. -/
theorem RowOf.part {α : Type} {f : α → List Value} {size : Nat} (hf : ∀ x, (f x).length = size) (_hsz : 0 < size) {w : World} {a : Option Addr} {n c : Nat} {l : List α} (h : RowOf f size w (.slice a n c) l) (lo hi : Nat) (h1 : lo ≤ hi) (h2 : hi ≤ n) :
    ∃ a' c', sliced a lo hi c size = .slice a' (hi - lo) c' ∧ RowOf f size w (.slice a' (hi - lo) c') ((l.take hi).drop lo) := by
  obtain ⟨hn, hnc, hcm⟩ := h.fits
  have hlen : ((l.take hi).drop lo).length = hi - lo := by simp; omega
  obtain ⟨_, _, _, hv, _, _, h3⟩ := h
  simp only [Value.slice.injEq] at hv
  obtain ⟨rfl, _, rfl⟩ := hv
  refine ⟨if c = lo then a else a.map (·.add (lo * size)), c - lo, rfl, ?_⟩
  unfold RowOf
  rw [hlen]
  refine ⟨by rw [flat_len hf, hlen], _, _, rfl, by omega, by omega, ?_⟩
  rcases h3 with ⟨rfl, h0, rfl⟩ | ⟨b, off, s, rfl, hs, h3⟩
  · left
    refine ⟨by split <;> rfl, by omega, by omega⟩
  · right
    have hsub : ∀ j u, (((l.take hi).drop lo).flatMap f)[j]? = some u → w.cell? ⟨b, off + (lo * size + j), none⟩ = some u := by
      intro j u hu
      apply h3
      have e1 : l.flatMap f = (l.take lo).flatMap f ++ (((l.take hi).drop lo).flatMap f ++ (l.drop hi).flatMap f) := by
        rw [← List.flatMap_append, ← List.flatMap_append]
        congr 1
        rw [← List.append_assoc]
        have e2 : l.take lo = (l.take hi).take lo := by rw [List.take_take, Nat.min_eq_left h1]
        rw [e2, List.take_append_drop, List.take_append_drop]
      have e3 : ((l.take lo).flatMap f).length = lo * size := by rw [flat_len hf, List.length_take, Nat.min_eq_left (by omega)]
      rw [e1, List.getElem?_append_right (by rw [e3]; omega), e3, show lo * size + j - lo * size = j from by omega]
      have hj := (List.getElem?_eq_some_iff.1 hu).1
      rw [List.getElem?_append_left hj]; exact hu
    by_cases hc : c = lo
    · have h0 : hi - lo = 0 := by omega
      rw [if_pos hc]
      refine ⟨b, off, s, rfl, .inr h0, fun j u hu => ?_⟩
      have : (l.take hi).drop lo = [] := List.eq_nil_of_length_eq_zero (by omega)
      rw [this] at hu; simp at hu
    · rw [if_neg hc]
      by_cases hlo : lo * size = 0
      · refine ⟨b, off, s, by simp [Addr.add, hlo], hs.imp_right (fun h => by omega), fun j u hu => ?_⟩
        have := hsub j u hu
        rwa [hlo, Nat.zero_add] at this
      · refine ⟨b, off + lo * size, none, by simp [Addr.add, hlo], .inl rfl, fun j u hu => ?_⟩
        have := hsub j u hu
        rwa [← Nat.add_assoc] at this
/-- 's[lo:]', as a run: the slot's value under one name, in every world. -/
theorem RowOf.from {α : Type} {f : α → List Value} {P : Program} {t e : TypeId} {z : Value} {size bytes : Nat} (el : El P t e z size bytes f) {w : World} {a : Option Addr} {n c : Nat} {l : List α} (h : RowOf f size w (.slice a n c) l) (lo : Nat) (h1 : lo ≤ n) (x : Int) (hx : x = lo) :
    ∃ a' c', (∀ k w', (Instr.slice t (.slice a n c) (some (.int k x)) none none).run P w' = .ok (.slice a' (n - lo) c') w') ∧ RowOf f size w (.slice a' (n - lo) c') (l.drop lo) := by
  subst hx
  obtain ⟨hn, hnc, hcm⟩ := h.fits
  obtain ⟨a', c', h2, h3⟩ := h.part el.hf el.hsz lo n h1 (Nat.le_refl _)
  obtain ⟨i, hi, _, hsi, _⟩ := el.info
  have hel : P.elem t = e := by unfold Program.elem; rw [el.ht]
  refine ⟨a', c', fun k w' => ?_, by subst hn; simpa using h3⟩
  rw [run_slice_l (P := P) w' (t := t) (a := a) (len := n) (cap := c) (by rw [hel]; exact el.ht) k (lo : Int) (by omega) (by omega)]
  rw [hel]
  simp [sizeOf, typeInfo, hi, hsi, ← h2]
theorem RowOf.to {α : Type} {f : α → List Value} {P : Program} {t e : TypeId} {z : Value} {size bytes : Nat} (el : El P t e z size bytes f) {w : World} {a : Option Addr} {n c : Nat} {l : List α} (h : RowOf f size w (.slice a n c) l) (hi : Nat) (h1 : hi ≤ n) (x : Int) (hx : x = hi) :
    ∃ a' c', (∀ k w', (Instr.slice t (.slice a n c) none (some (.int k x)) none).run P w' = .ok (.slice a' hi c') w') ∧ RowOf f size w (.slice a' hi c') (l.take hi) := by
  subst hx
  obtain ⟨hn, hnc, hcm⟩ := h.fits
  obtain ⟨a', c', h2, h3⟩ := h.part el.hf el.hsz 0 hi (Nat.zero_le _) h1
  obtain ⟨i, hi', _, hsi, _⟩ := el.info
  have hel : P.elem t = e := by unfold Program.elem; rw [el.ht]
  refine ⟨a', c', fun k w' => ?_, by simpa using h3⟩
  rw [run_slice_h (P := P) w' (t := t) (a := a) (len := n) (cap := c) (by rw [hel]; exact el.ht) k (hi : Int) (by omega) (by omega)]
  rw [hel]
  simp [sizeOf, typeInfo, hi', hsi] at h2 ⊢
  exact h2
theorem RowOf.between {α : Type} {f : α → List Value} {P : Program} {t e : TypeId} {z : Value} {size bytes : Nat} (el : El P t e z size bytes f) {w : World} {a : Option Addr} {n c : Nat} {l : List α} (h : RowOf f size w (.slice a n c) l) (lo hi : Nat) (h0 : lo ≤ hi) (h1 : hi ≤ n) (x y : Int) (hx : x = lo) (hy : y = hi) :
    ∃ a' c', (∀ k k' w', (Instr.slice t (.slice a n c) (some (.int k x)) (some (.int k' y)) none).run P w' = .ok (.slice a' (hi - lo) c') w') ∧ RowOf f size w (.slice a' (hi - lo) c') ((l.take hi).drop lo) := by
  subst hx; subst hy
  obtain ⟨hn, hnc, hcm⟩ := h.fits
  obtain ⟨a', c', h2, h3⟩ := h.part el.hf el.hsz lo hi h0 h1
  obtain ⟨i, hi', _, hsi, _⟩ := el.info
  have hel : P.elem t = e := by unfold Program.elem; rw [el.ht]
  refine ⟨a', c', fun k k' w' => ?_, h3⟩
  rw [run_slice_lh (P := P) w' (t := t) (a := a) (len := n) (cap := c) (by rw [hel]; exact el.ht) k k' (lo : Int) (hi : Int) (by omega) (by omega) (by omega)]
  rw [hel]
  simp [sizeOf, typeInfo, hi', hsi] at h2 ⊢
  exact h2

/-- A row that is filled from its head on. -/
def fillL (T : List Value) (z : Value) (i : Nat) : List Value := T.take i ++ List.replicate (T.length - i) z
theorem fill_len (T : List Value) (z : Value) (i : Nat) (h : i ≤ T.length) : (fillL T z i).length = T.length := by simp [fillL]; omega
theorem fill_zero (T : List Value) (z : Value) : fillL T z 0 = List.replicate T.length z := by simp [fillL]
theorem fill_end (T : List Value) (z : Value) : fillL T z T.length = T := by simp [fillL]
theorem fill_set (T : List Value) (z : Value) (i : Nat) (h : i < T.length) : (fillL T z i).set i T[i] = fillL T z (i + 1) := by
  unfold fillL
  have h1 : (T.take i).length = i := by simp; omega
  rw [List.set_append_right _ _ (by omega), h1, Nat.sub_self, List.take_succ_eq_append_getElem h]
  obtain ⟨m, hm⟩ : ∃ m, T.length - i = m + 1 := ⟨T.length - i - 1, by omega⟩
  rw [hm, show T.length - (i + 1) = m from by omega, List.replicate_succ, List.set_cons_zero, List.append_assoc]
  rfl
theorem fill_set' (T : List Value) (z : Value) (i : Nat) (u : Value) (h : T[i]? = some u) : (fillL T z i).set i u = fillL T z (i + 1) := by
  obtain ⟨h1, rfl⟩ := List.getElem?_eq_some_iff.1 h
  exact fill_set T z i h1
/-- the length in a slice's slot: for a loop's measure -/
def lenV : Value → Nat
  | .slice _ n _ => n
  | _ => 0
end Go.Proofs.Ytohenjgegkgncaa
