/- Small lemmas of my own on worlds, rows of cells and lists, with no program in sight. | A region that draws its order and whose operations read, and call functions that hand back plain values and change nothing that was there: one walk in the order of the text. No program in sight. | A region that draws its order, some of whose operations make memory (a call that hands back a new slice, a new block): one walk in the order of the text serves every order, each such value being known by a property that later worlds keep. No program in sight. | A region that draws its order, walked in an order that is laid down: what reads is taken first (its value is one and the same in every world that meets S), what changes memory comes up alone. No program in sight. | Own slices of one-cell elements that are written into: what lies in their block. No program in sight. | append onto a slice of the call's own, with the place of what comes of it: lemmas of my own with no program in sight. | In regions that draw their order: a whole array out of the middle of a block; '!='. Lemmas of my own with no program in sight. | append as a step of a region that draws its order, with the place of what comes of it. | '[]byte(s)' of any string; '+' of strings: lemmas of my own with no program in sight. | '==' between arrays of numbers, with no program in sight. | Arrays by value, and ranges of cells: lemmas of my own with no program in sight. -/
import Derived.WalkKit
import Derived.WalkSpells
import Derived.WalkLawsBesides
import Derived.Deep.QuietTactic
import Derived.BigQuiet
import Derived.Lib.Hide
import Derived.Laws.AppendOwnNone
import Derived.Laws.CopyOwn
import Derived.StillTail
import Derived.OrdersHeld
import Derived.Maps.AppendAt
import Derived.Great.BuildSlice
import Derived.Deep.MidRow
import Derived.Lib.ConvBytes
import Derived.Laws.Concat
import Derived.Laws.StructEq
/- (Lib) Small lemmas of my own on worlds, rows of cells and lists, with no program in sight. -/
set_option linter.unusedSimpArgs false
set_option linter.unusedVariables false
namespace Go.Proofs.Ytljbbpcnoajfeaa
open Go.RowKit

/-- a byte as a value -/
@[go_sem] def u8v (x : UInt8) : Value := .int .u8 (x.toNat : Int)
theorem u8_lt (x : UInt8) : (x.toNat : Int) < 256 ∧ 0 ≤ (x.toNat : Int) := by have := x.toNat_lt; omega
theorem ret_int {k : IntKind} {a b : Int} (h : a = b) : Ending.returned (.int k a) = .returned (.int k b) := by rw [h]
theorem val_int {k : IntKind} {a b : Int} (h : a = b) : Value.int k a = .int k b := by rw [h]
theorem ret_bool {a b : Bool} (h : a = b) : Ending.returned (.bool a) = .returned (.bool b) := by rw [h]
theorem val_bool {a b : Bool} (h : a = b) : Value.bool a = .bool b := by rw [h]

/-- The slice value 'v' reads in world 'w' as the cells 'xs' ('n' elements of 'size' cells). -/
def Row (w : World) (size : Nat) (v : Value) (n : Nat) (xs : List Value) : Prop :=
  xs.length = n * size ∧ ∃ a c, v = .slice a n c ∧ n ≤ c ∧ c ≤ maxLen ∧
    ((a = none ∧ n = 0 ∧ c = 0) ∨ ∃ b off s, a = some ⟨b, off, s⟩ ∧ (s = none ∨ n = 0) ∧ ∀ j u, xs[j]? = some u → w.cell? ⟨b, off + j, none⟩ = some u)
/-- .. as the list 'l', each element written by 'f' as 'size' cells. -/
def RowOf {α : Type} (f : α → List Value) (size : Nat) (w : World) (v : Value) (l : List α) : Prop := Row w size v l.length (l.flatMap f)
/-- .. and the slice is the call's own, from block 'B' on. -/
def OwnOf {α : Type} (f : α → List Value) (size : Nat) (e : TypeId) (w : World) (B : Nat) (v : Value) (l : List α) : Prop := w.ownsRow B e size v l.length (l.flatMap f)
/-- an element's cells: a byte, a bool, a word's part, an int -/
def b8 (x : UInt8) : List Value := [u8v x]
def bbool (x : Bool) : List Value := [.bool x]
def bu64 (x : Int) : List Value := [.int .u64 x]
def bi64 (x : Int) : List Value := [.int .i64 x]
abbrev Bytes (w : World) (v : Value) (l : List UInt8) : Prop := RowOf b8 1 w v l
theorem flat_b8 (l : List UInt8) : l.flatMap b8 = l.map u8v := by induction l <;> simp_all [b8]
theorem flat_len {α : Type} {f : α → List Value} {size : Nat} (hf : ∀ x, (f x).length = size) (l : List α) : (l.flatMap f).length = l.length * size := by
  induction l with
  | nil => simp
  | cons x l ih => simp [ih, hf, Nat.add_mul]; omega
theorem flat_get {α : Type} {f : α → List Value} {size : Nat} (hf : ∀ x, (f x).length = size) (l : List α) (k : Nat) (hk : k < l.length) (j : Nat) (hj : j < size) :
    (l.flatMap f)[k * size + j]? = (f l[k])[j]? := by
  induction l generalizing k with
  | nil => simp at hk
  | cons x l ih =>
    rw [List.flatMap_cons]
    cases k with
    | zero => simp only [Nat.zero_mul, Nat.zero_add, List.getElem_cons_zero]; rw [List.getElem?_append_left (by rw [hf]; exact hj)]
    | succ k =>
      rw [List.getElem?_append_right (by rw [hf, Nat.add_mul]; omega)]
      have : (k + 1) * size + j - (f x).length = k * size + j := by rw [hf, Nat.add_mul]; omega
      rw [this, ih k (by simpa using hk)]
      rfl

theorem Row.kept {w w' : World} {size : Nat} {v : Value} {n : Nat} {xs : List Value} (h : Row w size v n xs) (hb : Below w.heap.size w w') : Row w' size v n xs := by
  obtain ⟨h0, a, c, rfl, h1, h2, h3⟩ := h
  refine ⟨h0, a, c, rfl, h1, h2, ?_⟩
  rcases h3 with h3 | ⟨b, off, s, rfl, hs, h3⟩
  · exact .inl h3
  · refine .inr ⟨b, off, s, rfl, hs, fun j u hu => ?_⟩
    have := h3 j u hu
    rw [hb.cell (World.block_lt_of_cell? w _ this)]; exact this
theorem Row.same {w w' : World} {size : Nat} {v : Value} {n : Nat} {xs : List Value} (h : Row w size v n xs) (hb : ∀ p u, w.cell? p = some u → w'.cell? p = some u) : Row w' size v n xs := by
  obtain ⟨h0, a, c, rfl, h1, h2, h3⟩ := h
  exact ⟨h0, a, c, rfl, h1, h2, h3.imp_right fun ⟨b, off, s, e, hs, h3⟩ => ⟨b, off, s, e, hs, fun j u hu => hb _ _ (h3 j u hu)⟩⟩
theorem Row.alloc {w : World} {size : Nat} {v : Value} {n : Nat} {xs : List Value} (h : Row w size v n xs) (o : Obj) : Row (w.alloc o) size v n xs :=
  h.kept ((Below.refl _ _).alloc (Nat.le_refl _) o)
theorem Row.drew {w : World} {size : Nat} {v : Value} {n : Nat} {xs : List Value} (h : Row w size v n xs) : Row w.drew size v n xs := h
theorem Row.made (w : World) (size : Nat) (cs : List Value) (e : TypeId) (n : Nat) (hs : cs.length = n * size) (hn : n ≤ maxLen) :
    Row (w.alloc (.cells cs.toArray e)) size (.slice (some ⟨w.heap.size, 0, none⟩) n n) n cs := by
  refine ⟨by simpa using hs, _, _, rfl, Nat.le_refl _, hn, .inr ⟨_, _, _, rfl, .inl rfl, fun j u hu => ?_⟩⟩
  rw [World.cell?_alloc_at _ _ _ _ rfl]
  simpa using hu
theorem Row.one (w : World) (x : Value) (e : TypeId) : Row (w.alloc (.cells #[x] e)) 1 (.slice (some ⟨w.heap.size, 0, none⟩) 1 1) 1 [x] :=
  Row.made w 1 [x] e 1 rfl (by unfold maxLen; omega)
theorem Row.own {w : World} {base : Nat} {e : TypeId} {size : Nat} {v : Value} {n : Nat} {xs : List Value} (h : w.ownsRow base e size v n xs) : Row w size v n xs := by
  refine ⟨h.1, ?_⟩
  have hc := @World.ownsRow.cells w base e size v n xs h
  rcases h.2 with ⟨rfl, rfl⟩ | ⟨g, cap, cur, rfl, _, _, h1, h2, _, _⟩
  · exact ⟨none, 0, rfl, Nat.le_refl _, by unfold maxLen; omega, .inl ⟨rfl, rfl, rfl⟩⟩
  · refine ⟨_, _, rfl, h1, h2, .inr ⟨g, 0, none, rfl, .inl rfl, fun j u hu => ?_⟩⟩
    have := hc (g := g) rfl j u hu
    have hadd : (⟨g, 0, none⟩ : Addr).add j = ⟨g, 0 + j, none⟩ := by unfold Addr.add; split <;> simp_all
    rwa [hadd] at this
theorem Row.nil (w : World) (size : Nat) : Row w size (.slice none 0 0) 0 [] := ⟨by simp, none, 0, rfl, Nat.le_refl _, by unfold maxLen; omega, .inl ⟨rfl, rfl, rfl⟩⟩

theorem RowOf.kept {α : Type} {f : α → List Value} {size : Nat} {w w' : World} {v : Value} {l : List α} (h : RowOf f size w v l) (hb : Below w.heap.size w w') : RowOf f size w' v l := Row.kept h hb
theorem RowOf.below {α : Type} {f : α → List Value} {size : Nat} {w0 w' : World} {v : Value} {l : List α} (h : RowOf f size w0 v l) (hb : Below w0.heap.size w0 w') : RowOf f size w' v l := Row.kept h hb
theorem RowOf.alloc {α : Type} {f : α → List Value} {size : Nat} {w : World} {v : Value} {l : List α} (h : RowOf f size w v l) (o : Obj) : RowOf f size (w.alloc o) v l := Row.alloc h o
theorem RowOf.fits {α : Type} {f : α → List Value} {size : Nat} {w : World} {a : Option Addr} {n c : Nat} {l : List α} (h : RowOf f size w (.slice a n c) l) : n = l.length ∧ n ≤ c ∧ c ≤ maxLen := by
  obtain ⟨_, _, _, hv, h1, h2, _⟩ := h
  simp only [Value.slice.injEq] at hv
  obtain ⟨rfl, rfl, rfl⟩ := hv
  exact ⟨rfl, h1, h2⟩
theorem RowOf.form {α : Type} {f : α → List Value} {size : Nat} {w : World} {v : Value} {l : List α} (h : RowOf f size w v l) : ∃ a c, v = .slice a l.length c ∧ l.length ≤ c ∧ c ≤ maxLen := by
  obtain ⟨_, a, c, hv, h1, h2, _⟩ := h
  exact ⟨a, c, hv, h1, h2⟩
theorem RowOf.small {α : Type} {f : α → List Value} {size : Nat} {w : World} {v : Value} {l : List α} (h : RowOf f size w v l) : l.length ≤ maxLen := by
  obtain ⟨a, c, _, h1, h2⟩ := h.form; omega
/-- What a round reads: the slice is not nil, and here are the element's cells. -/
theorem RowOf.cells {α : Type} {f : α → List Value} {size : Nat} (hf : ∀ x, (f x).length = size) {w : World} {a : Option Addr} {n c : Nat} {l : List α} (h : RowOf f size w (.slice a n c) l) (k : Nat) (hk : k < l.length) :
    ∃ b off, a = some ⟨b, off, none⟩ ∧ ∀ j u, (f l[k])[j]? = some u → w.cell? ⟨b, off + (k * size + j), none⟩ = some u := by
  obtain ⟨_, _, _, hv, _, _, h⟩ := h
  simp only [Value.slice.injEq] at hv
  obtain ⟨rfl, rfl, rfl⟩ := hv
  rcases h with ⟨_, h0, _⟩ | ⟨b, off, s, rfl, hs, hc⟩
  · omega
  · obtain rfl : s = none := hs.resolve_right (by omega)
    refine ⟨b, off, rfl, fun j u hu => hc _ _ ?_⟩
    have hj : j < size := by
      have := (List.getElem?_eq_some_iff.1 hu).1
      rwa [hf] at this
    rw [flat_get hf l k hk j hj]; exact hu
theorem Bytes.at {w : World} {a : Option Addr} {n c : Nat} {l : List UInt8} (h : Bytes w (.slice a n c) l) (k : Nat) (hk : k < l.length) :
    ∃ b off, a = some ⟨b, off, none⟩ ∧ w.cell? ⟨b, off + k, none⟩ = some (.int .u8 (l[k].toNat : Int)) := by
  obtain ⟨b, off, ha, hc⟩ := RowOf.cells (f := b8) (size := 1) (fun _ => rfl) h k hk
  exact ⟨b, off, ha, by simpa [u8v] using hc 0 _ rfl⟩

/-- What a round reads of an argument, in a later world. -/
theorem Bytes.later {w w' : World} {a : Option Addr} {n c : Nat} {l : List UInt8} (h : Bytes w (.slice a n c) l) (hb : Below w.heap.size w w') (k : Nat) (hk : k < l.length) :
    ∃ b off, a = some ⟨b, off, none⟩ ∧ b < w.heap.size ∧ w'.cell? ⟨b, off + k, none⟩ = some (.int .u8 (l[k].toNat : Int)) := by
  obtain ⟨b, off, ha, hc⟩ := h.at k hk
  have hlt := World.block_lt_of_cell? w _ hc
  exact ⟨b, off, ha, hlt, by rw [hb.cell hlt]; exact hc⟩
theorem cell_aside {w : World} {p q : Addr} {v u : Value} (h : w.cell? p = some v) (hne : p.block ≠ q.block) : (w.setCell q u).cell? p = some v := by
  rw [World.cell?_of_block (w := w) (heap_setCell_other w q p.block u hne)]; exact h
/-- What the tables say of a slice type 't' of elements 'e', and how an element is written. -/
structure El {α : Type} (P : Program) (t e : TypeId) (z : Value) (size bytes : Nat) (f : α → List Value) : Prop where
  ht : P.underlying t = some (.slice e)
  hi : (P.info? e).map (fun i => (i.zero, i.size, i.bytes)) = some (some z, size, bytes)
  hzs : z.cells.size = size
  hsz : 0 < size
  hf : ∀ x, (f x).length = size
  h1 : ∀ x, ∀ u ∈ f x, u.oneCell' = true
theorem El.info {α : Type} {P : Program} {t e : TypeId} {z : Value} {size bytes : Nat} {f : α → List Value} (h : El P t e z size bytes f) : ∃ i, P.info? e = some i ∧ i.zero = some z ∧ i.size = size ∧ i.bytes = bytes := by
  have := h.hi
  cases hh : P.info? e with
  | none => simp [hh] at this
  | some i => simp [hh] at this; exact ⟨i, rfl, this⟩
theorem El.one {α : Type} {P : Program} {t e : TypeId} {z : Value} {size bytes : Nat} {f : α → List Value} (h : El P t e z size bytes f) (l : List α) : ∀ u ∈ l.flatMap f, u.oneCell' = true := by
  intro u hu
  obtain ⟨x, _, hx⟩ := List.mem_flatMap.1 hu
  exact h.h1 x u hx

theorem OwnOf.form {α : Type} {f : α → List Value} {size : Nat} {e : TypeId} {w : World} {B : Nat} {v : Value} {l : List α} (h : OwnOf f size e w B v l) : ∃ a c, v = .slice a l.length c ∧ c ≤ maxLen := by
  rcases h.2 with ⟨rfl, h0⟩ | ⟨g, cap, cur, rfl, _, _, _, h1, _⟩
  · rw [h0]; exact ⟨_, _, rfl, by unfold maxLen; omega⟩
  · exact ⟨_, _, rfl, h1⟩
/-- The slot's shape, its length spelt as you say. -/
theorem OwnOf.form' {α : Type} {f : α → List Value} {size : Nat} {e : TypeId} {w : World} {B : Nat} {v : Value} {l : List α} (h : OwnOf f size e w B v l) (n : Nat) (hn : l.length = n) : ∃ a c, v = .slice a n c ∧ c ≤ maxLen := hn ▸ h.form
theorem RowOf.form' {α : Type} {f : α → List Value} {size : Nat} {w : World} {v : Value} {l : List α} (h : RowOf f size w v l) (n : Nat) (hn : l.length = n) : ∃ a c, v = .slice a n c ∧ c ≤ maxLen := by
  obtain ⟨a, c, hv, _, hc⟩ := h.form
  exact ⟨a, c, hn ▸ hv, hc⟩
theorem OwnOf.row {α : Type} {f : α → List Value} {size : Nat} {e : TypeId} {w : World} {B : Nat} {v : Value} {l : List α} (h : OwnOf f size e w B v l) : RowOf f size w v l := Row.own h
theorem OwnOf.lt {α : Type} {f : α → List Value} {size : Nat} {e : TypeId} {w : World} {B : Nat} {v : Value} {l : List α} (h : OwnOf f size e w B v l) : ∀ k, v.ownBlock = some k → B ≤ k := fun k hk => (World.ownsRow.lt h k hk).1
theorem OwnOf.nil {α : Type} (f : α → List Value) (size : Nat) (e : TypeId) (w : World) (B : Nat) : OwnOf f size e w B (.slice none 0 0) ([] : List α) := World.ownsRow_nil w B e size
theorem OwnOf.alloc {α : Type} {f : α → List Value} {size : Nat} {e : TypeId} {w : World} {B : Nat} {v : Value} {l : List α} (h : OwnOf f size e w B v l) (o : Obj) : OwnOf f size e (w.alloc o) B v l := World.ownsRow.alloc h o
theorem OwnOf.drew {α : Type} {f : α → List Value} {size : Nat} {e : TypeId} {w : World} {B : Nat} {v : Value} {l : List α} (h : OwnOf f size e w B v l) : OwnOf f size e w.drew B v l := h
theorem RowOf.drew {α : Type} {f : α → List Value} {size : Nat} {w : World} {v : Value} {l : List α} (h : RowOf f size w v l) : RowOf f size w.drew v l := h
theorem OwnOf.kept {α : Type} {f : α → List Value} {size : Nat} {e : TypeId} {w w' : World} {B : Nat} {v : Value} {l : List α} (h : OwnOf f size e w B v l) (hb : Below w.heap.size w w') : OwnOf f size e w' B v l :=
  World.ownsRow.kept (row := none) h ⟨hb.os, hb.tape, hb.output, hb.size, fun k hk _ => hb.block k hk⟩ (by cases hv : v.ownBlock <;> simp)
theorem OwnOf.made {α : Type} (f : α → List Value) (size : Nat) (e : TypeId) (w : World) (B : Nat) (l : List α) (cs : Array Value) (n : Nat) (hcs : cs.toList = l.flatMap f) (hn : n = l.length) (hs : cs.size = n * size) (hB : B ≤ w.heap.size) (hm : n ≤ maxLen) :
    OwnOf f size e (w.alloc (.cells cs e)) B (.slice (some ⟨w.heap.size, 0, none⟩) n n) l := by
  subst hn; unfold OwnOf; rw [← hcs]; exact World.ownsRow_lit w cs _ hB hm hs
theorem OwnOf.empty {α : Type} (f : α → List Value) (size : Nat) (e : TypeId) (w : World) (B : Nat) (hB : B ≤ w.heap.size) : OwnOf f size e (w.alloc (.cells #[] e)) B (.slice (some ⟨w.heap.size, 0, none⟩) 0 0) ([] : List α) :=
  OwnOf.made f size e w B [] #[] 0 rfl rfl (by simp) hB (by unfold maxLen; omega)

/-- 'append(own, src...)': the source reads as a list, nil or not. -/
theorem wpList_app {α : Type} {f : α → List Value} {P : Program} {w : World} {ops : Array Oper} {rest : List Oper} {o : Oper} {a : Act} {Q : Exit → Act → World → Prop} (hgd : o.guard = none) (s x : Operand) (t : TypeId)
    (ho : o.op = .call { callee := .builtin .append, args := #[s, x], argTypes := #[t, t] })
    {e : TypeId} {z : Value} {size bytes : Nat} (el : El P t e z size bytes f) {B : Nat} {w0 : World}
    {v : Value} {l m : List α} (hs : a.eval s = v) (hown : OwnOf f size e w B v l)
    {u : Value} (hx : a.eval x = u) (hrow : RowOf f size w u m) (hbel : Below B w0 w) (hB : B ≤ w.heap.size)
    (hbytes : (l.length + m.length) * bytes ≤ 140737488355328) (h63 : l.length + m.length ≤ maxLen)
    (h : ∀ v' w', OwnOf f size e w' B v' (l ++ m) → Below B w0 w' → w.grownBy w' v.ownBlock → B ≤ w'.heap.size → wpList P ops Q rest (a.put o.dst v') w') : wpList P ops Q (o :: rest) a w := by
  obtain ⟨i, hi, hz, hsi, hby⟩ := el.info
  obtain ⟨h0, ad, c, rfl, _, _, h3⟩ := hrow
  rcases h3 with ⟨rfl, hm, rfl⟩ | ⟨b, off, sp, rfl, hsp, h3⟩
  · obtain rfl : m = [] := List.eq_nil_of_length_eq_zero hm
    refine wpList_append_own_none hgd s x t ho B e i size el.ht hi v _ _ hs hown hx ?_
    exact h v w (by simpa using hown) hbel ⟨rfl, rfl, rfl, Nat.le_refl _, fun _ _ _ => rfl⟩ hB
  · refine wpList_append_own w hgd s x t ho B e i z size bytes el.ht hi hz hsi hby el.hzs el.hsz v _ _ hs hown ⟨b, off, sp⟩ _ c _ hx h0 (fun j y hy => ?_) (el.one m) h63 hbytes hB
      (fun v' w' k1 k2 _ => h v' w' (by unfold OwnOf; rw [List.length_append, List.flatMap_append]; exact k1) (hbel.grown k2 hB hown.lt) k2 (Nat.le_trans hB k2.size))
    have hsn : sp = none := hsp.resolve_right fun h0' => by
      have : m = [] := List.eq_nil_of_length_eq_zero h0'
      subst this; simp at hy
    subst hsn
    have hadd : (⟨b, off, none⟩ : Addr).add j = ⟨b, off + j, none⟩ := by unfold Addr.add; split <;> simp_all
    rw [hadd]; exact h3 j y hy
theorem RowOf.one {α : Type} (f : α → List Value) (size : Nat) (w : World) (x : α) (cs : Array Value) (e : TypeId) (hcs : cs.toList = f x) (hs : (f x).length = size) : RowOf f size (w.alloc (.cells cs e)) (.slice (some ⟨w.heap.size, 0, none⟩) 1 1) [x] := by
  have := Row.made w size (f x) e 1 (by simpa using hs) (by unfold maxLen; omega)
  unfold RowOf
  rw [show cs = (f x).toArray from by rw [← hcs]]
  simpa using this
theorem RowOf.nil {α : Type} (f : α → List Value) (size : Nat) (w : World) : RowOf f size w (.slice none 0 0) ([] : List α) := Row.nil w size
theorem RowOf.made {α : Type} (f : α → List Value) (size : Nat) (w : World) (l : List α) (cs : Array Value) (e : TypeId) (n : Nat) (hcs : cs.toList = l.flatMap f) (hn : n = l.length) (hs : (l.flatMap f).length = n * size) (hm : n ≤ maxLen) : RowOf f size (w.alloc (.cells cs e)) (.slice (some ⟨w.heap.size, 0, none⟩) n n) l := by
  subst hn
  have := Row.made w size (l.flatMap f) e l.length hs hm
  unfold RowOf
  rw [show cs = (l.flatMap f).toArray from by rw [← hcs]]
  exact this
theorem one_b8 (x : UInt8) : ∀ u ∈ b8 x, u.oneCell' = true := by
  intro u hu
  simp only [b8, List.mem_singleton] at hu; subst hu; rfl

/-- Block 'g' holds just these cells, none frozen. -/
def Blk (e : TypeId) (w : World) (g : Nat) (cs : List Value) : Prop := w.heap[g]? = some (.cells cs.toArray e (0, 0))
theorem Blk.cell {e : TypeId} {w : World} {g : Nat} {cs : List Value} (h : Blk e w g cs) (i : Nat) : w.cell? ⟨g, i, none⟩ = cs[i]? := by
  rw [cell_of_row w g i _ e (0, 0) h]; simp
theorem Blk.get {e : TypeId} {w : World} {g : Nat} {cs : List Value} (h : Blk e w g cs) (i : Nat) (hi : i < cs.length) : w.cell? ⟨g, i, none⟩ = some cs[i] := by
  rw [h.cell, List.getElem?_eq_getElem hi]
theorem Blk.has {e : TypeId} {w : World} {g : Nat} {cs : List Value} (h : Blk e w g cs) (i : Nat) (hi : i < cs.length) : ∃ x, w.cell? ⟨g, i, none⟩ = some x := ⟨_, h.get i hi⟩
theorem Blk.free {e : TypeId} {w : World} {g : Nat} {cs : List Value} (h : Blk e w g cs) (i : Nat) : w.frozen? ⟨g, i, none⟩ = false := frozen_of_row w g i _ e h
theorem Blk.set {e : TypeId} {w : World} {g : Nat} {cs : List Value} (h : Blk e w g cs) (i : Nat) (u : Value) : Blk e (w.setCell ⟨g, i, none⟩ u) g (cs.set i u) := by
  unfold Blk; rw [heap_setCell_same w g i _ e u h]; simp
theorem Blk.other {e : TypeId} {w : World} {g : Nat} {cs : List Value} (h : Blk e w g cs) (a : Addr) (ha : a.block ≠ g) (u : Value) : Blk e (w.setCell a u) g cs := by
  unfold Blk; rw [heap_setCell_other w a g u (Ne.symm ha)]; exact h
theorem Blk.alloc {e : TypeId} {w : World} {g : Nat} {cs : List Value} (h : Blk e w g cs) (o : Obj) : Blk e (w.alloc o) g cs := by
  unfold Blk; rw [Below.heap_alloc w o g (Array.getElem?_eq_some_iff.1 h).1]; exact h
theorem Blk.new (w : World) (e : TypeId) (cs : List Value) : Blk e (w.alloc (.cells cs.toArray e)) w.heap.size cs := heap_alloc_new w _
theorem Blk.newA (w : World) (e : TypeId) (cs : Array Value) : Blk e (w.alloc (.cells cs e)) w.heap.size cs.toList := by unfold Blk; simpa using heap_alloc_new w _
theorem Blk.lt {e : TypeId} {w : World} {g : Nat} {cs : List Value} (h : Blk e w g cs) : g < w.heap.size := (Array.getElem?_eq_some_iff.1 h).1
theorem Blk.drew {e : TypeId} {w : World} {g : Nat} {cs : List Value} (h : Blk e w g cs) : Blk e w.drew g cs := h
theorem Blk.below {e : TypeId} {w w' : World} {g B : Nat} {cs : List Value} (h : Blk e w g cs) (hb : Below B w w') (hg : g < B) : Blk e w' g cs := (hb.block g hg).trans h
theorem Blk.kept {e : TypeId} {w w' : World} {g : Nat} {cs : List Value} (h : Blk e w g cs) (hb : Below w.heap.size w w') : Blk e w' g cs := (hb.block g h.lt).trans h
theorem Blk.grown {e : TypeId} {w w' : World} {g : Nat} {cs : List Value} {row : Option Nat} (h : Blk e w g cs) (hg : w.grownBy w' row) (hne : row ≠ some g) : Blk e w' g cs :=
  (hg.block g h.lt (fun e => hne e.symm)).trans h
/-- A slice over the block's own head. -/
theorem Blk.row {α : Type} {f : α → List Value} {size : Nat} {e : TypeId} {w : World} {g : Nat} {cs : List Value} (h : Blk e w g cs) (l : List α) (n c : Nat) (hf : ∀ x, (f x).length = size) (hl : l.length = n) (hcs : ∀ (j : Nat) (u : Value), (l.flatMap f)[j]? = some u → cs[j]? = some u) (hc : n ≤ c) (hm : c ≤ maxLen) :
    RowOf f size w (.slice (some ⟨g, 0, none⟩) n c) l := by
  subst hl
  refine ⟨flat_len hf l, _, _, rfl, hc, hm, .inr ⟨g, 0, none, rfl, .inl rfl, fun j u hu => ?_⟩⟩
  rw [Nat.zero_add, h.cell]; exact hcs j u hu
theorem Blk.own {α : Type} {f : α → List Value} {size : Nat} {e : TypeId} {w : World} {g B : Nat} {l : List α} (h : Blk e w g (l.flatMap f)) (n : Nat) (hf : ∀ x, (f x).length = size) (hl : l.length = n) (hB : B ≤ g) (hm : n ≤ maxLen) : OwnOf f size e w B (.slice (some ⟨g, 0, none⟩) n n) l := by
  subst hl
  refine ⟨flat_len hf l, .inr ⟨g, _, _, rfl, hB, h, Nat.le_refl _, hm, by simpa using flat_len hf l, ?_⟩⟩
  simp only [List.toList_toArray]
  exact List.take_of_length_le (by rw [flat_len hf l]; exact Nat.le_refl _)
/-- 'make([]T, n)' of one-cell elements. -/
theorem wpList_make1 {α : Type} {f : α → List Value} {P : Program} {w : World} {ops : Array Oper} {rest : List Oper} {o : Oper} {a : Act} {Q : Exit → Act → World → Prop}
    (hg : o.guard = none) (l c : Operand) (t : TypeId) (hop : o.op = Op.makeSlice t l c)
    {e : TypeId} {z : Value} {bytes : Nat} (el : El P t e z 1 bytes f) (hzc : z.cells = #[z]) {B : Nat} {w0 : World}
    (kl kc : IntKind) (L C : Int) (n : Nat) (hl : a.eval l = .int kl L) (hc : a.eval c = .int kc C) (hL : L = (n : Int)) (hC : C = (n : Int))
    (hbel : Below B w0 w) (hB : B ≤ w.heap.size) (b2 : bytes * n ≤ 281474976710656) (b3 : n ≤ maxLen)
    (hK : ∀ w', Blk e w' w.heap.size (List.replicate n z) → Below B w0 w' → w.grownBy w' none → B < w'.heap.size → wpList P ops Q rest (a.put o.dst (.slice (some ⟨w.heap.size, 0, none⟩) n n)) w') :
    wpList P ops Q (o :: rest) a w := by
  obtain ⟨i, hi, hz, hsi, hby⟩ := el.info
  refine wpList_make_full w hg l c t hop B e i z 1 el.ht hi hz hsi kl kc L C n hl hc hL hC (by rw [hby]; exact b2) b3 hB fun w' h1 h2 => ?_
  rw [Nat.mul_one, hzc, toList_madeCells_one] at h1
  have hblk : Blk e w' w.heap.size (List.replicate n z) := by
    rcases h1.2 with ⟨h', _⟩ | ⟨g', cap', cur, h', _, hgg, _, _, hcs, htake⟩
    · simp at h'
    · simp only [Value.slice.injEq, Option.some.injEq, Addr.mk.injEq, and_true, true_and] at h'
      obtain ⟨rfl, rfl⟩ := h'
      have : cur.toList = List.replicate n z := by
        rw [← htake]; exact (List.take_of_length_le (by simp [hcs])).symm
      unfold Blk; rw [← this]; simpa using hgg
  exact hK w' hblk (hbel.grown h2 hB (fun k hk => by cases hk)) h2 (Nat.lt_of_le_of_lt hB hblk.lt)

/-- What the tables say of an array or struct type of 'n' cells. -/
def Agg (P : Program) (ty : TypeId) (n : Nat) : Prop := ∃ d, P.underlying ty = some d ∧ (match d with | .struct _ | .array _ _ => true | _ => false) = true ∧ (P.info? ty).map (·.size) = some n
/-- A whole array is read out of its block. -/
theorem wpList_loadA {P : Program} {w : World} {ops : Array Oper} {rest : List Oper} {o : Oper} {a : Act} {Q : Exit → Act → World → Prop} (hgd : o.guard = none) (ty : TypeId) (x : Operand) (ho : o.op = .load ty x)
    (g : Nat) (hx : a.eval x = .pointer (some ⟨g, 0, none⟩)) {n : Nat} (hty : Agg P ty n) {e : TypeId} {cs : List Value} (hb : Blk e w g cs) (hn : cs.length = n)
    (h : wpList P ops Q rest (a.put o.dst (.agg cs.toArray)) w) : wpList P ops Q (o :: rest) a w := by
  obtain ⟨d, h1, h2, h3⟩ := hty
  exact wpList_load_row hgd ty x ho g hx e cs.toArray (0, 0) d hb h1 (by cases d <;> simp_all) (by rw [h3]; simp [hn]) h
/-- A whole array is written into its block. -/
theorem wpList_storeA {P : Program} {w : World} {ops : Array Oper} {rest : List Oper} {o : Oper} {a : Act} {Q : Exit → Act → World → Prop} (hgd : o.guard = none) (ty : TypeId) (x y : Operand) (ho : o.op = .store ty x y)
    (g : Nat) (cs : List Value) (hx : a.eval x = .pointer (some ⟨g, 0, none⟩)) (hy : a.eval y = .agg cs.toArray) {n : Nat} (hty : Agg P ty n) {e : TypeId} {old : List Value} (hb : Blk e w g old) (hn : cs.length = n) (ho2 : old.length = n)
    (h1 : ∀ u ∈ cs, u.oneCell' = true) {B : Nat} {w0 : World} (hbel : Below B w0 w) (hB : B ≤ g)
    (h : ∀ w', Blk e w' g cs → Below B w0 w' → w.grownBy w' (some g) → wpList P ops Q rest (a.put o.dst undef) w') : wpList P ops Q (o :: rest) a w := by
  obtain ⟨d, _, _, h3⟩ := hty
  refine wpList_store_row hgd ty x y ho g cs.toArray hx hy e old.toArray hb (by rw [h3]; simp [hn]) (by simp [hn, ho2]) (by rw [Array.all_eq_true_iff_forall_mem]; simpa using h1) ?_
  refine h _ ?_ (below_setRow hbel hB _) ⟨rfl, rfl, rfl, by simp, fun k _ hk => setRow_other w g k _ (fun e => hk (by rw [e]))⟩
  exact setRow_heap w g _ _ e _ hb
/-- The result lies in a block of its own. -/
theorem results_blk {P : Program} {fn : Func} {p : Tmp} {ty : TypeId} (h : fn.results = #[.cell p ty]) (tmps : Array Value) (w : World) (g : Nat) {n : Nat} (hty : Agg P ty n) {e : TypeId} {cs : List Value} (hb : Blk e w g cs) (hn : cs.length = n)
    (hp : tmps.getD p undef = .pointer (some ⟨g, 0, none⟩)) : (results fn tmps).run P w = .ok (.agg cs.toArray) w := by
  obtain ⟨d, h1, h2, h3⟩ := hty
  exact results_cell_row h tmps w g e cs.toArray (0, 0) d hp hb h1 (by cases d <;> simp_all) (by rw [h3]; simp [hn])

/-- 'copy(own[off:], src)': the source reads as a list and fits. -/
theorem wpList_copyTo {α : Type} {f : α → List Value} {P : Program} {w : World} {ops : Array Oper} {rest : List Oper} {o : Oper} {a : Act} {Q : Exit → Act → World → Prop} (hgd : o.guard = none) (d s : Operand) (dT sT : TypeId)
    (ho : o.op = .call { callee := .builtin .copy, args := #[d, s], argTypes := #[dT, sT] }) {e t : TypeId} {z : Value} {bytes : Nat} (el : El P dT t z 1 bytes f)
    (g off dLen dCap : Nat) (hd : a.eval d = .slice (some ⟨g, off, none⟩) dLen dCap) (u : Value) (m : List α) (hs : a.eval s = u) (hrow : RowOf f 1 w u m) (hle : m.length ≤ dLen)
    (cur : List Value) (hg : Blk e w g cur) (hfit : off + m.length ≤ cur.length) (B : Nat) (w0 : World) (hb : Below B w0 w) (hBg : B ≤ g)
    (h : ∀ w', Blk e w' g (splice cur off (m.flatMap f)) → Below B w0 w' → wpList P ops Q rest (a.put o.dst (goInt m.length)) w') :
    wpList P ops Q (o :: rest) a w := by
  obtain ⟨i, hi, hz, hsi, hby⟩ := el.info
  have hlen : (m.flatMap f).length = m.length := by rw [flat_len el.hf]; simp
  obtain ⟨h0, ad, c, rfl, _, _, h3⟩ := hrow
  refine wpList_copy_splice hgd d s dT sT ho t el.ht (by rw [hi]; simp [hsi]) _ ad dLen dCap m.length c hd hs g off cur e hg (m.flatMap f) (by rw [hlen]; exact (Nat.min_eq_left hle).symm) ?_ (by rw [hlen]; exact hfit) (el.one m) B w0 hb hBg ?_
  · intro hpos
    rcases h3 with ⟨_, hm, _⟩ | ⟨b, o2, sp, rfl, hsp, h3⟩
    · omega
    · obtain rfl : sp = none := hsp.resolve_right (by omega)
      refine ⟨rfl, _, rfl, fun j v hv => ?_⟩
      have hadd : (⟨b, o2, none⟩ : Addr).add j = ⟨b, o2 + j, none⟩ := by unfold Addr.add; split <;> simp_all
      rw [hadd]; exact h3 j v hv
  · rw [hlen]; exact fun w' h1 h2 => h w' h1 h2

theorem Calls.quiet_of2 {P : Program} {f : FuncId} {args : Array Value} {w : World} {a n : Nat} {v : Value}
    (h : Calls P f args (w.drewN (a + n)) fun e w' => e = .returned v ∧ ∃ m, w' = (w.drewN (a + n)).drewN m) : Calls P f args (w.drewN (a + n)) fun e w'' => e = .returned v ∧ ∃ m, w'' = w.drewN (a + m) :=
  h.mono fun _ _ ⟨he, m, hm⟩ => ⟨he, n + m, by rw [hm, World.drewN_drewN, Nat.add_assoc]⟩
theorem undrew {w w' : World} (h : Below w.drew.heap.size w.drew w') : Below w.heap.size w w' := ⟨h.os, h.tape, h.output, h.size, h.block⟩
theorem Below.then {w0 w1 w2 : World} (h : Below w0.heap.size w0 w1) (k : Below w1.heap.size w1 w2) : Below w0.heap.size w0 w2 := h.trans (k.mono h.size)
/-- a string as a value -/
@[go_sem] def str (l : List UInt8) : Value := .string ⟨l.toArray⟩
theorem fold_push (l : List UInt8) : ∀ r : ByteArray, (l.map (fun x => (x.toNat : Int))).foldl (fun r n => r.push (UInt8.ofNat n.toNat)) r = ⟨r.data ++ l.toArray⟩ := by
  induction l with
  | nil => intro r; simp
  | cons x l ih =>
    intro r
    simp only [List.map_cons, List.foldl_cons]
    rw [ih]
    simp [ByteArray.push]
/-- 'string(b)' -/
theorem run_str {P : Program} {w : World} {src dst e : TypeId} (hs : P.underlying src = some (.slice e)) (he : P.underlying e = some (.int .u8)) (hd : P.underlying dst = some .string)
    {v : Value} {l : List UInt8} (h : Bytes w v l) : (convert src dst v).run P w = .ok (str l) w := by
  obtain ⟨h0, a, c, rfl, _, _, h3⟩ := h
  rw [run_convert_bytes_string w src dst e a _ c hs he hd]
  rcases h3 with ⟨rfl, hn, rfl⟩ | ⟨b, off, sp, rfl, hsp, h3⟩
  · obtain rfl : l = [] := List.eq_nil_of_length_eq_zero hn
    simp [Conv.bytesToString, str]
    rfl
  · by_cases hn0 : l.length = 0
    · obtain rfl : l = [] := List.eq_nil_of_length_eq_zero hn0
      have hl : (loadCells ⟨b, off, sp⟩ 0).run P w = .ok (([] : List Int).map (Value.int .u8)).toArray w := by simp [loadCells, loadCellsFrom]
      simp only [List.length_nil]
      rw [run_bytesToString w _ _ c _ hl]
      simp [str]; rfl
    obtain rfl : sp = none := hsp.resolve_right hn0
    have hl : (loadCells ⟨b, off, none⟩ l.length).run P w = .ok ((l.map (fun x => (x.toNat : Int))).map (Value.int .u8)).toArray w := by
      have hb : (l.map (fun x => (x.toNat : Int))).map (Value.int .u8) = l.flatMap b8 := by rw [flat_b8, List.map_map]; rfl
      have := run_loadCells_list (P := P) (w := w) ⟨b, off, none⟩ (l.flatMap b8) (fun j v hv => by
        have hadd : (⟨b, off, none⟩ : Addr).add j = ⟨b, off + j, none⟩ := by unfold Addr.add; split <;> simp_all
        rw [hadd]; exact h3 j v hv)
      rw [hb]
      simpa [flat_b8] using this
    rw [run_bytesToString w _ _ c _ hl, fold_push]
    simp [str]

/-- 's[lo:hi]' of a slice that reads as a list: the part. -/
theorem RowOf.part {α : Type} {f : α → List Value} {size : Nat} (hf : ∀ x, (f x).length = size) (_hsz : 0 < size) {w : World} {a : Option Addr} {n c : Nat} {l : List α} (h : RowOf f size w (.slice a n c) l) (lo hi : Nat) (h1 : lo ≤ hi) (h2 : hi ≤ n) :
    ∃ a' c', sliced a lo hi c size = .slice a' (hi - lo) c' ∧ RowOf f size w (.slice a' (hi - lo) c') ((l.take hi).drop lo) := by
  obtain ⟨hn, hnc, hcm⟩ := h.fits
  have hlen : ((l.take hi).drop lo).length = hi - lo := by simp; omega
  obtain ⟨_, _, _, hv, _, _, h3⟩ := h
  simp only [Value.slice.injEq] at hv
  obtain ⟨rfl, _, rfl⟩ := hv
  refine ⟨if c = lo then a else a.map (·.add (lo * size)), c - lo, rfl, ?_⟩
  unfold RowOf
  rw [hlen]
  refine ⟨by rw [flat_len hf, hlen], _, _, rfl, by omega, by omega, ?_⟩
  rcases h3 with ⟨rfl, h0, rfl⟩ | ⟨b, off, s, rfl, hs, h3⟩
  · left
    refine ⟨by split <;> rfl, by omega, by omega⟩
  · right
    have hsub : ∀ j u, (((l.take hi).drop lo).flatMap f)[j]? = some u → w.cell? ⟨b, off + (lo * size + j), none⟩ = some u := by
      intro j u hu
      apply h3
      have e1 : l.flatMap f = (l.take lo).flatMap f ++ (((l.take hi).drop lo).flatMap f ++ (l.drop hi).flatMap f) := by
        rw [← List.flatMap_append, ← List.flatMap_append]
        congr 1
        rw [← List.append_assoc]
        have e2 : l.take lo = (l.take hi).take lo := by rw [List.take_take, Nat.min_eq_left h1]
        rw [e2, List.take_append_drop, List.take_append_drop]
      have e3 : ((l.take lo).flatMap f).length = lo * size := by rw [flat_len hf, List.length_take, Nat.min_eq_left (by omega)]
      rw [e1, List.getElem?_append_right (by rw [e3]; omega), e3, show lo * size + j - lo * size = j from by omega]
      have hj := (List.getElem?_eq_some_iff.1 hu).1
      rw [List.getElem?_append_left hj]; exact hu
    by_cases hc : c = lo
    · have h0 : hi - lo = 0 := by omega
      rw [if_pos hc]
      refine ⟨b, off, s, rfl, .inr h0, fun j u hu => ?_⟩
      have : (l.take hi).drop lo = [] := List.eq_nil_of_length_eq_zero (by omega)
      rw [this] at hu; simp at hu
    · rw [if_neg hc]
      by_cases hlo : lo * size = 0
      · refine ⟨b, off, s, by simp [Addr.add, hlo], hs.imp_right (fun h => by omega), fun j u hu => ?_⟩
        have := hsub j u hu
        rwa [hlo, Nat.zero_add] at this
      · refine ⟨b, off + lo * size, none, by simp [Addr.add, hlo], .inl rfl, fun j u hu => ?_⟩
        have := hsub j u hu
        rwa [← Nat.add_assoc] at this
/-- 's[lo:]', as a run: the slot's value under one name, in every world. -/
theorem RowOf.from {α : Type} {f : α → List Value} {P : Program} {t e : TypeId} {z : Value} {size bytes : Nat} (el : El P t e z size bytes f) {w : World} {a : Option Addr} {n c : Nat} {l : List α} (h : RowOf f size w (.slice a n c) l) (lo : Nat) (h1 : lo ≤ n) (x : Int) (hx : x = lo) :
    ∃ a' c', (∀ k w', (Instr.slice t (.slice a n c) (some (.int k x)) none none).run P w' = .ok (.slice a' (n - lo) c') w') ∧ RowOf f size w (.slice a' (n - lo) c') (l.drop lo) := by
  subst hx
  obtain ⟨hn, hnc, hcm⟩ := h.fits
  obtain ⟨a', c', h2, h3⟩ := h.part el.hf el.hsz lo n h1 (Nat.le_refl _)
  obtain ⟨i, hi, _, hsi, _⟩ := el.info
  have hel : P.elem t = e := by unfold Program.elem; rw [el.ht]
  refine ⟨a', c', fun k w' => ?_, by subst hn; simpa using h3⟩
  rw [run_slice_l (P := P) w' (t := t) (a := a) (len := n) (cap := c) (by rw [hel]; exact el.ht) k (lo : Int) (by omega) (by omega)]
  rw [hel]
  simp [sizeOf, typeInfo, hi, hsi, ← h2]
theorem RowOf.to {α : Type} {f : α → List Value} {P : Program} {t e : TypeId} {z : Value} {size bytes : Nat} (el : El P t e z size bytes f) {w : World} {a : Option Addr} {n c : Nat} {l : List α} (h : RowOf f size w (.slice a n c) l) (hi : Nat) (h1 : hi ≤ n) (x : Int) (hx : x = hi) :
    ∃ a' c', (∀ k w', (Instr.slice t (.slice a n c) none (some (.int k x)) none).run P w' = .ok (.slice a' hi c') w') ∧ RowOf f size w (.slice a' hi c') (l.take hi) := by
  subst hx
  obtain ⟨hn, hnc, hcm⟩ := h.fits
  obtain ⟨a', c', h2, h3⟩ := h.part el.hf el.hsz 0 hi (Nat.zero_le _) h1
  obtain ⟨i, hi', _, hsi, _⟩ := el.info
  have hel : P.elem t = e := by unfold Program.elem; rw [el.ht]
  refine ⟨a', c', fun k w' => ?_, by simpa using h3⟩
  rw [run_slice_h (P := P) w' (t := t) (a := a) (len := n) (cap := c) (by rw [hel]; exact el.ht) k (hi : Int) (by omega) (by omega)]
  rw [hel]
  simp [sizeOf, typeInfo, hi', hsi] at h2 ⊢
  exact h2
theorem RowOf.between {α : Type} {f : α → List Value} {P : Program} {t e : TypeId} {z : Value} {size bytes : Nat} (el : El P t e z size bytes f) {w : World} {a : Option Addr} {n c : Nat} {l : List α} (h : RowOf f size w (.slice a n c) l) (lo hi : Nat) (h0 : lo ≤ hi) (h1 : hi ≤ n) (x y : Int) (hx : x = lo) (hy : y = hi) :
    ∃ a' c', (∀ k k' w', (Instr.slice t (.slice a n c) (some (.int k x)) (some (.int k' y)) none).run P w' = .ok (.slice a' (hi - lo) c') w') ∧ RowOf f size w (.slice a' (hi - lo) c') ((l.take hi).drop lo) := by
  subst hx; subst hy
  obtain ⟨hn, hnc, hcm⟩ := h.fits
  obtain ⟨a', c', h2, h3⟩ := h.part el.hf el.hsz lo hi h0 h1
  obtain ⟨i, hi', _, hsi, _⟩ := el.info
  have hel : P.elem t = e := by unfold Program.elem; rw [el.ht]
  refine ⟨a', c', fun k k' w' => ?_, h3⟩
  rw [run_slice_lh (P := P) w' (t := t) (a := a) (len := n) (cap := c) (by rw [hel]; exact el.ht) k k' (lo : Int) (hi : Int) (by omega) (by omega) (by omega)]
  rw [hel]
  simp [sizeOf, typeInfo, hi', hsi] at h2 ⊢
  exact h2

/-- A row that is filled from its head on. -/
def fillL (T : List Value) (z : Value) (i : Nat) : List Value := T.take i ++ List.replicate (T.length - i) z
theorem fill_len (T : List Value) (z : Value) (i : Nat) (h : i ≤ T.length) : (fillL T z i).length = T.length := by simp [fillL]; omega
theorem fill_zero (T : List Value) (z : Value) : fillL T z 0 = List.replicate T.length z := by simp [fillL]
theorem fill_end (T : List Value) (z : Value) : fillL T z T.length = T := by simp [fillL]
theorem fill_set (T : List Value) (z : Value) (i : Nat) (h : i < T.length) : (fillL T z i).set i T[i] = fillL T z (i + 1) := by
  unfold fillL
  have h1 : (T.take i).length = i := by simp; omega
  rw [List.set_append_right _ _ (by omega), h1, Nat.sub_self, List.take_succ_eq_append_getElem h]
  obtain ⟨m, hm⟩ : ∃ m, T.length - i = m + 1 := ⟨T.length - i - 1, by omega⟩
  rw [hm, show T.length - (i + 1) = m from by omega, List.replicate_succ, List.set_cons_zero, List.append_assoc]
  rfl
theorem fill_set' (T : List Value) (z : Value) (i : Nat) (u : Value) (h : T[i]? = some u) : (fillL T z i).set i u = fillL T z (i + 1) := by
  obtain ⟨h1, rfl⟩ := List.getElem?_eq_some_iff.1 h
  exact fill_set T z i h1
/-- the length in a slice's slot: for a loop's measure -/
def lenV : Value → Nat
  | .slice _ n _ => n
  | _ => 0
end Go.Proofs.Ytljbbpcnoajfeaa
/- (Quiet) A region that draws its order and whose operations read, and call functions that hand back plain values and change nothing that was there: one walk in the order of the text. No program in sight. -/
namespace Go.Proofs.Ytljbbpcnoajfeaa
open Go.RowKit
/-- The worlds in which nothing that was there in 'w0' has changed. -/
def Ext (w0 : World) : Type := { w' : World // Below w0.heap.size w0 w' }
instance (w0 : World) : Nonempty (Ext w0) := ⟨⟨w0, Below.refl _ _⟩⟩
def Ext.val {w0 : World} (u : Ext w0) : World := Subtype.val u
theorem Ext.bel {w0 : World} (u : Ext w0) : Below w0.heap.size w0 u.val := u.property
def ExtC (w0 : World) : World → Prop := fun w' => ∃ u : Ext w0, w' = u.val
section
variable {P : Program}
theorem wp_region_ext (w0 : World) {id : Nat} {Q : Exit → Act → World → Prop} {a : Act} {w : World} {l : List Oper} (hm : P.follows .mixedOrders = true) (hB : Region.lexB .any l.toArray = true) (hw : Below w0.heap.size w0 w)
    (h : wpQuiet P l.toArray (fun w' => ∃ u : Ext w0, w' = u.val) (fun a' => ∀ w', Below w0.heap.size w0 w' → Q .normal a' w') l a) : (Code.region id l.toArray true).wp P Q a w :=
  wp_region_quiet (C := fun w' => ∃ u : Ext w0, w' = u.val) hm hB ⟨(⟨{ w with drawn := w.drawn + 1 }, ⟨hw.os, hw.tape, hw.output, hw.size, hw.block⟩⟩ : Ext w0), rfl⟩
    (by
      have key : ∀ (l' : List Oper) (a' : Act), wpQuiet P l.toArray (fun w' => ∃ u : Ext w0, w' = u.val) (fun a' => ∀ w', Below w0.heap.size w0 w' → Q .normal a' w') l' a' →
          wpQuiet P l.toArray (fun w' => ∃ u : Ext w0, w' = u.val) (fun a' => ∀ w', (∃ u : Ext w0, w' = u.val) → Q .normal a' w') l' a' := by
        intro l'
        induction l' with
        | nil => intro a' h' w' ⟨u, hu⟩; rw [hu]; exact h' _ u.bel
        | cons o l' ih =>
          intro a' h'
          unfold wpQuiet at h' ⊢
          split
          · rename_i hw'
            rw [if_pos hw'] at h'
            exact Oper.quiet_mono (fun a ha => ih a ha) h'
          · rename_i hw'
            rw [if_neg hw'] at h'
            exact ih _ h'
      simpa using key l a h)
/-- A callee's contract, met in a world of the class. -/
theorem Calls.ext {w0 : World} {f : FuncId} {args : Array Value} {u : Ext w0} {v : Value}
    (h : Calls P f args u.val fun e w' => e = .returned v ∧ Below u.val.heap.size u.val w') : Calls P f args u.val fun e w'' => e = .returned v ∧ ∃ u' : Ext w0, w'' = u'.val :=
  h.mono fun _ w' ⟨he, hb⟩ => ⟨he, ⟨w', u.bel.trans (hb.mono u.bel.size)⟩, rfl⟩
theorem Calls.ext_same {w0 : World} {f : FuncId} {args : Array Value} {u : Ext w0} {v : Value}
    (h : Calls P f args u.val fun e w' => e = .returned v ∧ u.val = w') : Calls P f args u.val fun e w'' => e = .returned v ∧ ∃ u' : Ext w0, w'' = u'.val :=
  h.mono fun _ _ ⟨he, hb⟩ => ⟨he, u, hb.symm⟩
theorem Calls.ext_same' {w0 : World} {f : FuncId} {args : Array Value} {u : Ext w0} {v : Value}
    (h : Calls P f args u.val fun e w' => e = .returned v ∧ w' = u.val) : Calls P f args u.val fun e w'' => e = .returned v ∧ ∃ u' : Ext w0, w'' = u'.val :=
  h.mono fun _ _ ⟨he, hb⟩ => ⟨he, u, hb⟩
theorem Calls.ext_drew {w0 : World} {f : FuncId} {args : Array Value} {u : Ext w0} {v : Value}
    (h : Calls P f args u.val fun e w' => e = .returned v ∧ ∃ m, w' = u.val.drewN m) : Calls P f args u.val fun e w'' => e = .returned v ∧ ∃ u' : Ext w0, w'' = u'.val :=
  h.mono fun _ _ ⟨he, m, hm⟩ => ⟨he, (⟨u.val.drewN m, ⟨u.bel.os, u.bel.tape, u.bel.output, u.bel.size, u.bel.block⟩⟩ : Ext w0), hm⟩
theorem Ext.cell {w0 : World} (u : Ext w0) {p : Addr} {v : Value} (h : w0.cell? p = some v) : u.val.cell? p = some v := by
  rw [u.bel.cell (World.block_lt_of_cell? w0 _ h)]; exact h
theorem Ext.blk {w0 : World} (u : Ext w0) {e : TypeId} {g : Nat} {cs : List Value} (h : Blk e w0 g cs) : Blk e u.val g cs := h.kept u.bel
theorem Ext.row {α : Type} {f : α → List Value} {size : Nat} {w0 : World} (u : Ext w0) {v : Value} {l : List α} (h : RowOf f size w0 v l) : RowOf f size u.val v l := h.kept u.bel
/-- A whole array is loaded. -/
theorem wpQuiet_loadA {w0 : World} {ops : Array Oper} {Q : Act → Prop} {a : Act} {o : Oper} {rest : List Oper} (ty : TypeId) (x : Operand) (ho : o.op = .load ty x) (hwant : Region.wanted o (yielded ops a.tmps) = true)
    (g : Nat) (hx : a.eval x = .pointer (some ⟨g, 0, none⟩)) {n : Nat} (hty : Agg P ty n) {e : TypeId} {cs : List Value} (hb : Blk e w0 g cs) (hn : cs.length = n)
    (h : wpQuiet P ops (fun w' => ∃ u : Ext w0, w' = u.val) Q rest (a.put o.dst (.agg cs.toArray))) : wpQuiet P ops (fun w' => ∃ u : Ext w0, w' = u.val) Q (o :: rest) a := by
  obtain ⟨d, h1, h2, h3⟩ := hty
  unfold wpQuiet
  rw [if_pos hwant]
  refine ⟨_, fun w' ⟨u, hu⟩ => ?_, h⟩
  subst hu
  unfold Oper.quietAt execOp
  simp only [ho, hx, Instr.loadAt, Instr.sureAddr, Sem.run_bind, Sem.run_pure, Result.andThen_ok, run_loadVar_row (P := P) u.val g e ty cs.toArray (0, 0) d (u.blk hb) h1 (by cases d <;> simp_all) (by rw [h3]; simp [hn])]
  exact ⟨rfl, rfl⟩
end
end Go.Proofs.Ytljbbpcnoajfeaa
/- (Typed) A region that draws its order, some of whose operations make memory (a call that hands back a new slice, a new block): one walk in the order of the text serves every order, each such value being known by a property that later worlds keep. No program in sight. -/
namespace Go.Proofs.Ytljbbpcnoajfeaa
open Go.RowKit
/-- What is known of a slot. -/
abbrev Ty := Value → World → Prop
abbrev Env := List (Tmp × Ty)
def Env.get (Γ : Env) (t : Tmp) : Option Ty := (Γ.find? fun p => p.1 == t).map (·.2)
def Mono (T : Ty) : Prop := ∀ v w w', T v w → Below w.heap.size w w' → T v w'
def okAt (Γ : Env) (a : Act) (w : World) (t : Tmp) (b : Act) : Prop :=
  match Γ.get t with
  | some T => ∃ v, b.tmps[t]? = some v ∧ T v w
  | none => b.tmps[t]? = a.tmps[t]?
section
variable {P : Program} {ops : Array Oper}
def constUpon (P : Program) (w : World) (v : Value) : Result Next → Prop
  | .ok (.value u) w' => w' = w ∧ u = v
  | .ok .skip w' => w' = w ∧ v = undef
  | .ok (.enter f args) w' => w' = w ∧ Calls P f args w (fun e w'' => e = .returned v ∧ Below w.heap.size w w'')
  | _ => False
def constAt (P : Program) (o : Oper) (a : Act) (w : World) (v : Value) : Prop := constUpon P w v ((execOp a.eval o).run P w)
def constOp (P : Program) (w0 : World) (o : Oper) (a : Act) (next : Act → Prop) : Prop := ∃ v, (∀ u : Ext w0, constAt P o a u.val v) ∧ next (a.put o.dst v)
attribute [go_sem] constOp constAt constUpon
def goodUpon (P : Program) (T : Ty) (w : World) : Result Next → Prop
  | .ok (.value u) w' => Below w.heap.size w w' ∧ T u w'
  | .ok .skip w' => Below w.heap.size w w' ∧ T undef w'
  | .ok (.enter f args) w' => w' = w ∧ Calls P f args w (fun e w'' => ∃ v, e = .returned v ∧ T v w'' ∧ Below w.heap.size w w'')
  | _ => False
attribute [go_sem] goodUpon
/-- For all values of these slots of which this is known. -/
def forallRel (w : World) : Env → Act → (Act → Prop) → Prop
  | [], a, K => K a
  | (t, T) :: r, a, K => ∀ v, T v w → forallRel w r (a.put (some t) v) K
/-- The slots among these that are known by a property. -/
def relOf (Γ : Env) (ts : List Tmp) : Env := Γ.filter fun p => ts.contains p.1
def wpX (P : Program) (ops : Array Oper) (w0 : World) (fin : Act → Env → Prop) : List Oper → Act → Env → Prop
  | [], a, Γ => fin a Γ
  | o :: rest, a, Γ =>
    ((relOf Γ (o.looksAt ops)) = [] ∧
      if Region.wanted o (yielded ops a.tmps) then constOp P w0 o a (fun a' => wpX P ops w0 fin rest a' Γ) else wpX P ops w0 fin rest (a.put o.dst undef) Γ) ∨
    (∃ (d : Tmp) (T : Ty), o.dst = some d ∧ d < a.tmps.size ∧ Mono T ∧
      (∀ w, Below w0.heap.size w0 w → forallRel w (relOf Γ (o.looksAt ops)) a (fun a' => Region.wanted o (yielded ops a'.tmps) = true ∧ goodUpon P T w ((execOp a'.eval o).run P w))) ∧
      wpX P ops w0 fin rest (a.put o.dst undef) ((d, T) :: Γ)) ∨
    (∃ (X : Value),
      (∀ w, Below w0.heap.size w0 w → forallRel w (relOf Γ (o.looksAt ops)) a (fun a' => Region.wanted o (yielded ops a'.tmps) = true ∧ goodUpon P (fun v _ => v = X) w ((execOp a'.eval o).run P w))) ∧
      wpX P ops w0 fin rest (a.put o.dst X) Γ)
theorem wpX_nil {w0 : World} {fin : Act → Env → Prop} {a : Act} {Γ : Env} (h : fin a Γ) : wpX P ops w0 fin [] a Γ := h
/-- An operation whose value is one and the same in every world of the class. -/
theorem wpX_step {w0 : World} {fin : Act → Env → Prop} {a : Act} {Γ : Env} {o : Oper} {rest : List Oper} (hr : (relOf Γ (o.looksAt ops)) = [])
    (h : ∀ K : Act → Prop, (∀ a, wpX P ops w0 fin rest a Γ → K a) → if Region.wanted o (yielded ops a.tmps) then constOp P w0 o a K else K (a.put o.dst undef)) : wpX P ops w0 fin (o :: rest) a Γ :=
  .inl ⟨hr, h (fun a => wpX P ops w0 fin rest a Γ) (fun _ h => h)⟩
/-- An operation whose value is known by a property. -/
theorem wpX_rel {w0 : World} {fin : Act → Env → Prop} {a : Act} {Γ : Env} {o : Oper} {rest : List Oper} (d : Tmp) (T : Ty) (hd : o.dst = some d) (hlt : d < a.tmps.size) (hm : Mono T)
    (h : ∀ w, Below w0.heap.size w0 w → forallRel w (relOf Γ (o.looksAt ops)) a (fun a' => Region.wanted o (yielded ops a'.tmps) = true ∧ goodUpon P T w ((execOp a'.eval o).run P w)))
    (hn : wpX P ops w0 fin rest (a.put o.dst undef) ((d, T) :: Γ)) : wpX P ops w0 fin (o :: rest) a Γ :=
  .inr (.inl ⟨d, T, hd, hlt, hm, h, hn⟩)
/-- An operation that looks at such values and yields one that is known outright. -/
theorem wpX_eq {w0 : World} {fin : Act → Env → Prop} {a : Act} {Γ : Env} {o : Oper} {rest : List Oper} (X : Value)
    (h : ∀ w, Below w0.heap.size w0 w → forallRel w (relOf Γ (o.looksAt ops)) a (fun a' => Region.wanted o (yielded ops a'.tmps) = true ∧ goodUpon P (fun v _ => v = X) w ((execOp a'.eval o).run P w)))
    (hn : wpX P ops w0 fin rest (a.put o.dst X) Γ) : wpX P ops w0 fin (o :: rest) a Γ :=
  .inr (.inr ⟨X, h, hn⟩)

/-! ### which operations come before which -/
def edges (ops : Array Oper) (j : Nat) : List Nat := match ops[j]? with
  | some o => (o.after.toList.filter (Region.binds .any)).map (·.on)
  | none => []
def reach (ops : Array Oper) : Nat → List Nat → List Nat → List Nat
  | 0, _, seen => seen
  | _ + 1, [], seen => seen
  | f + 1, x :: wl, seen => if seen.contains x then reach ops f wl seen else reach ops f (edges ops x ++ wl) (x :: seen)
def dstOf (ops : Array Oper) (i : Nat) : Option Tmp := (ops[i]?).bind (·.dst)
def looksOf (ops : Array Oper) (j : Nat) : List Tmp := match ops[j]? with
  | some o => o.looksAt ops
  | none => []
def typedB (ops : Array Oper) (n : Nat) : Bool :=
  Region.noSelect ops && decide (n ≤ ops.size) &&
  ((List.range ops.size).all fun i => (edges ops i).all fun k => decide (k < i)) &&
  ((List.range n).all fun j => (List.range n).all fun i =>
    match dstOf ops i with
    | none => true
    | some t => (i == j || dstOf ops j != some t) &&
      (!(looksOf ops j).contains t || (if i < j then (reach ops 5000 (edges ops j) []).contains i else (i != j) && (reach ops 5000 (edges ops i) []).contains j))) &&
  ((List.range ops.size).all fun i => decide (i < n) || ((List.range i).all fun k => (reach ops 5000 (edges ops i) []).contains k))
def Closed (ops : Array Oper) (listed : Array Bool) : Prop := ∀ j, listed.getD j false = true → ∀ i ∈ edges ops j, listed.getD i false = true
theorem reach_listed {listed : Array Bool} (hc : Closed ops listed) : ∀ (f : Nat) (wl seen : List Nat), (∀ x ∈ wl, listed.getD x false = true) → (∀ x ∈ seen, listed.getD x false = true) → ∀ x ∈ reach ops f wl seen, listed.getD x false = true
  | 0, _, _, _, hs => hs
  | _ + 1, [], _, _, hs => hs
  | f + 1, x :: wl, seen, hw, hs => by
    unfold reach
    split
    · exact reach_listed hc f wl seen (fun y hy => hw y (List.mem_cons_of_mem _ hy)) hs
    · refine reach_listed hc f _ _ (fun y hy => ?_) (fun y hy => ?_)
      · rcases List.mem_append.1 hy with hy | hy
        · exact hc x (hw x List.mem_cons_self) y hy
        · exact hw y (List.mem_cons_of_mem _ hy)
      · rcases List.mem_cons.1 hy with rfl | hy
        · exact hw y List.mem_cons_self
        · exact hs y hy
theorem ready_edges {listed : Array Bool} {j : Nat} (h : j ∈ Region.ready .any ops listed) : listed.getD j true = false ∧ (∃ o, ops[j]? = some o) ∧ ∀ i ∈ edges ops j, listed.getD i false = true := by
  obtain ⟨h0, o, ho, hall⟩ := mem_ready.1 h
  refine ⟨h0, ⟨o, ho⟩, fun i hi => ?_⟩
  unfold edges at hi
  simp only [ho, List.mem_map, List.mem_filter] at hi
  obtain ⟨e, ⟨he, hb⟩, rfl⟩ := hi
  exact hall e (by simpa using he) hb
/-! ### the lexical walk, as a row of states -/
def StepX (P : Program) (ops : Array Oper) (w0 : World) (o : Oper) (a : Act) (Γ : Env) (a' : Act) (Γ' : Env) : Prop :=
  (relOf Γ (o.looksAt ops) = [] ∧ Γ' = Γ ∧ ((Region.wanted o (yielded ops a.tmps) = true ∧ ∃ v, (∀ u : Ext w0, constAt P o a u.val v) ∧ a' = a.put o.dst v) ∨ (Region.wanted o (yielded ops a.tmps) = false ∧ a' = a.put o.dst undef))) ∨
  (∃ (d : Tmp) (T : Ty), o.dst = some d ∧ d < a.tmps.size ∧ Mono T ∧
      (∀ w, Below w0.heap.size w0 w → forallRel w (relOf Γ (o.looksAt ops)) a (fun a' => Region.wanted o (yielded ops a'.tmps) = true ∧ goodUpon P T w ((execOp a'.eval o).run P w))) ∧ a' = a.put o.dst undef ∧ Γ' = (d, T) :: Γ) ∨
  (∃ (X : Value),
      (∀ w, Below w0.heap.size w0 w → forallRel w (relOf Γ (o.looksAt ops)) a (fun a' => Region.wanted o (yielded ops a'.tmps) = true ∧ goodUpon P (fun v _ => v = X) w ((execOp a'.eval o).run P w))) ∧ a' = a.put o.dst X ∧ Γ' = Γ)
theorem seqX {w0 : World} {fin : Act → Env → Prop} : ∀ (l : List Oper) (a : Act) (Γ : Env), wpX P ops w0 fin l a Γ →
    ∃ (A : Nat → Act) (G : Nat → Env), A 0 = a ∧ G 0 = Γ ∧ fin (A l.length) (G l.length) ∧ ∀ j o, l[j]? = some o → StepX P ops w0 o (A j) (G j) (A (j + 1)) (G (j + 1))
  | [], a, Γ, h => ⟨fun _ => a, fun _ => Γ, rfl, rfl, h, fun j o hj => by simp at hj⟩
  | o :: l, a, Γ, h => by
    have key : ∃ a' Γ', StepX P ops w0 o a Γ a' Γ' ∧ wpX P ops w0 fin l a' Γ' := by
      unfold wpX at h
      rcases h with ⟨hr, h⟩ | ⟨d, T, h1, h2, h3, h5, h6⟩ | ⟨X, h5, h6⟩
      · by_cases hw : Region.wanted o (yielded ops a.tmps) = true
        · rw [if_pos hw] at h
          obtain ⟨v, hv, hn⟩ := h
          exact ⟨_, _, .inl ⟨hr, rfl, .inl ⟨hw, v, hv, rfl⟩⟩, hn⟩
        · rw [if_neg hw] at h
          exact ⟨_, _, .inl ⟨hr, rfl, .inr ⟨by simpa using hw, rfl⟩⟩, h⟩
      · exact ⟨_, _, .inr (.inl ⟨d, T, h1, h2, h3, h5, rfl, rfl⟩), h6⟩
      · exact ⟨_, _, .inr (.inr ⟨X, h5, rfl, rfl⟩), h6⟩
    obtain ⟨a', Γ', hs, hn⟩ := key
    obtain ⟨A, G, hA, hG, hf, hst⟩ := seqX l a' Γ' hn
    refine ⟨fun k => match k with | 0 => a | k + 1 => A k, fun k => match k with | 0 => Γ | k + 1 => G k, rfl, rfl, hf, fun j o' hj => ?_⟩
    cases j with
    | zero =>
      simp only [List.getElem?_cons_zero, Option.some.injEq] at hj
      subst hj
      show StepX P ops w0 o a Γ (A 0) (G 0)
      rw [hA, hG]; exact hs
    | succ j => exact hst j o' (by simpa using hj)
theorem put_size (a : Act) (d : Option Tmp) (v : Value) : (a.put d v).tmps.size = a.tmps.size := by cases d <;> simp [Act.put]
theorem put_defers' (a : Act) (d : Option Tmp) (v : Value) : (a.put d v).defers = a.defers := by cases d <;> rfl
theorem put_other (a : Act) (d : Option Tmp) (v : Value) (t : Tmp) (h : d ≠ some t) : (a.put d v).tmps[t]? = a.tmps[t]? := by
  cases d with
  | none => rfl
  | some d => simp only [Act.put]; exact Array.getElem?_setIfInBounds_ne (fun e => h (by rw [e]))
theorem put_same (a : Act) (d : Tmp) (v : Value) (h : d < a.tmps.size) : (a.put (some d) v).tmps[d]? = some v := by
  simp [Act.put, h]
theorem StepX.keeps {w0 : World} {o : Oper} {a a' : Act} {Γ Γ' : Env} (h : StepX P ops w0 o a Γ a' Γ') : a'.tmps.size = a.tmps.size ∧ a'.defers = a.defers ∧ ∀ t, o.dst ≠ some t → a'.tmps[t]? = a.tmps[t]? ∧ Γ'.get t = Γ.get t := by
  rcases h with ⟨_, rfl, ⟨_, v, _, rfl⟩ | ⟨_, rfl⟩⟩ | ⟨d, T, hd, _, _, _, rfl, rfl⟩ | ⟨X, _, rfl, rfl⟩
  · exact ⟨put_size _ _ _, put_defers' _ _ _, fun t ht => ⟨put_other _ _ _ _ ht, rfl⟩⟩
  · exact ⟨put_size _ _ _, put_defers' _ _ _, fun t ht => ⟨put_other _ _ _ _ ht, rfl⟩⟩
  · refine ⟨put_size _ _ _, put_defers' _ _ _, fun t ht => ⟨put_other _ _ _ _ ht, ?_⟩⟩
    have : d ≠ t := fun e => ht (by rw [hd, e])
    have hb : (d == t) = false := by simpa using this
    unfold Env.get
    rw [List.find?_cons_of_neg (by simpa using hb)]
  · exact ⟨put_size _ _ _, put_defers' _ _ _, fun t ht => ⟨put_other _ _ _ _ ht, rfl⟩⟩
/-- How many of the first 'n' are not listed. -/
def unl : Nat → Array Bool → Nat
  | 0, _ => 0
  | n + 1, l => unl n l + (if l.getD n false = true then 0 else 1)
theorem unl_zero {listed : Array Bool} : ∀ (n : Nat), unl n listed = 0 → ∀ i, i < n → listed.getD i false = true
  | 0, _, i, hi => by omega
  | n + 1, h, i, hi => by
    unfold unl at h
    by_cases hn : listed.getD n false = true
    · rw [if_pos hn] at h
      by_cases hin : i = n
      · rw [hin]; exact hn
      · exact unl_zero n (by omega) i (by omega)
    · rw [if_neg hn] at h; omega
theorem unl_same {listed : Array Bool} (j : Nat) : ∀ (n : Nat), n ≤ j → unl n (listed.setIfInBounds j true) = unl n listed
  | 0, _ => rfl
  | n + 1, h => by
    unfold unl
    rw [unl_same j n (by omega), getD_set_ne false (by omega)]
theorem getD_set_self {listed : Array Bool} {j : Nat} (h : j < listed.size) : (listed.setIfInBounds j true).getD j false = true := by
  simp [h]
theorem unl_set {listed : Array Bool} {j : Nat} (hs : j < listed.size) (hj : listed.getD j false = false) : ∀ (n : Nat), j < n → unl n (listed.setIfInBounds j true) + 1 = unl n listed
  | 0, h => by omega
  | n + 1, h => by
    unfold unl
    by_cases hjn : j = n
    · subst hjn
      rw [unl_same j j (Nat.le_refl _), if_pos (getD_set_self hs), if_neg (by rw [hj]; simp)]
    · have := unl_set hs hj n (by omega)
      rw [getD_set_ne false hjn]
      omega
theorem unl_some {listed : Array Bool} : ∀ (n : Nat), unl n listed ≠ 0 → ∃ i, i < n ∧ listed.getD i false = false ∧ ∀ k, k < i → listed.getD k false = true
  | 0, h => by simp [unl] at h
  | n + 1, h => by
    by_cases h0 : unl n listed = 0
    · refine ⟨n, by omega, ?_, unl_zero n h0⟩
      unfold unl at h
      by_cases hn : listed.getD n false = true
      · rw [if_pos hn] at h; omega
      · simpa using hn
    · obtain ⟨i, hi, h1, h2⟩ := unl_some n h0
      exact ⟨i, by omega, h1, h2⟩
/-! ### what the tail asks -/
theorem getD_true_of_false {listed : Array Bool} {i : Nat} (hi : i < listed.size) (h : listed.getD i false = false) : listed.getD i true = false := by
  simp [hi] at h ⊢; exact h
theorem getD_false_of_true {listed : Array Bool} {i : Nat} (h : listed.getD i true = false) : listed.getD i false = false ∧ i < listed.size := by
  rcases Nat.lt_or_ge i listed.size with h' | h'
  · simp [h'] at h ⊢; exact h
  · simp [h'] at h
theorem closed_set {listed : Array Bool} (hc : Closed ops listed) {j : Nat} (hj : ∀ i ∈ edges ops j, listed.getD i false = true) : Closed ops (listed.setIfInBounds j true) := by
  intro k hk i hi
  by_cases hkj : k = j
  · subst hkj; exact getD_set_true (hj i hi)
  · rw [getD_set_ne false (Ne.symm hkj)] at hk
    exact getD_set_true (hc k hk i hi)
structure Shape (ops : Array Oper) (n : Nat) : Prop where
  nosel : Region.noSelect ops = true
  le : n ≤ ops.size
  low : ∀ i k, i < ops.size → k ∈ edges ops i → k < i
  dist : ∀ i j t, i < n → j < n → dstOf ops i = some t → i ≠ j → dstOf ops j ≠ some t
  pre : ∀ i j t, i < n → j < n → dstOf ops i = some t → t ∈ looksOf ops j → (i < j → i ∈ reach ops 5000 (edges ops j) []) ∧ (¬ i < j → i ≠ j ∧ j ∈ reach ops 5000 (edges ops i) [])
  tail : ∀ i k, i < ops.size → n ≤ i → k < i → k ∈ reach ops 5000 (edges ops i) []
theorem shape_of {n : Nat} (h : typedB ops n = true) : Shape ops n := by
  unfold typedB at h
  simp only [Bool.and_eq_true, decide_eq_true_eq] at h
  obtain ⟨⟨⟨⟨h1, h2⟩, h3⟩, h4⟩, h5⟩ := h
  have h4' : ∀ i j t, i < n → j < n → dstOf ops i = some t → (i == j || dstOf ops j != some t) = true ∧ ((!(looksOf ops j).contains t) = true ∨ (if i < j then (reach ops 5000 (edges ops j) []).contains i else (i != j) && (reach ops 5000 (edges ops i) []).contains j) = true) := by
    intro i j t hi hj ht
    have := List.all_eq_true.1 (List.all_eq_true.1 h4 j (by simpa using hj)) i (by simpa using hi)
    rw [ht] at this
    simp only [Bool.and_eq_true, Bool.or_eq_true] at this
    simpa using this
  refine ⟨h1, h2, fun i k hi hk => ?_, fun i j t hi hj ht hne => ?_, fun i j t hi hj ht hl => ?_, fun i k hi hn hk => ?_⟩
  · have := List.all_eq_true.1 (List.all_eq_true.1 h3 i (by simpa using hi)) k hk
    simpa using this
  · have := (h4' i j t hi hj ht).1
    simp only [Bool.or_eq_true, beq_iff_eq, bne_iff_ne] at this
    exact this.resolve_left hne
  · have := (h4' i j t hi hj ht).2
    have hl' : (!(looksOf ops j).contains t) = false := by simpa using hl
    rw [hl'] at this
    have := this.resolve_left (by simp)
    by_cases hij : i < j
    · rw [if_pos hij] at this
      exact ⟨fun _ => by simpa using this, fun h => (h hij).elim⟩
    · rw [if_neg hij] at this
      simp only [Bool.and_eq_true, bne_iff_ne] at this
      exact ⟨fun h => (hij h).elim, fun _ => ⟨this.1, by simpa using this.2⟩⟩
  · have := List.all_eq_true.1 h5 i (by simpa using hi)
    simp only [Bool.or_eq_true, decide_eq_true_eq] at this
    have := List.all_eq_true.1 (this.resolve_left (by omega)) k (by simpa using hk)
    simpa using this
/-- The tail, one operation after another. -/
theorem wpAny_tail {n : Nat} (hS : Shape ops n) {Q : Exit → Act → World → Prop} : ∀ (l : List Oper) (k : Nat) (listed : Array Bool) (b : Act) (w : World), n ≤ k → k + l.length = ops.size → (∀ j, l[j]? = ops[k + j]?) → listed.size = ops.size →
    Closed ops listed → (∀ i, i < k → listed.getD i false = true) → (∀ i, k ≤ i → listed.getD i false = false) → wpList P ops Q l b w → wpAny P .any ops Q l.length listed b w
  | [], k, listed, b, w, _, hkl, _, hsz, _, hlo, _, h => by
    refine ⟨?_, h⟩
    apply List.eq_nil_iff_forall_not_mem.2
    intro j hj
    obtain ⟨h0, ⟨o, ho⟩, _⟩ := ready_edges hj
    have hjs : j < ops.size := (Array.getElem?_eq_some_iff.1 ho).1
    have := (getD_false_of_true h0).1
    rw [hlo j (by simp at hkl; omega)] at this
    cases this
  | o :: l, k, listed, b, w, hnk, hkl, hl, hsz, hcl, hlo, hhi, h => by
    have h0 : ops[k]? = some o := by simpa using (hl 0).symm
    have hks : k < ops.size := (Array.getElem?_eq_some_iff.1 h0).1
    have hlow := hS.low
    have hready : k ∈ Region.ready .any ops listed := by
      rw [mem_ready]
      refine ⟨getD_true_of_false (by omega) (hhi k (Nat.le_refl _)), o, h0, fun e he hb => hlo _ (hlow k e.on hks ?_)⟩
      unfold edges
      simp only [h0, List.mem_map, List.mem_filter]
      exact ⟨e, ⟨by simpa using he, hb⟩, rfl⟩
    refine ⟨fun hn => (by rw [hn] at hready; cases hready), fun j hj => ?_⟩
    obtain ⟨hj0, ⟨oj, hoj⟩, hje⟩ := ready_edges hj
    have hjs : j < ops.size := (Array.getElem?_eq_some_iff.1 hoj).1
    have hjk : j = k := by
      have h1 := (getD_false_of_true hj0).1
      rcases Nat.lt_trichotomy j k with hlt | heq | hgt
      · rw [hlo j hlt] at h1; cases h1
      · exact heq
      · have := reach_listed hcl 5000 (edges ops j) [] hje (fun x hx => by cases hx) k (hS.tail j k hjs (by omega) hgt)
        rw [hhi k (Nat.le_refl _)] at this; cases this
    subst hjk
    have ih : ∀ b w, wpList P ops Q l b w → wpAny P .any ops Q l.length (listed.setIfInBounds j true) b w := fun b w hw => wpAny_tail hS l (j + 1) (listed.setIfInBounds j true) b w (by omega) (by simp at hkl; omega) (fun i => by have := hl (i + 1); simpa [Nat.add_assoc, Nat.add_comm 1 i] using this) (by simp [hsz])
      (closed_set hcl hje) (fun i hi => by
        by_cases hij : i = j
        · subst hij; exact getD_set_self (by omega)
        · exact getD_set_true (hlo i (by omega))) (fun i hi => by rw [getD_set_ne false (by omega)]; exact hhi i (by omega)) hw
    unfold wpList at h
    unfold wpOp
    simp only [h0]
    split
    · rename_i hw
      rw [if_pos hw] at h
      rcases h with h | h
      · exact .inl (Oper.wp_mono (fun a w hq => ih a w hq) h)
      · exact .inr h
    · rename_i hw
      rw [if_neg hw] at h
      exact ih _ _ h
/-! ### the head: whatever order is picked -/
theorem okAt_mono {Γ : Env} (hm : ∀ t T, Γ.get t = some T → Mono T) {a b : Act} {w w' : World} {t : Tmp} (h : okAt Γ a w t b) (hb : Below w.heap.size w w') : okAt Γ a w' t b := by
  unfold okAt at *
  cases hg : Γ.get t with
  | none => simpa [hg] using h
  | some T =>
    simp only [hg] at h ⊢
    obtain ⟨v, h1, h2⟩ := h
    exact ⟨v, h1, hm t T hg v w w' h2 hb⟩
theorem get_mem {Γ : Env} {t : Tmp} {T : Ty} (h : Γ.get t = some T) : (t, T) ∈ Γ := by
  unfold Env.get at h
  obtain ⟨p, hp, rfl⟩ := Option.map_eq_some_iff.1 h
  have h1 := List.mem_of_find?_eq_some hp
  have h2 := List.find?_some hp
  have : p.1 = t := by simpa using h2
  rw [← this]; exact h1
theorem relOf_nil {Γ : Env} {ts : List Tmp} (h : relOf Γ ts = []) {t : Tmp} (ht : t ∈ ts) : Γ.get t = none := by
  cases hg : Γ.get t with
  | none => rfl
  | some T =>
    have : (t, T) ∈ relOf Γ ts := List.mem_filter.2 ⟨get_mem hg, by simpa using ht⟩
    rw [h] at this; cases this
/-- 'forallRel' at the values that the slots hold. -/
theorem forallRel_at {w : World} {b : Act} : ∀ (r : Env) (a : Act) (K : Act → Prop), a.tmps.size = b.tmps.size → (∀ p ∈ r, ∃ v, b.tmps[p.1]? = some v ∧ p.2 v w) → forallRel w r a K →
    ∃ a', K a' ∧ a'.tmps.size = b.tmps.size ∧ a'.defers = a.defers ∧ ∀ t, (a'.tmps[t]? = a.tmps[t]? ∧ (∀ p ∈ r, p.1 ≠ t)) ∨ ((∃ p ∈ r, p.1 = t) ∧ a'.tmps[t]? = b.tmps[t]?)
  | [], a, K, hs, _, h => ⟨a, h, hs, rfl, fun t => .inl ⟨rfl, fun p hp => by cases hp⟩⟩
  | (d, T) :: r, a, K, hs, hv, h => by
    obtain ⟨v, h1, h2⟩ := hv (d, T) List.mem_cons_self
    have hdlt : d < b.tmps.size := (Array.getElem?_eq_some_iff.1 h1).1
    obtain ⟨a', hK, hs', hd', hall⟩ := forallRel_at r (a.put (some d) v) K (by rw [put_size]; exact hs) (fun p hp => hv p (List.mem_cons_of_mem _ hp)) (h v h2)
    refine ⟨a', hK, hs', by rw [hd', put_defers'], fun t => ?_⟩
    rcases hall t with ⟨h3, h4⟩ | ⟨⟨p, hp, hpt⟩, h5⟩
    · by_cases hdt : d = t
      · subst hdt
        refine .inr ⟨⟨(d, T), List.mem_cons_self, rfl⟩, ?_⟩
        rw [h3, put_same _ _ _ (by rw [hs]; exact hdlt), h1]
      · refine .inl ⟨by rw [h3, put_other _ _ _ _ (by simpa using hdt)], fun p hp => ?_⟩
        rcases List.mem_cons.1 hp with rfl | hp
        · exact hdt
        · exact h4 p hp
    · exact .inr ⟨⟨p, List.mem_cons_of_mem _ hp, hpt⟩, h5⟩
theorem act_ext {a b : Act} (hd : a.defers = b.defers) (ht : ∀ t : Nat, a.tmps[t]? = b.tmps[t]?) : a = b := by
  cases a; cases b
  simp only at hd ht
  subst hd
  congr 1
  exact Array.ext_getElem? ht
theorem exec_same {o : Oper} {a b : Act} (hs : ∀ cs z, o.op ≠ .select cs z) (h : ∀ t ∈ o.looksAt ops, a.tmps[t]? = b.tmps[t]?) : execOp a.eval o = execOp b.eval o :=
  execOp_congr o hs fun x hx => by
    cases x with
    | tmp t =>
      have := h t (List.mem_append_left _ (List.mem_filterMap.2 ⟨.tmp t, by simpa using hx, rfl⟩))
      simp [Act.eval, this]
    | const v => rfl
    | global g => rfl
    | func f => rfl
theorem wanted_same {o : Oper} {a b : Act} (h : ∀ t ∈ o.looksAt ops, a.tmps[t]? = b.tmps[t]?) : Region.wanted o (yielded ops a.tmps) = Region.wanted o (yielded ops b.tmps) := by
  unfold Region.wanted
  cases hg : o.guard with
  | none => rfl
  | some gd =>
    obtain ⟨j, want⟩ := gd
    simp only [yielded]
    cases hd : (ops[j]?).bind (·.dst) with
    | none => rfl
    | some t =>
      have ht : t ∈ o.looksAt ops := by
        unfold Oper.looksAt
        refine List.mem_append_right _ ?_
        simp [hg, hd]
      simp only [Option.bind_some]
      rw [h t ht]
/-- What follows behind the head: the tail, under what is known of the slots. -/
def finX (P : Program) (ops : Array Oper) (w0 : World) (Q : Exit → Act → World → Prop) (n : Nat) (a : Act) (Γ : Env) : Prop :=
  ∀ w', Below w0.heap.size w0 w' → forallRel w' Γ.reverse a (fun a' => wpList P ops Q (ops.toList.drop n) a' w')
theorem wpX_end {w0 : World} {Q : Exit → Act → World → Prop} {n : Nat} {a : Act} {Γ : Env} (hn : ops.toList.drop n = []) (h : ∀ w', Below w0.heap.size w0 w' → forallRel w' Γ.reverse a (fun a' => Q .normal a' w')) : wpX P ops w0 (finX P ops w0 Q n) [] a Γ := by
  intro w' hw
  rw [hn]
  exact h w' hw
structure Inv (ops : Array Oper) (w0 : World) (n : Nat) (A : Nat → Act) (G : Nat → Env) (listed : Array Bool) (b : Act) (w : World) : Prop where
  size : listed.size = ops.size
  closed : Closed ops listed
  bel : Below w0.heap.size w0 w
  defers : b.defers = (A 0).defers
  bs : b.tmps.size = (A 0).tmps.size
  typed : ∀ i, i < n → listed.getD i false = true → ∀ t, dstOf ops i = some t → okAt (G (i + 1)) (A (i + 1)) w t b
  rest : ∀ t, (∀ i, i < n → listed.getD i false = true → dstOf ops i ≠ some t) → b.tmps[t]? = (A 0).tmps[t]?
  tail : ∀ i, n ≤ i → listed.getD i false = false
section
variable {w0 : World} {n : Nat} {A : Nat → Act} {G : Nat → Env}
theorem states_size (hst : ∀ j o, ops[j]? = some o → j < n → StepX P ops w0 o (A j) (G j) (A (j + 1)) (G (j + 1))) (hn : n ≤ ops.size) : ∀ j, j ≤ n → (A j).tmps.size = (A 0).tmps.size ∧ (A j).defers = (A 0).defers
  | 0, _ => ⟨rfl, rfl⟩
  | j + 1, hj => by
    have ih := states_size hst hn j (by omega)
    have ho : ops[j]? = some ops[j] := Array.getElem?_eq_getElem (by omega)
    have := (hst j _ ho (by omega)).keeps
    exact ⟨this.1.trans ih.1, this.2.1.trans ih.2⟩
theorem states_before (hst : ∀ j o, ops[j]? = some o → j < n → StepX P ops w0 o (A j) (G j) (A (j + 1)) (G (j + 1))) (hn : n ≤ ops.size) (t : Tmp) : ∀ j, j ≤ n → (∀ i, i < j → dstOf ops i ≠ some t) → (A j).tmps[t]? = (A 0).tmps[t]? ∧ (G j).get t = (G 0).get t
  | 0, _, _ => ⟨rfl, rfl⟩
  | j + 1, hj, h => by
    have ih := states_before hst hn t j (by omega) (fun i hi => h i (by omega))
    have ho : ops[j]? = some ops[j] := Array.getElem?_eq_getElem (by omega)
    have hk := (hst j _ ho (by omega)).keeps.2.2 t (by have := h j (by omega); unfold dstOf at this; rw [ho] at this; exact this)
    exact ⟨hk.1.trans ih.1, hk.2.trans ih.2⟩
theorem states_after (hst : ∀ j o, ops[j]? = some o → j < n → StepX P ops w0 o (A j) (G j) (A (j + 1)) (G (j + 1))) (hS : Shape ops n) (t : Tmp) (i : Nat) (hi : i < n) (ht : dstOf ops i = some t) : ∀ d, i + 1 + d ≤ n → (A (i + 1 + d)).tmps[t]? = (A (i + 1)).tmps[t]? ∧ (G (i + 1 + d)).get t = (G (i + 1)).get t
  | 0, _ => ⟨rfl, rfl⟩
  | d + 1, hd => by
    have ih := states_after hst hS t i hi ht d (by omega)
    have hle := hS.le
    have ho : ops[i + 1 + d]? = some ops[i + 1 + d] := Array.getElem?_eq_getElem (by omega)
    have hk := (hst (i + 1 + d) _ ho (by omega)).keeps.2.2 t (by
      have := hS.dist i (i + 1 + d) t hi (by omega) ht (by omega)
      unfold dstOf at this; rw [ho] at this; exact this)
    exact ⟨hk.1.trans ih.1, hk.2.trans ih.2⟩
theorem states_mono (hst : ∀ j o, ops[j]? = some o → j < n → StepX P ops w0 o (A j) (G j) (A (j + 1)) (G (j + 1))) (hn : n ≤ ops.size) (h0 : G 0 = []) : ∀ j, j ≤ n → (∀ t T, (t, T) ∈ G j → Mono T ∧ ∃ i, i < j ∧ dstOf ops i = some t) ∧ ((G j).map (·.1)).length = (G j).length
  | 0, _ => ⟨fun t T h => (by rw [h0] at h; cases h), by simp⟩
  | j + 1, hj => by
    have ih := states_mono hst hn h0 j (by omega)
    have ho : ops[j]? = some ops[j] := Array.getElem?_eq_getElem (by omega)
    refine ⟨fun t T h => ?_, by simp⟩
    rcases hst j _ ho (by omega) with ⟨_, hg, _⟩ | ⟨d, T', hd, _, hm, _, _, hg⟩ | ⟨X, _, _, hg⟩
    · rw [hg] at h
      obtain ⟨h1, i, hi, h2⟩ := ih.1 t T h
      exact ⟨h1, i, by omega, h2⟩
    rotate_left
    · rw [hg] at h
      obtain ⟨h1, i, hi, h2⟩ := ih.1 t T h
      exact ⟨h1, i, by omega, h2⟩
    · rw [hg] at h
      rcases List.mem_cons.1 h with e | h
      · simp only [Prod.mk.injEq] at e
        obtain ⟨rfl, rfl⟩ := e
        exact ⟨hm, j, by omega, by unfold dstOf; rw [ho]; exact hd⟩
      · obtain ⟨h1, i, hi, h2⟩ := ih.1 t T h
        exact ⟨h1, i, by omega, h2⟩
theorem states_get (hst : ∀ j o, ops[j]? = some o → j < n → StepX P ops w0 o (A j) (G j) (A (j + 1)) (G (j + 1))) (hS : Shape ops n) (h0 : G 0 = []) : ∀ j, j ≤ n → ∀ t T, (t, T) ∈ G j → (G j).get t = some T
  | 0, _, t, T, h => by rw [h0] at h; cases h
  | j + 1, hj, t, T, h => by
    have hle := hS.le
    have ih := states_get hst hS h0 j (by omega) t T
    have ho : ops[j]? = some ops[j] := Array.getElem?_eq_getElem (by omega)
    rcases hst j _ ho (by omega) with ⟨_, hg, _⟩ | ⟨d, T', hd, _, hm, _, _, hg⟩ | ⟨X, _, _, hg⟩
    · rw [hg] at h ⊢; exact ih h
    rotate_left
    · rw [hg] at h ⊢; exact ih h
    · rw [hg] at h ⊢
      have hdj : dstOf ops j = some d := by unfold dstOf; rw [ho]; exact hd
      rcases List.mem_cons.1 h with e | h
      · simp only [Prod.mk.injEq] at e
        obtain ⟨rfl, rfl⟩ := e
        simp [Env.get]
      · obtain ⟨_, i, hi, hit⟩ := (states_mono hst hle h0 j (by omega)).1 t T h
        have hne : d ≠ t := by
          intro e; subst e
          exact hS.dist i j d (by omega) (by omega) hit (by omega) hdj
        have := ih h
        unfold Env.get at this ⊢
        rw [List.find?_cons_of_neg (by simpa using hne)]
        exact this
theorem put_same_size {a b : Act} (h : a.tmps.size = b.tmps.size) (t : Tmp) (v : Value) : (b.put (some t) v).tmps[t]? = (a.put (some t) v).tmps[t]? := by
  simp only [Act.put, Array.getElem?_setIfInBounds_self, h]
theorem Inv.step (hS : Shape ops n) (hst : ∀ j o, ops[j]? = some o → j < n → StepX P ops w0 o (A j) (G j) (A (j + 1)) (G (j + 1))) (h0 : G 0 = []) {listed : Array Bool} {b : Act} {w w' : World} (inv : Inv ops w0 n A G listed b w) {j : Nat} {o : Oper} (hj : j < n) (ho : ops[j]? = some o)
    (hun : listed.getD j false = false) (hedge : ∀ i ∈ edges ops j, listed.getD i false = true) (hb : Below w.heap.size w w') (v : Value) (hv : ∀ t, o.dst = some t → okAt (G (j + 1)) (A (j + 1)) w' t (b.put o.dst v)) :
    Inv ops w0 n A G (listed.setIfInBounds j true) (b.put o.dst v) w' := by
  have hle := hS.le
  have hdj : dstOf ops j = o.dst := by unfold dstOf; rw [ho]; rfl
  refine ⟨by simp [inv.size], closed_set inv.closed hedge, inv.bel.trans (hb.mono inv.bel.size), by rw [put_defers']; exact inv.defers, by rw [put_size]; exact inv.bs, fun i hi hl t ht => ?_, fun t ht => ?_, fun i hi => ?_⟩
  · by_cases hij : i = j
    · subst hij
      exact hv t (by rw [← hdj]; exact ht)
    · rw [getD_set_ne false (Ne.symm hij)] at hl
      have hne : o.dst ≠ some t := by
        rw [← hdj]
        exact hS.dist i j t hi hj ht hij
      have h1 := inv.typed i hi hl t ht
      have hm : ∀ t T, (G (i + 1)).get t = some T → Mono T := fun t T hg => ((states_mono hst hle h0 (i + 1) (by omega)).1 t T (get_mem hg)).1
      have h2 := okAt_mono hm h1 hb
      unfold okAt at h2 ⊢
      rw [put_other _ _ _ _ hne]
      exact h2
  · have hne : o.dst ≠ some t := by
      rw [← hdj]
      exact ht j hj (getD_set_self (by rw [inv.size]; omega))
    rw [put_other _ _ _ _ hne]
    exact inv.rest t fun i hi hl => ht i hi (getD_set_true hl)
  · rw [getD_set_ne false (by omega)]
    exact inv.tail i hi
theorem wpAny_all_listed (hS : Shape ops n) (hst : ∀ j o, ops[j]? = some o → j < n → StepX P ops w0 o (A j) (G j) (A (j + 1)) (G (j + 1))) (h0 : G 0 = []) {Q : Exit → Act → World → Prop} (hfin : finX P ops w0 Q n (A n) (G n)) {fuel : Nat} {listed : Array Bool} {b : Act} {w : World}
    (inv : Inv ops w0 n A G listed b w) (hf : unl n listed + (ops.size - n) = fuel) (hz : unl n listed = 0) : wpAny P .any ops Q fuel listed b w := by
  have hle := hS.le
  have hlo := unl_zero n hz
  have hsz := states_size hst hle n (Nat.le_refl _)
  obtain ⟨a', hK, hs', hd', hsl⟩ := forallRel_at (b := b) (G n).reverse (A n) _ (by rw [hsz.1, inv.bs]) (fun p hp => by
    have hp' : (p.1, p.2) ∈ G n := by simpa using hp
    obtain ⟨_, i, hi, hit⟩ := (states_mono hst hle h0 n (Nat.le_refl _)).1 p.1 p.2 hp'
    have h1 := inv.typed i hi (hlo i hi) p.1 hit
    have h2 := states_after hst hS p.1 i hi hit (n - (i + 1)) (by omega)
    rw [show i + 1 + (n - (i + 1)) = n from by omega] at h2
    unfold okAt at h1
    rw [← h2.2, states_get hst hS h0 n (Nat.le_refl _) p.1 p.2 hp'] at h1
    exact h1) (hfin w inv.bel)
  have hab : a' = b := by
    refine act_ext (by rw [hd', hsz.2, inv.defers]) fun t => ?_
    rcases hsl t with ⟨h1, h2⟩ | ⟨_, h1⟩
    · have hgn : (G n).get t = none := by
        cases hgt : (G n).get t with
        | none => rfl
        | some T' => exact (h2 (t, T') (by simpa using get_mem hgt) rfl).elim
      rw [h1]
      by_cases hex : ∃ i, i < n ∧ dstOf ops i = some t
      · obtain ⟨i, hi, hit⟩ := hex
        have h3 := inv.typed i hi (hlo i hi) t hit
        have h4 := states_after hst hS t i hi hit (n - (i + 1)) (by omega)
        rw [show i + 1 + (n - (i + 1)) = n from by omega] at h4
        unfold okAt at h3
        rw [← h4.2, hgn] at h3
        rw [h4.1]; exact h3.symm
      · have hno : ∀ i, i < n → dstOf ops i ≠ some t := fun i hi h => hex ⟨i, hi, h⟩
        rw [(states_before hst hle t n (Nat.le_refl _) hno).1, inv.rest t fun i hi _ => hno i hi]
    · exact h1
  rw [hab] at hK
  have hl : (ops.toList.drop n).length = fuel := by simp; omega
  have := wpAny_tail hS (Q := Q) (ops.toList.drop n) n listed b w (Nat.le_refl _) (by simp; omega) (fun j => by simp [List.getElem?_drop]) inv.size inv.closed hlo inv.tail hK
  rw [hl] at this
  exact this
theorem wpAny_head (hS : Shape ops n) (hst : ∀ j o, ops[j]? = some o → j < n → StepX P ops w0 o (A j) (G j) (A (j + 1)) (G (j + 1))) (h0 : G 0 = []) {Q : Exit → Act → World → Prop} (hfin : finX P ops w0 Q n (A n) (G n)) :
    ∀ (fuel : Nat) (listed : Array Bool) (b : Act) (w : World), Inv ops w0 n A G listed b w → unl n listed + (ops.size - n) = fuel → wpAny P .any ops Q fuel listed b w := by
  have hle := hS.le
  intro fuel
  induction fuel with
  | zero =>
    intro listed b w inv hf
    exact wpAny_all_listed hS hst h0 hfin inv hf (by omega)
  | succ fuel ih =>
    intro listed b w inv hf
    by_cases hz : unl n listed = 0
    · exact wpAny_all_listed hS hst h0 hfin inv hf hz
    · obtain ⟨i0, hi0, hi0u, hi0l⟩ := unl_some n hz
      have hready : i0 ∈ Region.ready .any ops listed := by
        rw [mem_ready]
        have ho : ops[i0]? = some ops[i0] := Array.getElem?_eq_getElem (by omega)
        refine ⟨getD_true_of_false (by rw [inv.size]; omega) hi0u, _, ho, fun e he hb => hi0l _ (hS.low i0 e.on (by omega) ?_)⟩
        unfold edges
        simp only [ho, List.mem_map, List.mem_filter]
        exact ⟨e, ⟨by simpa using he, hb⟩, rfl⟩
      refine ⟨fun hn => (by rw [hn] at hready; cases hready), fun j hj => ?_⟩
      obtain ⟨hj0, ⟨o, ho⟩, hedge⟩ := ready_edges hj
      have hjs : j < ops.size := (Array.getElem?_eq_some_iff.1 ho).1
      have hun := (getD_false_of_true hj0).1
      have hjn : j < n := by
        rcases Nat.lt_or_ge j n with h | h
        · exact h
        · have := reach_listed inv.closed 5000 (edges ops j) [] hedge (fun x hx => by cases hx) i0 (hS.tail j i0 hjs h (by omega))
          rw [hi0u] at this; cases this
      have hdj : dstOf ops j = o.dst := by unfold dstOf; rw [ho]; rfl
      have hlj : looksOf ops j = o.looksAt ops := by unfold looksOf; rw [ho]
      -- what the operation looks at
      have hlook : ∀ t ∈ o.looksAt ops, okAt (G j) (A j) w t b := by
        intro t ht
        by_cases hex : ∃ i, i < j ∧ dstOf ops i = some t
        · obtain ⟨i, hij, hit⟩ := hex
          have hr := (hS.pre i j t (by omega) hjn hit (by rw [hlj]; exact ht)).1 hij
          have hli := reach_listed inv.closed 5000 (edges ops j) [] hedge (fun x hx => by cases hx) i hr
          have h1 := inv.typed i (by omega) hli t hit
          have h2 := states_after hst hS t i (by omega) hit (j - (i + 1)) (by omega)
          rw [show i + 1 + (j - (i + 1)) = j from by omega] at h2
          unfold okAt at h1 ⊢
          rw [h2.1, h2.2]; exact h1
        · have hno : ∀ i, i < j → dstOf ops i ≠ some t := fun i hi h => hex ⟨i, hi, h⟩
          have h1 := states_before hst hle t j (by omega) hno
          have h2 := inv.rest t (fun i hi hl h => by
            have hij : ¬ i < j := fun hh => hno i hh h
            obtain ⟨hne, hr⟩ := (hS.pre i j t hi hjn h (by rw [hlj]; exact ht)).2 hij
            have := reach_listed inv.closed 5000 (edges ops i) [] (fun x hx => inv.closed i hl x hx) (fun x hx => by cases hx) j hr
            rw [hun] at this; cases this)
          unfold okAt
          rw [h1.2, h0]
          simp only [Env.get, List.find?_nil, Option.map_none]
          rw [h2, h1.1]
      have hnext : ∀ (v : Value) (w' : World), Below w.heap.size w w' → (∀ t, o.dst = some t → okAt (G (j + 1)) (A (j + 1)) w' t (b.put o.dst v)) → wpAny P .any ops Q fuel (listed.setIfInBounds j true) (b.put o.dst v) w' :=
        fun v w' hb hv => ih _ _ _ (inv.step hS hst h0 hjn ho hun hedge hb v hv) (by
          have := unl_set (by rw [inv.size]; exact hjs) hun n hjn
          omega)
      have hszj := states_size hst hle j (by omega)
      have hbs : (A j).tmps.size = b.tmps.size := by rw [hszj.1, inv.bs]
      unfold wpOp
      simp only [ho]
      have hconst : ∀ v, (A (j + 1)) = (A j).put o.dst v → G (j + 1) = G j → ∀ w' t, o.dst = some t → okAt (G (j + 1)) (A (j + 1)) w' t (b.put o.dst v) := by
        intro v ha hg w' t ht
        have hno : ∀ i, i < j → dstOf ops i ≠ some t := fun i hi h => hS.dist i j t (by omega) hjn h (by omega) (by rw [hdj]; exact ht)
        have h1 := states_before hst hle t j (by omega) hno
        unfold okAt
        rw [hg, h1.2, h0]
        simp only [Env.get, List.find?_nil, Option.map_none]
        rw [ha, ht]
        exact put_same_size hbs t v
      rcases hst j o ho hjn with ⟨hrel, hg, hcase⟩ | ⟨d, T, hd, hdlt, hm, hobl, ha, hg⟩ | ⟨X, hobl, ha, hg⟩
      · have hsame : ∀ t ∈ o.looksAt ops, b.tmps[t]? = (A j).tmps[t]? := by
          intro t ht
          have h1 := hlook t ht
          unfold okAt at h1
          rw [relOf_nil hrel ht] at h1
          exact h1
        rw [wanted_same hsame]
        rcases hcase with ⟨hw, v, hv, ha⟩ | ⟨hw, ha⟩
        · rw [if_pos hw]
          left
          have hx := hv (⟨w, inv.bel⟩ : Ext w0)
          have hex := exec_same (ops := ops) (Region.noSelect_spec hS.nosel j o · · ho) hsame
          have hnx := fun w' hb => hnext v w' hb (hconst v ha hg w')
          unfold constAt at hx
          rw [← hex] at hx
          unfold Oper.wp
          change constUpon P w v ((execOp b.eval o).run P w) at hx
          generalize (execOp b.eval o).run P w = r at hx
          cases r with
          | ok nx w' =>
            cases nx <;> simp only [constUpon] at hx <;> simp only [Oper.upon]
            case value u =>
              obtain ⟨e1, e2⟩ := hx
              rw [e1, e2]; exact hnx w (Below.refl _ _)
            case skip =>
              obtain ⟨e1, e2⟩ := hx
              rw [e1, ← e2]; exact hnx w (Below.refl _ _)
            case enter f args =>
              obtain ⟨e1, hc⟩ := hx
              rw [e1]
              exact hc.mono fun e w'' ⟨he, hb⟩ => by subst he; exact hnx w'' hb
          | halt x w' => simp only [constUpon] at hx
        · rw [if_neg (by rw [hw]; simp)]
          exact hnext undef w (Below.refl _ _) (hconst undef ha hg w)
      · obtain ⟨a', ⟨hwa, hgood⟩, _, _, hsl⟩ := forallRel_at (b := b) (relOf (G j) (o.looksAt ops)) (A j) _ hbs (fun p hp => by
          obtain ⟨hp1, hp2⟩ := List.mem_filter.1 hp
          have h1 := hlook p.1 (by simpa using hp2)
          unfold okAt at h1
          rw [states_get hst hS h0 j (by omega) p.1 p.2 hp1] at h1
          exact h1) (hobl w inv.bel)
        have hsame : ∀ t ∈ o.looksAt ops, b.tmps[t]? = a'.tmps[t]? := by
          intro t ht
          rcases hsl t with ⟨h1, h2⟩ | ⟨_, h1⟩
          · have hgn : (G j).get t = none := by
              cases hgt : (G j).get t with
              | none => rfl
              | some T' => exact (h2 (t, T') (List.mem_filter.2 ⟨get_mem hgt, by simpa using ht⟩) rfl).elim
            have h3 := hlook t ht
            unfold okAt at h3
            rw [hgn] at h3
            rw [h1]; exact h3
          · exact h1.symm
        have hw : Region.wanted o (yielded ops b.tmps) = true := by rw [wanted_same hsame]; exact hwa
        rw [if_pos hw]
        left
        have hex := exec_same (ops := ops) (Region.noSelect_spec hS.nosel j o · · ho) hsame
        have hnx : ∀ u w', Below w.heap.size w w' → T u w' → wpAny P .any ops Q fuel (listed.setIfInBounds j true) (b.put o.dst u) w' := fun u w' hb hT =>
          hnext u w' hb (fun t ht => by
            have htd : d = t := by rw [hd] at ht; exact Option.some.inj ht
            subst htd
            unfold okAt
            rw [hg]
            have : Env.get ((d, T) :: G j) d = some T := by simp [Env.get]
            rw [this, hd]
            exact ⟨u, put_same _ _ _ (by rw [← hbs]; exact hdlt), hT⟩)
        unfold Oper.wp
        rw [hex]
        generalize (execOp a'.eval o).run P w = r at hgood
        cases r with
        | ok nx w' =>
          cases nx <;> simp only [goodUpon] at hgood <;> simp only [Oper.upon]
          case value u => exact hnx u w' hgood.1 hgood.2
          case skip => exact hnx undef w' hgood.1 hgood.2
          case enter f args =>
            obtain ⟨e1, hc⟩ := hgood
            rw [e1]
            exact hc.mono fun e w'' ⟨v, he, hT, hb⟩ => by subst he; exact hnx v w'' hb hT
        | halt x w' => simp only [goodUpon] at hgood
      · obtain ⟨a', ⟨hwa, hgood⟩, _, _, hsl⟩ := forallRel_at (b := b) (relOf (G j) (o.looksAt ops)) (A j) _ hbs (fun p hp => by
          obtain ⟨hp1, hp2⟩ := List.mem_filter.1 hp
          have h1 := hlook p.1 (by simpa using hp2)
          unfold okAt at h1
          rw [states_get hst hS h0 j (by omega) p.1 p.2 hp1] at h1
          exact h1) (hobl w inv.bel)
        have hsame : ∀ t ∈ o.looksAt ops, b.tmps[t]? = a'.tmps[t]? := by
          intro t ht
          rcases hsl t with ⟨h1, h2⟩ | ⟨_, h1⟩
          · have hgn : (G j).get t = none := by
              cases hgt : (G j).get t with
              | none => rfl
              | some T' => exact (h2 (t, T') (List.mem_filter.2 ⟨get_mem hgt, by simpa using ht⟩) rfl).elim
            have h3 := hlook t ht
            unfold okAt at h3
            rw [hgn] at h3
            rw [h1]; exact h3
          · exact h1.symm
        have hw : Region.wanted o (yielded ops b.tmps) = true := by rw [wanted_same hsame]; exact hwa
        rw [if_pos hw]
        left
        have hex := exec_same (ops := ops) (Region.noSelect_spec hS.nosel j o · · ho) hsame
        have hnx : ∀ u w', Below w.heap.size w w' → u = X → wpAny P .any ops Q fuel (listed.setIfInBounds j true) (b.put o.dst u) w' := fun u w' hb hT =>
          hnext u w' hb (by rw [hT]; exact hconst X ha hg w')
        unfold Oper.wp
        rw [hex]
        generalize (execOp a'.eval o).run P w = r at hgood
        cases r with
        | ok nx w' =>
          cases nx <;> simp only [goodUpon] at hgood <;> simp only [Oper.upon]
          case value u => exact hnx u w' hgood.1 hgood.2
          case skip => exact hnx undef w' hgood.1 hgood.2
          case enter f args =>
            obtain ⟨e1, hc⟩ := hgood
            rw [e1]
            exact hc.mono fun e w'' ⟨v, he, hT, hb⟩ => by subst he; exact hnx v w'' hb hT
        | halt x w' => simp only [goodUpon] at hgood
/-- **One walk of the lexical order serves every order**: the first 'n' operations each leave a value that is one and the same in every later world, or one that is known by a property; the others follow one behind the other. -/
theorem wp_region_typed (w0 : World) (n : Nat) {id : Nat} {Q : Exit → Act → World → Prop} {a : Act} {w : World} {l : List Oper} (hm : P.follows .mixedOrders = true) (hB : typedB l.toArray n = true) (hw : Below w0.heap.size w0 w)
    (h : wpX P l.toArray w0 (finX P l.toArray w0 Q n) (l.take n) a []) : (Code.region id l.toArray true).wp P Q a w := by
  refine wp_region_any hm ?_
  have hS := shape_of hB
  obtain ⟨A, G, hA, hG, hf, hst⟩ := seqX (l.take n) a [] h
  have hlen : (l.take n).length = n := by have := hS.le; simp at this; simp; omega
  rw [hlen] at hf
  have hst' : ∀ j o, l.toArray[j]? = some o → j < n → StepX P l.toArray w0 o (A j) (G j) (A (j + 1)) (G (j + 1)) := fun j o hj hjn => hst j o (by simpa [List.getElem?_take, hjn] using hj)
  refine wpAny_head hS hst' hG hf _ _ _ _ ⟨by simp, fun j hj => ?_, ⟨hw.os, hw.tape, hw.output, hw.size, hw.block⟩, by rw [hA], by rw [hA], fun i _ hl => ?_, fun t _ => by rw [hA], fun i _ => getD_replicate_false _ _⟩ ?_
  · rw [getD_replicate_false] at hj; cases hj
  · rw [getD_replicate_false] at hl; cases hl
  · have : ∀ k, unl k (Array.replicate l.toArray.size false) = k := by
      intro k
      induction k with
      | zero => rfl
      | succ k ih => unfold unl; rw [ih, getD_replicate_false]; simp
    rw [this]
    have := hS.le
    omega
end
end
end Go.Proofs.Ytljbbpcnoajfeaa
/- (Held) A region that draws its order, walked in an order that is laid down: what reads is taken first (its value is one and the same in every world that meets S), what changes memory comes up alone. No program in sight. -/
namespace Go.Proofs.Ytljbbpcnoajfeaa
open Go.RowKit
/-- The worlds that meet S. -/
def In (S : World → Prop) : Type := { w : World // S w }
def In.val {S : World → Prop} (u : In S) : World := Subtype.val u
theorem In.held {S : World → Prop} (u : In S) : S u.val := u.property
section
variable {P : Program} {ops : Array Oper} {Q : Exit → Act → World → Prop} {S : World → Prop}
def constUponI (P : Program) (w : World) (v : Value) : Result Next → Prop
  | .ok (.value u) w' => w' = w ∧ u = v
  | .ok .skip w' => w' = w ∧ v = undef
  | _ => False
def constAtI (P : Program) (o : Oper) (a : Act) (w : World) (v : Value) : Prop := (execOp a.eval o).run P w = .ok (.value v) w
def constI (P : Program) (S : World → Prop) (o : Oper) (a : Act) (next : Act → Prop) : Prop := ∃ v, (∀ u : In S, constAtI P o a u.val v) ∧ next (a.put o.dst v)
attribute [go_sem] constAtI constI
/-- The rest of the region. -/
def wpH (P : Program) (ops : Array Oper) (S : World → Prop) (Q : Exit → Act → World → Prop) (n : Nat) (listed : Array Bool) (a : Act) (w : World) : Prop := wpAnyH P .any ops Q S n listed a w
theorem wp_region_h (S : World → Prop) {id : Nat} {a : Act} {w : World} {l : List Oper} (hm : P.follows .mixedOrders = true)
    (h : ∀ w1, w1 = w.drew → wpH P l.toArray S Q l.length (List.replicate l.length false).toArray a w1) : (Code.region id l.toArray true).wp P Q a w :=
  wp_region_held hm (by have := h w.drew rfl; rw [List.toArray_replicate] at this; simpa [wpH] using this)
/-- Number 'i' reads: it is taken first. -/
theorem wpH_take (i : Nat) {oi : Oper} {n : Nat} {listed : Array Bool} {a : Act} {w : World} (hi : ops[i]? = some oi)
    (hs : (Region.noSelect ops && Region.free .any ops listed i && (Region.ready .any ops listed).contains i) = true)
    (hQ : ∀ c a w, Q (.panic c) (a.put oi.dst undef) w → Q (.panic c) a w) (hQ' : ∀ c (a : Act) v w, Q (.panic c) (a.put oi.dst v) w → Q (.panic c) a w) (hS : S w)
    (h : ∀ K : Act → Prop, (∀ a, wpH P ops S Q n (listed.setIfInBounds i true) a w → K a) → if Region.wanted oi (yielded ops a.tmps) then constI P S oi a K else K (a.put oi.dst undef)) : wpH P ops S Q (n + 1) listed a w := by
  simp only [Bool.and_eq_true] at hs
  have hc := h (fun a => wpH P ops S Q n (listed.setIfInBounds i true) a w) (fun _ h => h)
  by_cases hw : Region.wanted oi (yielded ops a.tmps) = true
  · rw [if_pos hw] at hc
    obtain ⟨v, hv, hn⟩ := hc
    exact wpAnyH_take hi hs.1.1 hs.1.2 hs.2 (fun c a w => hQ' c a v w) (.inl ⟨hw, fun w hw => hv ⟨w, hw⟩⟩) hS hn
  · rw [if_neg hw] at hc
    exact wpAnyH_take hi hs.1.1 hs.1.2 hs.2 hQ (.inr ⟨by simpa using hw, rfl⟩) hS hc
/-- Number 'i' comes up, and no other can: it is carried out. -/
theorem wpH_only (i : Nat) {oi : Oper} {n : Nat} {listed : Array Bool} {a : Act} {w : World} (hi : ops[i]? = some oi) (hr : Region.ready .any ops listed = [i])
    (h : ∀ K : Act → World → Prop, (∀ a' w', S w' → wpH P ops S Q n (listed.setIfInBounds i true) a' w' → K a' w') → if Region.wanted oi (yielded ops a.tmps) then oi.wp P a w K Q else K (a.put oi.dst undef) w) : wpH P ops S Q (n + 1) listed a w := by
  refine wpAnyH_all hr (by simp) fun j hj => ?_
  obtain rfl : j = i := by simpa using hj
  have hc := h (fun a' w' => S w' ∧ wpH P ops S Q n (listed.setIfInBounds j true) a' w') (fun _ _ h1 h2 => ⟨h1, h2⟩)
  unfold wpOp
  simp only [hi]
  by_cases hw : Region.wanted oi (yielded ops a.tmps) = true
  · rw [if_pos hw] at hc ⊢; exact .inl hc
  · rw [if_neg hw] at hc ⊢; exact hc
/-- One of those that may come up, carried out. -/
def brH (P : Program) (ops : Array Oper) (S : World → Prop) (Q : Exit → Act → World → Prop) (n : Nat) (listed : Array Bool) (a : Act) (w : World) (i : Nat) : Prop :=
  ∀ oi, ops[i]? = some oi → ∀ K : Act → World → Prop, (∀ a' w', S w' → wpH P ops S Q n (listed.setIfInBounds i true) a' w' → K a' w') → if Region.wanted oi (yielded ops a.tmps) then oi.wp P a w K Q else K (a.put oi.dst undef) w
theorem brH_of {i : Nat} {oi : Oper} {n : Nat} {listed : Array Bool} {a : Act} {w : World} (hi : ops[i]? = some oi)
    (h : ∀ K : Act → World → Prop, (∀ a' w', S w' → wpH P ops S Q n (listed.setIfInBounds i true) a' w' → K a' w') → if Region.wanted oi (yielded ops a.tmps) then oi.wp P a w K Q else K (a.put oi.dst undef) w) : brH P ops S Q n listed a w i := by
  intro o ho
  rw [hi] at ho
  obtain rfl : oi = o := by simpa using ho
  exact h
/-- Whichever of 'rs' comes up. -/
theorem wpH_all (rs : List Nat) {n : Nat} {listed : Array Bool} {a : Act} {w : World} (hr : Region.ready .any ops listed = rs) (hne : rs ≠ []) (h : ∀ i ∈ rs, brH P ops S Q n listed a w i) : wpH P ops S Q (n + 1) listed a w := by
  refine wpAnyH_all hr hne fun j hj => ?_
  have hj' : j ∈ Region.ready .any ops listed := by rw [hr]; exact hj
  obtain ⟨_, o, ho, _⟩ := mem_ready.1 hj'
  have hc := h j hj o ho (fun a' w' => S w' ∧ wpH P ops S Q n (listed.setIfInBounds j true) a' w') (fun _ _ h1 h2 => ⟨h1, h2⟩)
  unfold wpOp
  simp only [ho]
  by_cases hw : Region.wanted o (yielded ops a.tmps) = true
  · rw [if_pos hw] at hc ⊢; exact .inl hc
  · rw [if_neg hw] at hc ⊢; exact hc
/-- A region by what is known behind it: for many ways that meet again. -/
theorem wp_region_via {id : Nat} {d : Bool} {a : Act} {w : World} (R : Act → Act → World → Prop) (h1 : (Code.region id ops d).wp P (fun e b w' => e = .normal ∧ R a b w') a w) (h2 : ∀ b w', R a b w' → Q .normal b w') : (Code.region id ops d).wp P Q a w :=
  Code.wp_mono (fun e b w' h => by obtain ⟨rfl, h⟩ := h; exact h2 _ _ h) h1
/-- A whole array is stored, as one step. -/
theorem step_storeA {o : Oper} {a : Act} {w : World} {K : Act → World → Prop} {E : Prop} (hgd : o.guard = none) (ty : TypeId) (x y : Operand) (ho : o.op = .store ty x y)
    (g : Nat) (cs : List Value) (hx : a.eval x = .pointer (some ⟨g, 0, none⟩)) (hy : a.eval y = .agg cs.toArray) {n : Nat} (hty : Agg P ty n) {e : TypeId} {old : List Value} (hb : Blk e w g old) (hn : cs.length = n) (ho2 : old.length = n)
    (h1 : ∀ u ∈ cs, u.oneCell' = true) (h : ∀ w', Blk e w' g cs → Below g w w' → w.grownBy w' (some g) → K (a.put o.dst undef) w') : if Region.wanted o (yielded ops a.tmps) then o.wp P a w K Q else E := by
  have hw : Region.wanted o (yielded ops a.tmps) = true := by simp [Region.wanted, hgd]
  rw [if_pos hw]
  obtain ⟨d, _, _, h3⟩ := hty
  refine wp_store_row ty x y ho g cs.toArray hx hy e old.toArray hb (by rw [h3]; simp [hn]) (by simp [hn, ho2]) (by rw [Array.all_eq_true_iff_forall_mem]; simpa using h1) ?_
  refine h _ ?_ (below_setRow (Below.refl _ _) (Nat.le_refl _) _) ⟨rfl, rfl, rfl, by simp, fun k _ hk => setRow_other w g k _ (fun e => hk (by rw [e]))⟩
  exact setRow_heap w g _ _ e _ hb
/-- A whole array is loaded, first. -/
theorem take_loadA {o : Oper} {a : Act} {K : Act → Prop} {E : Prop} (hgd : o.guard = none) (ty : TypeId) (x : Operand) (ho : o.op = .load ty x) (g : Nat) (hx : a.eval x = .pointer (some ⟨g, 0, none⟩)) {n : Nat} (hty : Agg P ty n)
    {e : TypeId} {cs : List Value} (hb : ∀ u, S u → Blk e u g cs) (hn : cs.length = n) (h : K (a.put o.dst (.agg cs.toArray))) : if Region.wanted o (yielded ops a.tmps) then constI P S o a K else E := by
  have hw : Region.wanted o (yielded ops a.tmps) = true := by simp [Region.wanted, hgd]
  rw [if_pos hw]
  refine ⟨_, fun u => ?_, h⟩
  obtain ⟨d, h1, h2, h3⟩ := hty
  unfold constAtI execOp
  simp only [ho, hx, Instr.loadAt, Instr.sureAddr, Sem.run_bind, Sem.run_pure, Result.andThen_ok, run_loadVar_row (P := P) u.val g e ty cs.toArray (0, 0) d (hb _ u.held) h1 (by cases d <;> simp_all) (by rw [h3]; simp [hn])]
theorem wpH_done {listed : Array Bool} {a : Act} {w : World} {n : Nat} (hr : Region.ready .any ops listed = []) (h : Q .normal a w) : wpH P ops S Q n listed a w :=
  wpAnyH_done hr h n
end
/-- An '==' whose run is known, in a drawn region. -/
theorem const_eql {P : Program} {o : Oper} {a : Act} {w : World} {v v' u : Value} (ty : TypeId) (x y : Operand) (t : TypeId) (ho : o.op = .binOp .eql ty x y t) (hx : a.eval x = v) (hy : a.eval y = v')
    (hg : ∀ o1 o2 w1, (eqGuard .eql ty o1 o2 v v').run P w1 = .ok () w1) (hq : ∀ w1, (binOp .eql ty v v').run P w1 = .ok u w1) : constAt P o a w u := by
  unfold constAt execOp
  simp only [ho, hx, hy, Sem.run_bind, hg, hq, Result.andThen_ok, Sem.run_pure]
  exact ⟨rfl, rfl⟩
end Go.Proofs.Ytljbbpcnoajfeaa
/- (Row) Own slices of one-cell elements that are written into: what lies in their block. No program in sight. -/
namespace Go.Proofs.Ytljbbpcnoajfeaa
open Go.RowKit
/-- Elements of one cell. -/
def One {α : Type} (f : α → List Value) (c1 : α → Value) : Prop := ∀ x, f x = [c1 x]
theorem one_u8 : One b8 u8v := fun _ => rfl
theorem one_bool : One bbool Value.bool := fun _ => rfl
theorem One.map {α : Type} {f : α → List Value} {c1 : α → Value} (h : One f c1) (l : List α) : l.flatMap f = l.map c1 := by
  induction l with
  | nil => rfl
  | cons x l ih => rw [List.flatMap_cons, h, ih]; rfl
section
variable {α : Type} {f : α → List Value} {c1 : α → Value}
/-- The block of an own slice that is not empty. -/
theorem OwnOf.lies {e : TypeId} {w : World} {B n c : Nat} {a : Option Addr} {l : List α} (h : OwnOf f 1 e w B (.slice a n c) l) (hn : 0 < n) : ∃ g, a = some ⟨g, 0, none⟩ ∧ B ≤ g ∧ g < w.heap.size := by
  obtain ⟨h1, h2⟩ := h
  rcases h2 with ⟨h2, h3⟩ | ⟨g, cap, cur, h2, h3, h4, _⟩
  · simp only [Value.slice.injEq] at h2; omega
  · simp only [Value.slice.injEq] at h2
    exact ⟨g, h2.1, h3, (Array.getElem?_eq_some_iff.1 h4).1⟩
theorem OwnOf.blk (hf : One f c1) {e : TypeId} {w : World} {B g n c : Nat} {l : List α} (h : OwnOf f 1 e w B (.slice (some ⟨g, 0, none⟩) n c) l) :
    ∃ cs, Blk e w g cs ∧ cs.length = c ∧ n ≤ c ∧ B ≤ g ∧ cs.take n = l.map c1 ∧ n = l.length ∧ c ≤ maxLen := by
  obtain ⟨h1, h2⟩ := h
  rcases h2 with ⟨h2, h3⟩ | ⟨g', cap, cur, h2, h3, h4, h5, h6, h7, h8⟩
  · simp only [Value.slice.injEq] at h2; cases h2.1
  · simp only [Value.slice.injEq, Option.some.injEq, Addr.mk.injEq, and_true] at h2
    obtain ⟨rfl, rfl, rfl⟩ := h2
    refine ⟨cur.toList, ?_, by rw [Array.length_toList, h7]; omega, h5, h3, ?_, rfl, h6⟩
    · unfold Blk; simpa using h4
    · rw [← hf.map, ← h8, Nat.mul_one]
theorem OwnOf.ofBlk (hf : One f c1) {e : TypeId} {w : World} {B g n c : Nat} {l : List α} {cs : List Value} (h : Blk e w g cs) (hc : cs.length = c) (hn : n ≤ c) (hB : B ≤ g) (ht : cs.take n = l.map c1) (hl : n = l.length) (hm : c ≤ maxLen) :
    OwnOf f 1 e w B (.slice (some ⟨g, 0, none⟩) n c) l := by
  subst hl
  refine ⟨by rw [hf.map, List.length_map, Nat.mul_one], .inr ⟨g, c, cs.toArray, rfl, hB, h, hn, hm, by simpa using hc, ?_⟩⟩
  rw [hf.map, Nat.mul_one]; exact ht
theorem OwnOf.cellAt (hf : One f c1) {e : TypeId} {w : World} {B g n c : Nat} {l : List α} (h : OwnOf f 1 e w B (.slice (some ⟨g, 0, none⟩) n c) l) (k : Nat) (x : α) (hx : l[k]? = some x) : w.cell? ⟨g, k, none⟩ = some (c1 x) := by
  obtain ⟨cs, hb, hl, hnc, _, ht, hn, _⟩ := h.blk hf
  have hk := (List.getElem?_eq_some_iff.1 hx).1
  rw [hb.cell]
  have : (cs.take n)[k]? = (l.map c1)[k]? := by rw [ht]
  rw [List.getElem?_take, if_pos (by omega), List.getElem?_map, hx] at this
  exact this
/-- A store into it. -/
theorem OwnOf.put (hf : One f c1) {e : TypeId} {w : World} {B g n c : Nat} {l : List α} (h : OwnOf f 1 e w B (.slice (some ⟨g, 0, none⟩) n c) l) (k : Nat) (x : α) :
    OwnOf f 1 e (w.setCell ⟨g, k, none⟩ (c1 x)) B (.slice (some ⟨g, 0, none⟩) n c) (l.set k x) := by
  obtain ⟨cs, hb, hl, hnc, hB, ht, hn, hm⟩ := h.blk hf
  exact OwnOf.ofBlk hf (hb.set k (c1 x)) (by simpa using hl) hnc hB (by rw [List.take_set, ht, List.map_set]) (by simpa using hn) hm
/-- A store into another block. -/
theorem OwnOf.apart (hf : One f c1) {e : TypeId} {w : World} {B g n c : Nat} {l : List α} (h : OwnOf f 1 e w B (.slice (some ⟨g, 0, none⟩) n c) l) (p : Addr) (hp : p.block ≠ g) (u : Value) :
    OwnOf f 1 e (w.setCell p u) B (.slice (some ⟨g, 0, none⟩) n c) l := by
  obtain ⟨cs, hb, hl, hnc, hB, ht, hn, hm⟩ := h.blk hf
  exact OwnOf.ofBlk hf (hb.other p hp u) hl hnc hB ht hn hm
/-- What a store asks. -/
theorem OwnOf.has (hf : One f c1) {e : TypeId} {w : World} {B g n c : Nat} {l : List α} (h : OwnOf f 1 e w B (.slice (some ⟨g, 0, none⟩) n c) l) (k : Nat) (hk : k < n) : (∃ u, w.cell? ⟨g, k, none⟩ = some u) ∧ w.frozen? ⟨g, k, none⟩ = false := by
  obtain ⟨cs, hb, hl, hnc, _⟩ := h.blk hf
  exact ⟨hb.has k (by omega), hb.free k⟩
end
/-- The results: a block of its own and a slot. -/
theorem results_blk_tmp {P : Program} {fn : Func} {p u : Tmp} {ty : TypeId} (h : fn.results = #[.cell p ty, .tmp u]) (tmps : Array Value) (w : World) (g : Nat) {n : Nat} (hty : Agg P ty n) {e : TypeId} {cs : List Value} (hb : Blk e w g cs) (hn : cs.length = n)
    (hp : tmps.getD p undef = .pointer (some ⟨g, 0, none⟩)) {x : Value} (hx : tmps.getD u undef = x) : (results fn tmps).run P w = .ok (.tuple #[.agg cs.toArray, x]) w := by
  obtain ⟨d, h1, h2, h3⟩ := hty
  rw [results_cell_tmp h, hp]
  simp only [asAddr, Sem.run_pure, Result.andThen_ok]
  rw [run_loadVar_row (P := P) w g e ty cs.toArray (0, 0) d hb h1 (by cases d <;> simp_all) (by rw [h3]; simp [hn]), hx]
  rfl
/-- The results: two blocks of their own; four. -/
theorem results_blk2 {P : Program} {fn : Func} {p1 p2 : Tmp} {t1 t2 : TypeId} (h : fn.results = #[.cell p1 t1, .cell p2 t2]) (tmps : Array Value) (w : World) {g1 g2 n1 n2 : Nat} (hty1 : Agg P t1 n1) (hty2 : Agg P t2 n2) {e1 e2 : TypeId} {c1 c2 : List Value}
    (hb1 : Blk e1 w g1 c1) (hb2 : Blk e2 w g2 c2) (hn1 : c1.length = n1) (hn2 : c2.length = n2) (hp1 : tmps.getD p1 undef = .pointer (some ⟨g1, 0, none⟩)) (hp2 : tmps.getD p2 undef = .pointer (some ⟨g2, 0, none⟩)) :
    (results fn tmps).run P w = .ok (.tuple #[.agg c1.toArray, .agg c2.toArray]) w := by
  obtain ⟨d1, a1, a2, a3⟩ := hty1
  obtain ⟨d2, b1, b2, b3⟩ := hty2
  have r1 := run_loadVar_row (P := P) w g1 e1 t1 c1.toArray (0, 0) d1 hb1 a1 (by cases d1 <;> simp_all) (by rw [a3]; simp [hn1])
  have r2 := run_loadVar_row (P := P) w g2 e2 t2 c2.toArray (0, 0) d2 hb2 b1 (by cases d2 <;> simp_all) (by rw [b3]; simp [hn2])
  rw [Array.getD_eq_getD_getElem?] at hp1 hp2
  simp only [results, h]
  simp [Sem.run_bind, Result.andThen, hp1, hp2, asAddr, r1, r2]
/-- A row that turns from its end on into another. -/
def turned {α : Type} (A B : List α) (q : Nat) : List α := A.take q ++ B.drop q
theorem turned_len {α : Type} {A B : List α} (h : A.length = B.length) (q : Nat) : (turned A B q).length = A.length := by unfold turned; simp; omega
theorem turned_all {α : Type} {A B : List α} (h : A.length = B.length) (q : Nat) (hq : A.length ≤ q) : turned A B q = A := by
  unfold turned; rw [List.take_of_length_le hq, List.drop_of_length_le (by omega)]; simp
theorem turned_zero {α : Type} (A B : List α) : turned A B 0 = B := by simp [turned]
theorem turned_at {α : Type} {A B : List α} (q k : Nat) (hk : k < q) (hq : q ≤ A.length) : (turned A B q)[k]? = A[k]? := by
  unfold turned; rw [List.getElem?_append_left (by simp; omega), List.getElem?_take, if_pos hk]
theorem turned_set {α : Type} {A B : List α} (h : A.length = B.length) (q : Nat) (hq : q < A.length) (x : α) (hx : B[q]? = some x) : (turned A B (q + 1)).set q x = turned A B q := by
  unfold turned
  apply List.ext_getElem?
  intro i
  rw [List.getElem?_set]
  have hlen : (List.take (q + 1) A ++ List.drop (q + 1) B).length = A.length := by simp; omega
  by_cases hi : q = i
  · subst hi
    rw [if_pos rfl, if_pos (by omega), List.getElem?_append_right (by simp; omega), List.getElem?_drop]
    simp only [List.length_take]
    rw [show q + (q - min q A.length) = q from by omega, hx]
  · rw [if_neg hi]
    rcases Nat.lt_or_ge i q with h1 | h1
    · rw [List.getElem?_append_left (by simp; omega), List.getElem?_append_left (by simp; omega), List.getElem?_take, List.getElem?_take, if_pos (by omega), if_pos h1]
    · rw [List.getElem?_append_right (by simp; omega), List.getElem?_append_right (by simp; omega), List.getElem?_drop, List.getElem?_drop]
      simp only [List.length_take]
      congr 1; omega
end Go.Proofs.Ytljbbpcnoajfeaa
/- (App) append onto a slice of the call's own, with the place of what comes of it: lemmas of my own with no program in sight. -/
namespace Go.Proofs.Ytljbbpcnoajfeaa
open Go.RowKit
theorem OwnOf.grown {α : Type} {f : α → List Value} {size : Nat} {e : TypeId} {w w' : World} {B : Nat} {v : Value} {l : List α} {row : Option Nat} (h : OwnOf f size e w B v l) (hg : w.grownBy w' row) (hne : ∀ k, row = some k → v.ownBlock ≠ some k) : OwnOf f size e w' B v l := by
  refine World.ownsRow.kept h hg ?_
  cases hv : v.ownBlock with
  | none => exact .inl rfl
  | some k =>
    right
    intro e'
    cases hr : row with
    | none => rw [hr] at e'; simp at e'
    | some q => exact hne q hr (hv.trans (e'.trans hr))
theorem OwnOf.lower {α : Type} {f : α → List Value} {size : Nat} {e : TypeId} {w : World} {B B' : Nat} {v : Value} {l : List α} (h : OwnOf f size e w B v l) (hB : B' ≤ B) : OwnOf f size e w B' v l := by
  refine ⟨h.1, ?_⟩
  rcases h.2 with h2 | ⟨g, cap, cur, h2, h3, h4⟩
  · exact .inl h2
  · exact .inr ⟨g, cap, cur, h2, Nat.le_trans hB h3, h4⟩
/-- 'append(own, src...)': as wpList_app, and where the new slice lies. -/
theorem wpList_appA {α : Type} {f : α → List Value} {P : Program} {w : World} {ops : Array Oper} {rest : List Oper} {o : Oper} {a : Act} {Q : Exit → Act → World → Prop} (hgd : o.guard = none) (s x : Operand) (t : TypeId)
    (ho : o.op = .call { callee := .builtin .append, args := #[s, x], argTypes := #[t, t] })
    {e : TypeId} {z : Value} {size bytes : Nat} (el : El P t e z size bytes f) {B : Nat}
    {v : Value} {l m : List α} (hs : a.eval s = v) (hown : OwnOf f size e w B v l)
    {u : Value} (hx : a.eval x = u) (hrow : RowOf f size w u m) (hB : B ≤ w.heap.size)
    (hbytes : (l.length + m.length) * bytes ≤ 140737488355328) (h63 : l.length + m.length ≤ maxLen)
    (h : ∀ v' w', OwnOf f size e w' B v' (l ++ m) → w.grownBy w' v.ownBlock → (∀ k, v'.ownBlock = some k → v.ownBlock = some k ∨ w.heap.size ≤ k) → wpList P ops Q rest (a.put o.dst v') w') : wpList P ops Q (o :: rest) a w := by
  obtain ⟨i, hi, hz, hsi, hby⟩ := el.info
  obtain ⟨h0, ad, c, rfl, _, _, h3⟩ := hrow
  rcases h3 with ⟨rfl, hm, rfl⟩ | ⟨b, off, sp, rfl, hsp, h3⟩
  · obtain rfl : m = [] := List.eq_nil_of_length_eq_zero hm
    refine wpList_append_own_none hgd s x t ho B e i size el.ht hi v _ _ hs hown hx ?_
    exact h v w (by simpa using hown) ⟨rfl, rfl, rfl, Nat.le_refl _, fun _ _ _ => rfl⟩ (fun k hk => .inl hk)
  · refine wpList_append_own_at w hgd s x t ho B e i z size bytes el.ht hi hz hsi hby el.hzs el.hsz v _ _ hs hown ⟨b, off, sp⟩ _ c _ hx h0 (fun j y hy => ?_) (el.one m) h63 hbytes hB
      (fun v' w' k1 k2 _ k4 => h v' w' (by unfold OwnOf; rw [List.length_append, List.flatMap_append]; exact k1) k2 (fun k hk => by
        rcases k4 with k4 | k4
        · exact .inl (k4 ▸ hk)
        · rw [k4] at hk; cases hk; exact .inr (Nat.le_refl _)))
    by_cases hm : m.length = 0
    · obtain rfl : m = [] := List.eq_nil_of_length_eq_zero hm
      simp at hy
    · obtain rfl : sp = none := hsp.resolve_right hm
      have hadd : (⟨b, off, none⟩ : Addr).add j = ⟨b, off + j, none⟩ := by unfold Addr.add; split <;> simp_all
      rw [hadd]; exact h3 j y hy
/-- What the tables say of a slice type 't' of elements 'e': as El, of elements whose cells may be anything. -/
structure El0 {α : Type} (P : Program) (t e : TypeId) (z : Value) (size bytes : Nat) (f : α → List Value) : Prop where
  ht : P.underlying t = some (.slice e)
  hi : (P.info? e).map (fun i => (i.zero, i.size, i.bytes)) = some (some z, size, bytes)
  hzs : z.cells.size = size
  hsz : 0 < size
  hf : ∀ x, (f x).length = size
theorem El0.info {α : Type} {P : Program} {t e : TypeId} {z : Value} {size bytes : Nat} {f : α → List Value} (h : El0 P t e z size bytes f) : ∃ i, P.info? e = some i ∧ i.zero = some z ∧ i.size = size ∧ i.bytes = bytes := by
  have := h.hi
  cases hh : P.info? e with
  | none => simp [hh] at this
  | some i => simp [hh] at this; exact ⟨i, rfl, this⟩
theorem El.to0 {α : Type} {P : Program} {t e : TypeId} {z : Value} {size bytes : Nat} {f : α → List Value} (h : El P t e z size bytes f) : El0 P t e z size bytes f := ⟨h.ht, h.hi, h.hzs, h.hsz, h.hf⟩
/-- 'append(own, src...)' of such elements. -/
theorem wpList_appB {α : Type} {f : α → List Value} {P : Program} {w : World} {ops : Array Oper} {rest : List Oper} {o : Oper} {a : Act} {Q : Exit → Act → World → Prop} (hgd : o.guard = none) (s x : Operand) (t : TypeId)
    (ho : o.op = .call { callee := .builtin .append, args := #[s, x], argTypes := #[t, t] })
    {e : TypeId} {z : Value} {size bytes : Nat} (el : El0 P t e z size bytes f) {B : Nat}
    {v : Value} {l m : List α} (h1 : ∀ u ∈ m.flatMap f, u.oneCell' = true) (hs : a.eval s = v) (hown : OwnOf f size e w B v l)
    {u : Value} (hx : a.eval x = u) (hrow : RowOf f size w u m) (hB : B ≤ w.heap.size)
    (hbytes : (l.length + m.length) * bytes ≤ 140737488355328) (h63 : l.length + m.length ≤ maxLen)
    (h : ∀ v' w', OwnOf f size e w' B v' (l ++ m) → w.grownBy w' v.ownBlock → (∀ k, v'.ownBlock = some k → v.ownBlock = some k ∨ w.heap.size ≤ k) → wpList P ops Q rest (a.put o.dst v') w') : wpList P ops Q (o :: rest) a w := by
  obtain ⟨i, hi, hz, hsi, hby⟩ := el.info
  obtain ⟨h0, ad, c, rfl, _, _, h3⟩ := hrow
  rcases h3 with ⟨rfl, hm, rfl⟩ | ⟨b, off, sp, rfl, hsp, h3⟩
  · obtain rfl : m = [] := List.eq_nil_of_length_eq_zero hm
    refine wpList_append_own_none hgd s x t ho B e i size el.ht hi v _ _ hs hown hx ?_
    exact h v w (by simpa using hown) ⟨rfl, rfl, rfl, Nat.le_refl _, fun _ _ _ => rfl⟩ (fun k hk => .inl hk)
  · refine wpList_append_own_at w hgd s x t ho B e i z size bytes el.ht hi hz hsi hby el.hzs el.hsz v _ _ hs hown ⟨b, off, sp⟩ _ c _ hx h0 (fun j y hy => ?_) h1 h63 hbytes hB
      (fun v' w' k1 k2 _ k4 => h v' w' (by unfold OwnOf; rw [List.length_append, List.flatMap_append]; exact k1) k2 (fun k hk => by
        rcases k4 with k4 | k4
        · exact .inl (k4 ▸ hk)
        · rw [k4] at hk; cases hk; exact .inr (Nat.le_refl _)))
    by_cases hm : m.length = 0
    · obtain rfl : m = [] := List.eq_nil_of_length_eq_zero hm
      simp at hy
    · obtain rfl : sp = none := hsp.resolve_right hm
      have hadd : (⟨b, off, none⟩ : Addr).add j = ⟨b, off + j, none⟩ := by unfold Addr.add; split <;> simp_all
      rw [hadd]; exact h3 j y hy
/-- '[]T{x, y, ..}': each element an aggregate (or one cell). -/
theorem wpList_buildN {α : Type} {f : α → List Value} {P : Program} {w : World} {ops : Array Oper} {rest : List Oper} {o : Oper} {a : Act} {Q : Exit → Act → World → Prop} (hgd : o.guard = none) (t : TypeId) (n : Nat) (parts : Array (Nat × Operand))
    (ho : o.op = .buildSlice t n parts) {e : TypeId} {z : Value} {size bytes : Nat} (el : El0 P t e z size bytes f) (l : List α) (vs : List Value) (hl : l.length = n) (hv : (parts.map fun (i, x) => (i, a.eval x)).toList = (vs.zipIdx 0).map fun x => (x.2, x.1))
    (hc : vs.map (fun v => v.cells.toList) = l.map f) (hn : 0 < n) (hs : n * size ≤ 16777216)
    (h : wpList P ops Q rest (a.put o.dst (.slice (some ⟨w.heap.size, 0, none⟩) n n)) (w.alloc (.cells (l.flatMap f).toArray e))) : wpList P ops Q (o :: rest) a w := by
  obtain ⟨i, hi, hz, hsi, _⟩ := el.info
  have hp := el.hsz
  have hpos : 0 < n * size := Nat.mul_pos hn hp
  refine wpList_buildSlice hgd t e n parts ho (l.flatMap f).toArray i z el.ht hi hz (by rw [hsi]; omega) (by rw [hsi]; omega) ?_ h
  have hvl : vs.length = n := by
    have := congrArg List.length hc
    simp only [List.length_map] at this
    omega
  have hvs : ∀ u ∈ vs, u.cells.size = size := by
    intro u hu
    have h1 : u.cells.toList ∈ l.map f := by rw [← hc]; exact List.mem_map.2 ⟨u, hu, rfl⟩
    obtain ⟨y, _, hy⟩ := List.mem_map.1 h1
    have := el.hf y
    rw [hy] at this
    simpa using this
  have hf := Great.fill_whole (s := size) hp vs ((Array.range (n * size)).map (z.cells[· % z.cells.size]!)) hvs (by simp [hvl])
  have e1 : vs.flatMap (fun v => v.cells.toList) = l.flatMap f := by
    rw [List.flatMap_def, List.flatMap_def, hc]
  rw [hsi, hv, hf, e1]
theorem Row.built {α : Type} {f : α → List Value} {size : Nat} (hf : ∀ x, (f x).length = size) (w : World) (e : TypeId) (l : List α) (n : Nat) (hl : l.length = n) (hm : n ≤ maxLen) : RowOf f size (w.alloc (.cells (l.flatMap f).toArray e)) (.slice (some ⟨w.heap.size, 0, none⟩) n n) l := by
  subst hl
  exact Row.made w size (l.flatMap f) e l.length (flat_len hf l) hm
/-- '[]T{x}': one element. -/
theorem wpList_build1 {α : Type} {f : α → List Value} {P : Program} {w : World} {ops : Array Oper} {rest : List Oper} {o : Oper} {a : Act} {Q : Exit → Act → World → Prop} (hgd : o.guard = none) (x : Operand) (t : TypeId)
    (ho : o.op = .buildSlice t 1 #[(0, x)]) {e : TypeId} {z : Value} {size bytes : Nat} (el : El P t e z size bytes f) (v : Value) (C : List Value) (hx : a.eval x = v) (hv : v.cells = C.toArray) (hC : C.length = size) (hs : size ≤ 16777216)
    (h : wpList P ops Q rest (a.put o.dst (.slice (some ⟨w.heap.size, 0, none⟩) 1 1)) (w.alloc (.cells C.toArray e))) : wpList P ops Q (o :: rest) a w := by
  obtain ⟨i, hi, hz, hsi, _⟩ := el.info
  have hp := el.hsz
  refine wpList_buildSlice hgd t e 1 #[(0, x)] ho C.toArray i z el.ht hi hz (by rw [hsi]; omega) (by rw [hsi]; omega) ?_ h
  have hf := Great.fill_whole (s := size) hp [v] ((Array.range (1 * size)).map (z.cells[· % z.cells.size]!)) (fun u hu => by rw [List.mem_singleton] at hu; rw [hu, hv]; simpa using hC) (by simp)
  rw [hsi]
  have e1 : ([v].flatMap fun v => v.cells.toList).toArray = C.toArray := by simp [hv]
  rw [e1] at hf
  rw [← hf]
  simp [hx]
/-- Two slices of the call's own that do not lie in one block. -/
def Apart2 (v u : Value) : Prop := ∀ k, v.ownBlock = some k → u.ownBlock ≠ some k
theorem Apart2.symm {v u : Value} (h : Apart2 v u) : Apart2 u v := fun k hk e => h k e hk
theorem Apart2.moved {α : Type} {f : α → List Value} {size : Nat} {e : TypeId} {w : World} {B : Nat} {v v' u : Value} {l : List α} (h : Apart2 v u) (hu : OwnOf f size e w B u l) (hl : ∀ k, v'.ownBlock = some k → v.ownBlock = some k ∨ w.heap.size ≤ k) : Apart2 v' u := by
  intro k hk hk'
  rcases hl k hk with h1 | h1
  · exact h k h1 hk'
  · have := (World.ownsRow.lt hu k hk').2
    omega
theorem Apart2.nil (v : Value) : Apart2 (.slice none 0 0) v := fun k hk => by simp [Value.ownBlock] at hk
theorem RowOf.grownNe {α : Type} {f : α → List Value} {size : Nat} {w w' : World} {b off n c g : Nat} {s : Option Nat} {l : List α} (h : RowOf f size w (.slice (some ⟨b, off, s⟩) n c) l) (hg : w.grownBy w' (some g)) (hne : b ≠ g) : RowOf f size w' (.slice (some ⟨b, off, s⟩) n c) l := by
  obtain ⟨h0, a, c', hv, h1, h2, h3⟩ := h
  simp only [Value.slice.injEq] at hv
  obtain ⟨rfl, hn, rfl⟩ := hv
  refine ⟨h0, _, _, by rw [hn], h1, h2, ?_⟩
  rcases h3 with ⟨h4, _⟩ | ⟨b', off', s', he, hs, hc⟩
  · simp at h4
  · simp only [Option.some.injEq, Addr.mk.injEq] at he
    obtain ⟨rfl, rfl, rfl⟩ := he
    refine .inr ⟨_, _, _, rfl, hs, fun j u hu => ?_⟩
    have hcc := hc j u hu
    have hlt := World.block_lt_of_cell? w _ hcc
    rw [← hcc]
    exact World.cell?_of_block (w := w) (hg.block b hlt (by simpa using hne))
/-- A text is no part of a block that holds no bytes. -/
theorem Bytes.off {w w' : World} {a : Option Addr} {n c g : Nat} {l : List UInt8} {e : TypeId} {cs : List Value} (h : Bytes w (.slice a n c) l) (hz : Blk e w g cs) (hno : ∀ u ∈ cs, ∀ k, u ≠ .int .u8 k) (hg : w.grownBy w' (some g)) : Bytes w' (.slice a n c) l := by
  cases a with
  | none =>
    obtain ⟨h0, a, c', hv, h1, h2, h3⟩ := h
    simp only [Value.slice.injEq] at hv
    obtain ⟨rfl, hn, rfl⟩ := hv
    refine ⟨h0, none, _, by rw [hn], h1, h2, .inl ?_⟩
    rcases h3 with h3 | ⟨_, _, _, he, _⟩
    · exact h3
    · simp at he
  | some p =>
    obtain ⟨b, off, s⟩ := p
    by_cases hb : b = g
    · subst hb
      by_cases hl : l = []
      · subst hl
        obtain ⟨h0, a, c', hv, h1, h2, h3⟩ := h
        simp only [Value.slice.injEq] at hv
        obtain ⟨rfl, hn, rfl⟩ := hv
        refine ⟨h0, _, _, by rw [hn], h1, h2, ?_⟩
        rcases h3 with ⟨h4, _⟩ | ⟨b', off', s', he, hs, hc⟩
        · simp at h4
        · exact .inr ⟨b', off', s', he, hs, fun j u hu => by simp at hu⟩
      · exfalso
        have hpos : 0 < l.length := by cases l with
          | nil => exact absurd rfl hl
          | cons x l => simp
        obtain ⟨b', off', he, hc⟩ := Bytes.at h 0 hpos
        simp only [Option.some.injEq, Addr.mk.injEq] at he
        obtain ⟨rfl, rfl, _⟩ := he
        rw [hz.cell] at hc
        exact hno _ (List.mem_of_getElem? hc) _ rfl
    · exact h.grownNe hg hb
theorem Bytes.off_v {w w' : World} {v : Value} {g : Nat} {l : List UInt8} {e : TypeId} {cs : List Value} (h : Bytes w v l) (hz : Blk e w g cs) (hno : ∀ u ∈ cs, ∀ k, u ≠ .int .u8 k) (hg : w.grownBy w' (some g)) : Bytes w' v l := by
  obtain ⟨a, c, rfl, _, _⟩ := RowOf.form h
  exact Bytes.off h hz hno hg
theorem grown_cell {w : World} {g : Nat} (k : Nat) (x : Value) : w.grownBy (w.setCell ⟨g, k, none⟩ x) (some g) :=
  ⟨rfl, rfl, rfl, by simp, fun i hi hne => heap_setCell_other w _ i _ (by simpa using hne)⟩
/-- '[]T{x, y, ..}', the new world under a name of its own. -/
theorem wpList_buildW {α : Type} {f : α → List Value} {P : Program} {w : World} {ops : Array Oper} {rest : List Oper} {o : Oper} {a : Act} {Q : Exit → Act → World → Prop} (hgd : o.guard = none) (t : TypeId) (n : Nat) (ps : List (Nat × Operand))
    (ho : o.op = .buildSlice t n ps.toArray) {e : TypeId} {z : Value} {size bytes : Nat} (el : El0 P t e z size bytes f) (l : List α) (vs : List Value) (hl : l.length = n) (hv : (ps.map fun x => (x.1, a.eval x.2)) = (vs.zipIdx 0).map fun x => (x.2, x.1))
    (hc : vs.map (fun v => v.cells.toList) = l.map f) (hn : 0 < n) (hs : n * size ≤ 16777216)
    (h : ∀ w', Blk e w' w.heap.size (l.flatMap f) → RowOf f size w' (.slice (some ⟨w.heap.size, 0, none⟩) n n) l → Below w.heap.size w w' → wpList P ops Q rest (a.put o.dst (.slice (some ⟨w.heap.size, 0, none⟩) n n)) w') : wpList P ops Q (o :: rest) a w := by
  have hp := el.hsz
  have hm : n ≤ maxLen := by
    have : n * 1 ≤ n * size := Nat.mul_le_mul_left _ hp
    unfold maxLen; omega
  exact wpList_buildN hgd t n ps.toArray ho el l vs hl (by rw [← hv]; simp) hc hn hs (h _ (Blk.new w e _) (Row.built el.hf w e l n hl hm) ((Below.refl _ _).alloc (Nat.le_refl _) _))
end Go.Proofs.Ytljbbpcnoajfeaa
/- (AppT) In regions that draw their order: a whole array out of the middle of a block; '!='. Lemmas of my own with no program in sight. -/
namespace Go.Proofs.Ytljbbpcnoajfeaa
open Go.RowKit
theorem const_loadm {P : Program} {o : Oper} {a : Act} {w : World} (ty : TypeId) (x : Operand) (ho : o.op = .load ty x) (b off : Nat) (hx : a.eval x = .pointer (some ⟨b, off, none⟩)) {n : Nat} (hty : Agg P ty n) {cs : List Value} (hn : cs.length = n) (hc : w.rangeAt b off cs) :
    constAt P o a w (.agg cs.toArray) := by
  obtain ⟨d, h1, h2, h3⟩ := hty
  unfold constAt execOp
  simp only [ho, hx, Instr.loadAt, Instr.sureAddr, Sem.run_bind, Sem.run_pure, Result.andThen_ok, run_loadVar_mid (P := P) w b off ty cs d hc h1 (by cases d <;> simp_all) (by rw [h3, hn])]
  exact ⟨rfl, rfl⟩
theorem const_neq {P : Program} {o : Oper} {a : Act} {w : World} {v v' u : Value} (ty : TypeId) (x y : Operand) (t : TypeId) (ho : o.op = .binOp .neq ty x y t) (hx : a.eval x = v) (hy : a.eval y = v')
    (hg : ∀ o1 o2 w1, (eqGuard .neq ty o1 o2 v v').run P w1 = .ok () w1) (hq : ∀ w1, (binOp .neq ty v v').run P w1 = .ok u w1) : constAt P o a w u := by
  unfold constAt execOp
  simp only [ho, hx, hy, Sem.run_bind, hg, hq, Result.andThen_ok, Sem.run_pure]
  exact ⟨rfl, rfl⟩
/-- An element's cells, as a range. -/
theorem RowOf.range {α : Type} {f : α → List Value} {size : Nat} (hf : ∀ x, (f x).length = size) {w : World} {a : Option Addr} {n c : Nat} {l : List α} (h : RowOf f size w (.slice a n c) l) (k : Nat) (hk : k < l.length) :
    ∃ b off, a = some ⟨b, off, none⟩ ∧ w.rangeAt b (off + k * size) (f l[k]) := by
  obtain ⟨b, off, ha, hc⟩ := h.cells hf k hk
  exact ⟨b, off, ha, fun j v hv => by rw [Nat.add_assoc]; exact hc j v hv⟩
theorem World.rangeAt.below {w w' : World} {b o : Nat} {cs : List Value} (h : w.rangeAt b o cs) (hb : Below w.heap.size w w') : w'.rangeAt b o cs := fun j v hv => by
  have := h j v hv
  rw [hb.cell (World.block_lt_of_cell? w _ this)]; exact this
theorem rangeAt.ext {w : World} {b o : Nat} {cs : List Value} (h : w.rangeAt b o cs) (u : Ext w) : u.val.rangeAt b o cs := World.rangeAt.below h u.property
/-- A whole array is loaded in a plain region, also behind a guard that holds. -/
theorem wpList_loadW {P : Program} {w : World} {ops : Array Oper} {rest : List Oper} {o : Oper} {a : Act} {Q : Exit → Act → World → Prop} (ty : TypeId) (x : Operand) (ho : o.op = .load ty x) (b off : Nat) (hx : a.eval x = .pointer (some ⟨b, off, none⟩))
    {n : Nat} (hty : Agg P ty n) {cs : List Value} (hn : cs.length = n) (hc : w.rangeAt b off cs) (hw : Region.wanted o (yielded ops a.tmps) = true)
    (h : wpList P ops Q rest (a.put o.dst (.agg cs.toArray)) w) : wpList P ops Q (o :: rest) a w := by
  obtain ⟨d, h1, h2, h3⟩ := hty
  refine wpList_step fun K hK => ?_
  rw [if_pos hw]
  exact wp_load_mid ty x ho b off hx cs d hc h1 (by cases d <;> simp_all) (by rw [h3, hn]) (hK _ _ h)
end Go.Proofs.Ytljbbpcnoajfeaa
/- (Step) append as a step of a region that draws its order, with the place of what comes of it. -/
namespace Go.Proofs.Ytljbbpcnoajfeaa
open Go.RowKit
/-- 'append(own, src...)' as one step. -/
theorem step_appP {α : Type} {f : α → List Value} {P : Program} {w : World} {ops : Array Oper} {o : Oper} {a : Act} {K : Act → World → Prop} {Q : Exit → Act → World → Prop} {E : Prop} (hgd : o.guard = none) (s x : Operand) (t : TypeId)
    (ho : o.op = .call { callee := .builtin .append, args := #[s, x], argTypes := #[t, t] })
    {e : TypeId} {z : Value} {size bytes : Nat} (el : El0 P t e z size bytes f) {B : Nat}
    {v : Value} {l m : List α} (h1 : ∀ u ∈ m.flatMap f, u.oneCell' = true) (hs : a.eval s = v) (hown : OwnOf f size e w B v l)
    {u : Value} (hx : a.eval x = u) (hrow : RowOf f size w u m) (hB : B ≤ w.heap.size)
    (hbytes : (l.length + m.length) * bytes ≤ 140737488355328) (h63 : l.length + m.length ≤ maxLen)
    (h : ∀ v' w', OwnOf f size e w' B v' (l ++ m) → w.grownBy w' v.ownBlock → (∀ k, v'.ownBlock = some k → v.ownBlock = some k ∨ w.heap.size ≤ k) → K (a.put o.dst v') w') : if Region.wanted o (yielded ops a.tmps) then o.wp P a w K Q else E := by
  have hw : Region.wanted o (yielded ops a.tmps) = true := by simp [Region.wanted, hgd]
  rw [if_pos hw]
  obtain ⟨i, hi, hz, hsi, hby⟩ := el.info
  obtain ⟨h0, ad, c, rfl, _, _, h3⟩ := hrow
  rcases h3 with ⟨rfl, hm, rfl⟩ | ⟨b, off, sp, rfl, hsp, h3⟩
  · obtain rfl : m = [] := List.eq_nil_of_length_eq_zero hm
    have hrun := run_append_owned_none (P := P) (w := w) B t o.type e i size el.ht hi v _ _ hown
    have hh := h v w (by simpa using hown) ⟨rfl, rfl, rfl, Nat.le_refl _, fun _ _ _ => rfl⟩ (fun k hk => .inl hk)
    unfold Oper.wp
    simp only [List.length_nil] at hx
    simp [execOp, ho, resolve, invoke, builtin, hs, hx, hrun, Result.andThen]
    exact hh
  · have hnews : ∀ j y, (m.flatMap f)[j]? = some y → w.cell? ((⟨b, off, sp⟩ : Addr).add j) = some y := by
      intro j y hy
      by_cases hm : m.length = 0
      · obtain rfl : m = [] := List.eq_nil_of_length_eq_zero hm
        simp at hy
      · obtain rfl : sp = none := hsp.resolve_right hm
        have hadd : (⟨b, off, none⟩ : Addr).add j = ⟨b, off + j, none⟩ := by unfold Addr.add; split <;> simp_all
        rw [hadd]; exact h3 j y hy
    obtain ⟨v', w', hr, k1, k2, _, k4⟩ := run_append_own_at (P := P) w B t o.type e i z size bytes el.ht hi hz hsi hby el.hzs el.hsz v _ _ hown ⟨b, off, sp⟩ _ c _ h0 hnews h1 h63 hbytes hB
    unfold Oper.wp execOp
    simp only [ho, resolve, invoke, builtin, Sem.run_bind, Sem.run_pure, Result.andThen_ok, List.map_toArray, List.map_cons, List.map_nil, hs, hx, hr]
    exact h v' w' (by unfold OwnOf; rw [List.length_append, List.flatMap_append]; exact k1) k2 (fun k hk => by
      rcases k4 with k4 | k4
      · exact .inl (k4 ▸ hk)
      · rw [k4] at hk; cases hk; exact .inr (Nat.le_refl _))
end Go.Proofs.Ytljbbpcnoajfeaa
/- (Conv) '[]byte(s)' of any string; '+' of strings: lemmas of my own with no program in sight. -/
namespace Go.Proofs.Ytljbbpcnoajfeaa
open Go.RowKit
theorem bytes_of (w : World) (e : TypeId) (l : List UInt8) (hl : l.length ≤ maxLen) :
    Bytes (Lib.bytesWorld w e ⟨l.toArray⟩) (.slice (some ⟨w.heap.size, 0, none⟩) l.length (grownCap w l.length 0 e)) l ∧ Below w.heap.size w (Lib.bytesWorld w e ⟨l.toArray⟩) := by
  refine ⟨⟨flat_len (f := b8) (size := 1) (fun _ => rfl) l, _, _, rfl, grownCap_ge _ _ _ _, grownCap_le_maxLen _ _ _ _ hl, .inr ⟨_, 0, none, rfl, .inl rfl, fun j u hu => ?_⟩⟩, ?_⟩
  · rw [flat_b8, List.getElem?_map] at hu
    obtain ⟨x, hx, rfl⟩ := Option.map_eq_some_iff.1 hu
    have hj := (List.getElem?_eq_some_iff.1 hx).1
    rw [Nat.zero_add, Lib.bytesWorld_cell w e ⟨l.toArray⟩ j (by simpa [ByteArray.size] using hj)]
    simp [u8v, List.getD, hx]
  · refine ⟨?_, ?_, ?_, by rw [Lib.bytesWorld_size]; omega, fun k hk => Lib.bytesWorld_at_old w e _ k hk⟩ <;> rfl
theorem wpList_bytesOf {P : Program} {w : World} {ops : Array Oper} {rest : List Oper} {o : Oper} {a : Act} {Q : Exit → Act → World → Prop} (hgd : o.guard = none) (src dst : TypeId) (x : Operand)
    (ho : o.op = .convert src dst x) {e : TypeId} (hs : P.underlying src = some .string) (hd : P.underlying dst = some (.slice e)) (he : P.underlying e = some (.int .u8)) (l : List UInt8) (hx : a.eval x = str l) (hl : l.length ≤ maxLen)
    (h : ∀ v' w', Bytes w' v' l → Below w.heap.size w w' → wpList P ops Q rest (a.put o.dst v') w') : wpList P ops Q (o :: rest) a w := by
  refine wpList_plain hgd fun K hK => ?_
  have hr := Lib.run_convert_string_bytes (P := P) w src dst e ⟨l.toArray⟩ hs hd he
  have hb := bytes_of w e l hl
  unfold Oper.wp execOp
  unfold str at hx
  simp only [ho, hx, hr, Sem.run_bind, Result.andThen_ok, Sem.run_pure]
  exact hK _ _ (h _ _ hb.1 hb.2)
theorem run_str_add {P : Program} (w : World) (t : TypeId) (l m : List UInt8) (h : l.length + m.length ≤ 9223372036854775807) : (binOp .add t (str l) (str m)).run P w = .ok (str (l ++ m)) w := by
  unfold str
  simp only [binOp]
  rw [run_string_add_sum w _ _ (by simpa [ByteArray.size] using h), ByteArray.mk_append_mk]
end Go.Proofs.Ytljbbpcnoajfeaa
/- (Eq) '==' between arrays of numbers, with no program in sight. -/
namespace Go.Proofs.Ytljbbpcnoajfeaa
open Go.RowKit
section
variable {P : Program} (w : World)
theorem run_part_int {e : TypeId} {k : IntKind} (he : P.underlying e = some (.int k)) (xs : List Int) (i : Nat) (hi : i < xs.length) :
    (part e (xs.map (Value.int k)).toArray i).run P w = .ok (.int k xs[i]) w := by
  have hagg : (isAgg e).run P w = .ok false w := by
    unfold isAgg
    rw [Sem.run_bind, run_underlying he w]
    simp
  unfold part
  rw [Sem.run_bind, hagg]
  simp [hi]
theorem range'_cons (s n : Nat) (h : 0 < n) : List.range' s n = s :: List.range' (s + 1) (n - 1) := by
  cases n with
  | zero => omega
  | succ n => rfl
theorem run_eql_arr (d n : Nat) {t e : TypeId} {k : IntKind} (ht : P.underlying t = some (.array n e)) (he : P.underlying e = some (.int k)) (hs : (P.info? e).map (·.size) = some 1)
    (xs ys : List Int) (hx : xs.length = n) (hy : ys.length = n) :
    (Op.equalIn (d + 2) t (.agg (xs.map (Value.int k)).toArray) (.agg (ys.map (Value.int k)).toArray)).run P w = .ok (xs == ys) w := by
  cases hq : P.info? e with
  | none => simp [hq] at hs
  | some q =>
    have hs1 : q.size = 1 := by simpa [hq] using hs
    have hsz : (sizeOf e).run P w = .ok 1 w := by simp [sizeOf, typeInfo, hq, hs1]
    unfold Op.equalIn
    simp only [Sem.run_bind, run_underlying ht, Result.andThen_ok, hsz]
    simp only [Std.Legacy.Range.forIn_eq_forIn_range', Std.Legacy.Range.size, Nat.sub_zero, Nat.add_sub_cancel, Nat.div_one]
    have key : ∀ m s, s + m = n → (Sem.run P
          (forIn (List.range' s m) ((none, ()) : Option Bool × Unit) fun i __s => do
            let __do_lift ← part e (List.map (Value.int k) xs).toArray (i * 1)
            let __do_lift_1 ← part e (List.map (Value.int k) ys).toArray (i * 1)
            let __do_lift ← Op.equalIn (d + 1) e __do_lift __do_lift_1
            if (!__do_lift) = true then pure (ForInStep.done (some false, ())) else pure (ForInStep.yield (none, ())))
          w) = .ok (if xs.drop s = ys.drop s then (none, ()) else (some false, ())) w := by
      intro m
      induction m with
      | zero =>
        intro s hsn
        have e1 : xs.drop s = [] := List.drop_eq_nil_of_le (by omega)
        have e2 : ys.drop s = [] := List.drop_eq_nil_of_le (by omega)
        simp [e1, e2]
      | succ m ih =>
        intro s hsn
        have h1 : s < xs.length := by omega
        have h2 : s < ys.length := by omega
        rw [List.range'_succ]
        simp only [List.forIn_cons, Sem.run_bind, Nat.mul_one, run_part_int w he xs s h1, run_part_int w he ys s h2, Result.andThen_ok, run_equalIn_int (P := P) w d e k k _ _ he]
        have hd : (xs.drop s = ys.drop s) = (xs[s] = ys[s] ∧ xs.drop (s + 1) = ys.drop (s + 1)) := by
          rw [List.drop_eq_getElem_cons h1, List.drop_eq_getElem_cons h2, List.cons.injEq]
        simp only [hd]
        by_cases hxy : xs[s] = ys[s]
        · simp only [hxy, beq_self_eq_true, Bool.not_true, Bool.false_eq_true, if_false, Sem.run_pure, Result.andThen_ok]
          have := ih (s + 1) (by omega)
          simp only [Nat.mul_one, Sem.run_bind] at this
          rw [this]
          simp only [true_and]
        · have hb : (xs[s] == ys[s]) = false := by simpa using hxy
          simp only [hb, Bool.not_false, if_true, Sem.run_pure, Result.andThen_ok, hxy, false_and]
          rfl
    rw [key n 0 (by omega)]
    simp only [List.drop_zero, Result.andThen_ok]
    by_cases hxy : xs = ys
    · simp [hxy]
    · have : (xs == ys) = false := by simpa using hxy
      simp [hxy]
/-- '==' of two arrays of numbers -/
theorem run_eqA {n : Nat} {t e : TypeId} {k : IntKind} (ht : P.underlying t = some (.array n e)) (he : P.underlying e = some (.int k)) (hs : (P.info? e).map (·.size) = some 1)
    (xs ys : List Int) (hx : xs.length = n) (hy : ys.length = n) : (binOp .eql t (.agg (xs.map (Value.int k)).toArray) (.agg (ys.map (Value.int k)).toArray)).run P w = .ok (.bool (xs == ys)) w := by
  rw [run_eql_struct, run_eql_arr w 9998 n ht he hs xs ys hx hy]
  rfl
theorem run_neA {n : Nat} {t e : TypeId} {k : IntKind} (ht : P.underlying t = some (.array n e)) (he : P.underlying e = some (.int k)) (hs : (P.info? e).map (·.size) = some 1)
    (xs ys : List Int) (hx : xs.length = n) (hy : ys.length = n) : (binOp .neq t (.agg (xs.map (Value.int k)).toArray) (.agg (ys.map (Value.int k)).toArray)).run P w = .ok (.bool (!(xs == ys))) w := by
  rw [run_neq_struct, run_eql_arr w 9998 n ht he hs xs ys hx hy]
  rfl
end
end Go.Proofs.Ytljbbpcnoajfeaa
/- (Arr) Arrays by value, and ranges of cells: lemmas of my own with no program in sight. -/
namespace Go.Proofs.Ytljbbpcnoajfeaa
open Go.RowKit
theorem run_index_agg {P : Program} {t e : TypeId} {n : Nat} (ht : P.underlying t = some (.array n e)) (hs : (P.info? e).map (·.size) = some 1) (cs : Array Value) (k : Nat) (hk : k < n) (w : World) {v : Value} (ik : IntKind)
    (hp : (part e cs k).run P w = .ok v w) : (Instr.index t (.agg cs) (.int ik (k : Int))).run P w = .ok v w := by
  cases hq : P.info? e with
  | none => simp [hq] at hs
  | some q =>
    have hs1 : q.size = 1 := by simpa [hq] using hs
    have hsz : (sizeOf e).run P w = .ok 1 w := by simp [sizeOf, typeInfo, hq, hs1]
    unfold Instr.index
    simp only [asIntOf, Sem.run_bind, Sem.run_pure, run_underlying ht, Result.andThen_ok]
    rw [if_pos (by omega)]
    simp only [Sem.run_bind, hsz, Result.andThen_ok]
    simpa using hp
theorem run_arrayAt {P : Program} {t e : TypeId} {n : Nat} (ht : P.underlying t = some (.array n e)) (a : Option Addr) (len c : Nat) (h : n ≤ len) (w : World) : (Instr.arrayAt t (.slice a len c)).run P w = .ok (.pointer a) w := by
  unfold Instr.arrayAt
  simp only [Sem.run_bind, run_underlying ht, Result.andThen_ok]
  rw [if_neg (by omega)]
  rfl
theorem Blk.range {e : TypeId} {w : World} {g : Nat} {cs : List Value} (h : Blk e w g cs) (o n : Nat) : w.rangeAt g o ((cs.drop o).take n) := fun j v hv => by
  rw [h.cell]
  rw [List.getElem?_take] at hv
  split at hv
  · rwa [List.getElem?_drop] at hv
  · simp at hv
theorem Blk.all0 {e : TypeId} {w : World} {g : Nat} {cs : List Value} (h : Blk e w g cs) : w.rangeAt g 0 cs := fun j v hv => by rw [Nat.zero_add, h.cell]; exact hv
theorem Bytes.whole {w : World} {b off n c : Nat} {l : List UInt8} (h : Bytes w (.slice (some ⟨b, off, none⟩) n c) l) : w.rangeAt b off (l.map u8v) := by
  obtain ⟨_, _, _, hv, _, _, h3⟩ := h
  simp only [Value.slice.injEq] at hv
  obtain ⟨rfl, _, _⟩ := hv
  rcases h3 with ⟨h0, _⟩ | ⟨b', off', s, he, _, hc⟩
  · simp at h0
  · simp only [Option.some.injEq, Addr.mk.injEq] at he
    obtain ⟨rfl, rfl, _⟩ := he
    intro j u hu
    exact hc j u (by rw [flat_b8]; exact hu)
end Go.Proofs.Ytljbbpcnoajfeaa
