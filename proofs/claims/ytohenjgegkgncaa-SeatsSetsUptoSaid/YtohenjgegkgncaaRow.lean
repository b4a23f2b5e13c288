/- Own slices of one-cell elements that are written into: what lies in their block. No program in sight. -/
import Derived.Test.YtohenjgegkgncaaHeld
set_option linter.unusedSimpArgs false
set_option linter.unusedVariables false
namespace Go.Proofs.Ytohenjgegkgncaa
open Go.RowKit
/-- Elements of one cell. -/
def One {α : Type} (f : α → List Value) (c1 : α → Value) : Prop := ∀ x, f x = [c1 x]
theorem one_u8 : One b8 u8v := fun _ => rfl
theorem one_bool : One bbool Value.bool := fun _ => rfl
theorem One.map {α : Type} {f : α → List Value} {c1 : α → Value} (h : One f c1) (l : List α) : l.flatMap f = l.map c1 := by
  induction l with
  | nil => rfl
  | cons x l ih => rw [List.flatMap_cons, h, ih]; rfl
section
variable {α : Type} {f : α → List Value} {c1 : α → Value}
/-- The block of an own slice that is not empty. -/
theorem OwnOf.lies {e : TypeId} {w : World} {B n c : Nat} {a : Option Addr} {l : List α} (h : OwnOf f 1 e w B (.slice a n c) l) (hn : 0 < n) : ∃ g, a = some ⟨g, 0, none⟩ ∧ B ≤ g ∧ g < w.heap.size := by
  obtain ⟨h1, h2⟩ := h
  rcases h2 with ⟨h2, h3⟩ | ⟨g, cap, cur, h2, h3, h4, _⟩
  · simp only [Value.slice.injEq] at h2; omega
  · simp only [Value.slice.injEq] at h2
    exact ⟨g, h2.1, h3, (Array.getElem?_eq_some_iff.1 h4).1⟩
theorem OwnOf.blk (hf : One f c1) {e : TypeId} {w : World} {B g n c : Nat} {l : List α} (h : OwnOf f 1 e w B (.slice (some ⟨g, 0, none⟩) n c) l) :
    ∃ cs, Blk e w g cs ∧ cs.length = c ∧ n ≤ c ∧ B ≤ g ∧ cs.take n = l.map c1 ∧ n = l.length ∧ c ≤ maxLen := by
  obtain ⟨h1, h2⟩ := h
  rcases h2 with ⟨h2, h3⟩ | ⟨g', cap, cur, h2, h3, h4, h5, h6, h7, h8⟩
  · simp only [Value.slice.injEq] at h2; cases h2.1
  · simp only [Value.slice.injEq, Option.some.injEq, Addr.mk.injEq, and_true] at h2
    obtain ⟨rfl, rfl, rfl⟩ := h2
    refine ⟨cur.toList, ?_, by rw [Array.length_toList, h7]; omega, h5, h3, ?_, rfl, h6⟩
    · unfold Blk; simpa using h4
    · rw [← hf.map, ← h8, Nat.mul_one]
theorem OwnOf.ofBlk (hf : One f c1) {e : TypeId} {w : World} {B g n c : Nat} {l : List α} {cs : List Value} (h : Blk e w g cs) (hc : cs.length = c) (hn : n ≤ c) (hB : B ≤ g) (ht : cs.take n = l.map c1) (hl : n = l.length) (hm : c ≤ maxLen) :
    OwnOf f 1 e w B (.slice (some ⟨g, 0, none⟩) n c) l := by
  subst hl
  refine ⟨by rw [hf.map, List.length_map, Nat.mul_one], .inr ⟨g, c, cs.toArray, rfl, hB, h, hn, hm, by simpa using hc, ?_⟩⟩
  rw [hf.map, Nat.mul_one]; exact ht
theorem OwnOf.cellAt (hf : One f c1) {e : TypeId} {w : World} {B g n c : Nat} {l : List α} (h : OwnOf f 1 e w B (.slice (some ⟨g, 0, none⟩) n c) l) (k : Nat) (x : α) (hx : l[k]? = some x) : w.cell? ⟨g, k, none⟩ = some (c1 x) := by
  obtain ⟨cs, hb, hl, hnc, _, ht, hn, _⟩ := h.blk hf
  have hk := (List.getElem?_eq_some_iff.1 hx).1
  rw [hb.cell]
  have : (cs.take n)[k]? = (l.map c1)[k]? := by rw [ht]
  rw [List.getElem?_take, if_pos (by omega), List.getElem?_map, hx] at this
  exact this
/-- A store into it. -/
theorem OwnOf.put (hf : One f c1) {e : TypeId} {w : World} {B g n c : Nat} {l : List α} (h : OwnOf f 1 e w B (.slice (some ⟨g, 0, none⟩) n c) l) (k : Nat) (x : α) :
    OwnOf f 1 e (w.setCell ⟨g, k, none⟩ (c1 x)) B (.slice (some ⟨g, 0, none⟩) n c) (l.set k x) := by
  obtain ⟨cs, hb, hl, hnc, hB, ht, hn, hm⟩ := h.blk hf
  exact OwnOf.ofBlk hf (hb.set k (c1 x)) (by simpa using hl) hnc hB (by rw [List.take_set, ht, List.map_set]) (by simpa using hn) hm
/-- A store into another block. -/
theorem OwnOf.apart (hf : One f c1) {e : TypeId} {w : World} {B g n c : Nat} {l : List α} (h : OwnOf f 1 e w B (.slice (some ⟨g, 0, none⟩) n c) l) (p : Addr) (hp : p.block ≠ g) (u : Value) :
    OwnOf f 1 e (w.setCell p u) B (.slice (some ⟨g, 0, none⟩) n c) l := by
  obtain ⟨cs, hb, hl, hnc, hB, ht, hn, hm⟩ := h.blk hf
  exact OwnOf.ofBlk hf (hb.other p hp u) hl hnc hB ht hn hm
/-- What a store asks. -/
theorem OwnOf.has (hf : One f c1) {e : TypeId} {w : World} {B g n c : Nat} {l : List α} (h : OwnOf f 1 e w B (.slice (some ⟨g, 0, none⟩) n c) l) (k : Nat) (hk : k < n) : (∃ u, w.cell? ⟨g, k, none⟩ = some u) ∧ w.frozen? ⟨g, k, none⟩ = false := by
  obtain ⟨cs, hb, hl, hnc, _⟩ := h.blk hf
  exact ⟨hb.has k (by omega), hb.free k⟩
end
/-- The results: a block of its own and a slot. -/
theorem results_blk_tmp {P : Program} {fn : Func} {p u : Tmp} {ty : TypeId} (h : fn.results = #[.cell p ty, .tmp u]) (tmps : Array Value) (w : World) (g : Nat) {n : Nat} (hty : Agg P ty n) {e : TypeId} {cs : List Value} (hb : Blk e w g cs) (hn : cs.length = n)
    (hp : tmps.getD p undef = .pointer (some ⟨g, 0, none⟩)) {x : Value} (hx : tmps.getD u undef = x) : (results fn tmps).run P w = .ok (.tuple #[.agg cs.toArray, x]) w := by
  obtain ⟨d, h1, h2, h3⟩ := hty
  rw [results_cell_tmp h, hp]
  simp only [asAddr, Sem.run_pure, Result.andThen_ok]
  rw [run_loadVar_row (P := P) w g e ty cs.toArray (0, 0) d hb h1 (by cases d <;> simp_all) (by rw [h3]; simp [hn]), hx]
  rfl
/-- The results: two blocks of their own; four. -/
theorem results_blk2 {P : Program} {fn : Func} {p1 p2 : Tmp} {t1 t2 : TypeId} (h : fn.results = #[.cell p1 t1, .cell p2 t2]) (tmps : Array Value) (w : World) {g1 g2 n1 n2 : Nat} (hty1 : Agg P t1 n1) (hty2 : Agg P t2 n2) {e1 e2 : TypeId} {c1 c2 : List Value}
    (hb1 : Blk e1 w g1 c1) (hb2 : Blk e2 w g2 c2) (hn1 : c1.length = n1) (hn2 : c2.length = n2) (hp1 : tmps.getD p1 undef = .pointer (some ⟨g1, 0, none⟩)) (hp2 : tmps.getD p2 undef = .pointer (some ⟨g2, 0, none⟩)) :
    (results fn tmps).run P w = .ok (.tuple #[.agg c1.toArray, .agg c2.toArray]) w := by
  obtain ⟨d1, a1, a2, a3⟩ := hty1
  obtain ⟨d2, b1, b2, b3⟩ := hty2
  have r1 := run_loadVar_row (P := P) w g1 e1 t1 c1.toArray (0, 0) d1 hb1 a1 (by cases d1 <;> simp_all) (by rw [a3]; simp [hn1])
  have r2 := run_loadVar_row (P := P) w g2 e2 t2 c2.toArray (0, 0) d2 hb2 b1 (by cases d2 <;> simp_all) (by rw [b3]; simp [hn2])
  rw [Array.getD_eq_getD_getElem?] at hp1 hp2
  simp only [results, h]
  simp [Sem.run_bind, Result.andThen, hp1, hp2, asAddr, r1, r2]
/-- A row that turns from its end on into another. -/
def turned {α : Type} (A B : List α) (q : Nat) : List α := A.take q ++ B.drop q
theorem turned_len {α : Type} {A B : List α} (h : A.length = B.length) (q : Nat) : (turned A B q).length = A.length := by unfold turned; simp; omega
theorem turned_all {α : Type} {A B : List α} (h : A.length = B.length) (q : Nat) (hq : A.length ≤ q) : turned A B q = A := by
  unfold turned; rw [List.take_of_length_le hq, List.drop_of_length_le (by omega)]; simp
theorem turned_zero {α : Type} (A B : List α) : turned A B 0 = B := by simp [turned]
theorem turned_at {α : Type} {A B : List α} (q k : Nat) (hk : k < q) (hq : q ≤ A.length) : (turned A B q)[k]? = A[k]? := by
  unfold turned; rw [List.getElem?_append_left (by simp; omega), List.getElem?_take, if_pos hk]
theorem turned_set {α : Type} {A B : List α} (h : A.length = B.length) (q : Nat) (hq : q < A.length) (x : α) (hx : B[q]? = some x) : (turned A B (q + 1)).set q x = turned A B q := by
  unfold turned
  apply List.ext_getElem?
  intro i
  rw [List.getElem?_set]
  have hlen : (List.take (q + 1) A ++ List.drop (q + 1) B).length = A.length := by simp; omega
  by_cases hi : q = i
  · subst hi
    rw [if_pos rfl, if_pos (by omega), List.getElem?_append_right (by simp; omega), List.getElem?_drop]
    simp only [List.length_take]
    rw [show q + (q - min q A.length) = q from by omega, hx]
  · rw [if_neg hi]
    rcases Nat.lt_or_ge i q with h1 | h1
    · rw [List.getElem?_append_left (by simp; omega), List.getElem?_append_left (by simp; omega), List.getElem?_take, List.getElem?_take, if_pos (by omega), if_pos h1]
    · rw [List.getElem?_append_right (by simp; omega), List.getElem?_append_right (by simp; omega), List.getElem?_drop, List.getElem?_drop]
      simp only [List.length_take]
      congr 1; omega
end Go.Proofs.Ytohenjgegkgncaa
