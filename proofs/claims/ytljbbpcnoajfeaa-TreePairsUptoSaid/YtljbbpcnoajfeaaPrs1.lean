/- tree.own, tree.join, tree.all; what a round of tree.all's keeps. -/
import Derived.Test.YtljbbpcnoajfeaaGetA
import Derived.Test.YtljbbpcnoajfeaaRgf
import Derived.Sort.CutIn
set_option linter.unusedSimpArgs false
set_option linter.unusedVariables false
namespace Go.Proofs.Ytljbbpcnoajfeaa
open Go.RowKit
attribute [local go_sem] Oper.semAt_some
/-- what own and join hand back: a row of their own -/
def OwnPt (l : List UInt8) (w : World) (e : Ending) (w' : World) : Prop := ∃ v, e = .returned v ∧ OwnOf b8 1 5 w' w.heap.size v l ∧ Below w.heap.size w w'
set_option maxRecDepth 100000 in
theorem pown_any (a : Option Addr) (n c : Nat) (l : List UInt8) (hl : n ≤ 1000000000) (w : World) (h : Bytes w (.slice a n c) l) : Calls Try.prog 25 #[.slice a n c] w (OwnPt l w) := by
  have hnl := h.fits.1
  have hm0 : OwnOf b8 1 5 (w.alloc (.cells #[] 5)) w.heap.size (.slice (some ⟨w.heap.size, 0, none⟩) 0 0) [] := OwnOf.made b8 1 5 w w.heap.size [] #[] 0 rfl rfl rfl (Nat.le_refl _) (by unfold maxLen; omega)
  have bA : Below w.heap.size w (w.alloc (.cells #[] 5)) := (Below.refl _ _).alloc (Nat.le_refl _) _
  have h' := h.alloc (.cells #[] 5)
  have hlo := OwnOf.lt hm0
  go_enter Try.func25, Try.ntmps25
  go_wp2_with (refine wpList_appA (o := ⟨some 5, _, _, _, _, _⟩) (by rfl) (.tmp 3) (.tmp 4) 22 (by rfl) elU8 (by rfl) hm0 (by rfl) h' bA.size (by simp <;> omega) (by unfold maxLen; simp <;> omega) ?_; intro v5 w5 o5 g5 _; have b5 := bA.grown g5 bA.size hlo)
  go_ret
  exact ⟨_, rfl, o5, b5⟩
set_option maxHeartbeats 1000000 in
set_option maxRecDepth 100000 in
theorem pjoin_any (a b : Option Addr) (n c m d : Nat) (l k : List UInt8) (hl : l.length = n) (hk : k.length = m) (hn : n ≤ 1000000000) (hm : m ≤ 1000000000) (w : World) (h : Bytes w (.slice a n c) l) (h2 : Bytes w (.slice b m d) k) : Calls Try.prog 53 #[.slice a n c, .slice b m d] w (OwnPt (l ++ k) w) := by
  have C := Lib.hid (pown_any a n c l hn w h)
  have H2 := Lib.hid h2
  have Hl := Lib.hid hl
  have Hk := Lib.hid hk
  clear h h2 hl hk
  go_enter Try.func53, Try.ntmps53
  go_wp2_with (first
    | (go_at_call 25; (with_reducible refine C.out.mono ?_); rintro e w2 ⟨v2, rfl, o2, b2⟩; obtain ⟨a2, c2, rfl, _⟩ := o2.form' n Hl.out; have hlo := OwnOf.lt o2)
    | ((with_reducible show wpList _ _ _ (⟨some 8, _, _, _, _, _⟩ :: _) _ _); refine wpList_appA (o := ⟨some 8, _, _, _, _, _⟩) (by rfl) (.tmp 6) (.tmp 7) 22 (by rfl) elU8 (by rfl) o2 (by rfl) (H2.out.below b2) b2.size (by rw [Hl.out, Hk.out]; omega) (by rw [Hl.out, Hk.out]; unfold maxLen; omega) ?_; intro v3 w3 o3 g3 _; have b3 := b2.grown g3 b2.size hlo))
  go_ret
  exact ⟨_, rfl, o3, b3⟩
/-- tree.all: what it hands back, over a node and a path -/
def AllP (nvv pv : Value) (w : World) (e : Ending) (w' : World) : Prop := e = .returned (.func (.func 52) #[] #[.pointer (some ⟨w.heap.size, 0, none⟩), .pointer (some ⟨w.heap.size + 1, 0, none⟩)]) ∧ w' = (w.alloc (.cells #[nvv] 69)).alloc (.cells #[pv] 22)
theorem tall_any (t : Nd) (a : Option Addr) (n c : Nat) (w : World) : Calls Try.prog 22 #[nv t, .slice a n c] w (AllP (nv t) (.slice a n c) w) := by
  rcases nv_shape t with h | ⟨ty, x, h⟩
  · rw [h]
    go_enter Try.func22, Try.ntmps22
    go_wp2_with fail
    go_ret
    exact ⟨rfl, rfl⟩
  · rw [h]
    go_enter Try.func22, Try.ntmps22
    go_wp2_with fail
    go_ret
    exact ⟨rfl, rfl⟩
set_option maxRecDepth 100000 in
theorem enters_all1 (args : Array Value) (w : World) : (callFunc 52 args).run Try.prog w = .ok (.enter 52 args) w := enters_of Try.func52 (by kernel_rfl) rfl args w
/-- what is handed over at a round -/
def yT (w0 : World) (x : Rt) (args : Array Value) (W : World) : Prop := ∃ (a : Option Addr) (n c : Nat) (va : Option Addr) (vn vc : Nat), args = #[.slice a n c, .slice va vn vc] ∧ OwnOf b8 1 5 W 0 (.slice a n c) x.1 ∧ Bytes w0 (.slice va vn vc) x.2
/-- what a round keeps -/
structure Kt (w0 W W' : World) : Prop where
  b : Below w0.heap.size W W'
  k : ∀ g e cs, e ≠ 75 → e ≠ 26 → Blk e W g cs → Blk e W' g cs
theorem Kt.tr {w0 A B C : World} (h : Kt w0 A B) (k : Kt w0 B C) : Kt w0 A C := ⟨h.b.trans k.b, fun g e cs h1 h2 hb => k.k g e cs h1 h2 (h.k g e cs h1 h2 hb)⟩
theorem Kt.of {w0 W W' : World} (hw : w0.heap.size ≤ W.heap.size) (hb : Below W.heap.size W W') : Kt w0 W W' := ⟨hb.mono hw, fun _ _ _ _ _ h => h.kept hb⟩
theorem Kt.put {w0 w : World} (hn : w0.heap.size ≤ w.heap.size) (W : World) (l : Nat) (o o' : Obj) (hl : w.heap.size ≤ l) (h : W.heap[l]? = some o) (hc : o.isCells = false) : Kt w0 W (W.putObj l o') :=
  ⟨(Below.refl _ W).grown (grownBy_putObj' W l o') (by have := (Array.getElem?_eq_some_iff.1 h).1; omega) (fun k e => by cases e; omega), fun g e cs _ _ hb => by
    refine (World.putObj_heap_other ?_).trans hb
    rintro rfl
    rw [show W.heap[g]? = _ from hb] at h
    cases h
    cases hc⟩
theorem OwnOf.blkKept {α : Type} {f : α → List Value} {size : Nat} {e : TypeId} {W W' : World} {B : Nat} {v : Value} {l : List α} (h : OwnOf f size e W B v l) (hk : ∀ g cs, Blk e W g cs → Blk e W' g cs) : OwnOf f size e W' B v l := by
  obtain ⟨h1, h2⟩ := h
  refine ⟨h1, ?_⟩
  rcases h2 with h2 | ⟨g, cap, cur, e1, e2, hg, r⟩
  · exact .inl h2
  · refine .inr ⟨g, cap, cur, e1, e2, ?_, r⟩
    have := hk g cur.toList (by unfold Blk; simpa using hg)
    unfold Blk at this
    simpa using this
theorem OwnOf.kt {w0 W W' : World} {B : Nat} {v : Value} {l : List UInt8} (h : OwnOf b8 1 5 W B v l) (hk : Kt w0 W W') : OwnOf b8 1 5 W' B v l := h.blkKept (fun g cs hb => hk.k g _ cs (by decide) (by decide) hb)
/-- what turns holds no cells -/
def NoCellsT (W : World) (row : Option Nat) : Prop := ∀ r, row = some r → ∃ o : Obj, W.heap[r]? = some o ∧ o.isCells = false
theorem Blk.ncT {e : TypeId} {W W' : World} {g : Nat} {cs : List Value} {row : Option Nat} (h : Blk e W g cs) (hg : W.grownBy W' row) (hr : NoCellsT W row) : Blk e W' g cs :=
  (hg.block g (Array.getElem?_eq_some_iff.1 h).1 (fun e' => by
    obtain ⟨o, ho, hc⟩ := hr g e'.symm
    rw [show W.heap[g]? = _ from h] at ho
    cases ho
    cases hc)).trans h
theorem yT.stab {w0 : World} (x : Rt) (args : Array Value) (B : Nat) : Stab B (yT w0 x args) := fun W W' row ⟨a, n, c, va, vn, vc, h1, h2, h3⟩ hg hr =>
  ⟨a, n, c, va, vn, vc, h1, h2.blkKept (fun g cs hb => hb.ncT hg (fun r e => (hr r e).2)), h3⟩
theorem yT.size {w0 : World} (x : Rt) (args : Array Value) (W : World) (h : yT w0 x args W) : args.size = 2 := by
  obtain ⟨a, n, c, va, vn, vc, rfl, _⟩ := h
  rfl
/-- where tree.all's iterator stands: its node, its path -/
structure AlS (w0 : World) (nvv : Value) (pa : Option Addr) (pn pc : Nat) (pl : List UInt8) (B1 B2 : Nat) (W : World) : Prop where
  b : Below w0.heap.size w0 W
  n : Blk 69 W B1 [nvv]
  p : Blk 22 W B2 [.slice pa pn pc]
  o : OwnOf b8 1 5 W 0 (.slice pa pn pc) pl
theorem AlS.kt {w0 : World} {nvv : Value} {pa : Option Addr} {pn pc : Nat} {pl : List UInt8} {B1 B2 : Nat} {W W' : World} (h : AlS w0 nvv pa pn pc pl B1 B2 W) (hk : Kt w0 W W') : AlS w0 nvv pa pn pc pl B1 B2 W' :=
  ⟨h.b.trans hk.b, hk.k _ _ _ (by decide) (by decide) h.n, hk.k _ _ _ (by decide) (by decide) h.p, h.o.kt hk⟩
/-- the contract of tree.all's iterator at a node -/
def AllQ (w0 : World) (nvv : Value) (pa : Option Addr) (pn pc : Nat) (pl : List UInt8) (L : List Rt) : Prop :=
  ∀ (B1 B2 : Nat) (W : World), AlS w0 nvv pa pn pc pl B1 B2 W → SeqQ Try.prog 52 #[.pointer (some ⟨B1, 0, none⟩), .pointer (some ⟨B2, 0, none⟩)] L (yT w0) (Kt w0) W
set_option maxHeartbeats 1000000 in
set_option maxRecDepth 100000 in
theorem all1_none (w0 : World) (pa : Option Addr) (pn pc : Nat) (pl : List UInt8) : AllQ w0 .nilIface pa pn pc pl [] := by
  intro B1 B2 W hS l J Jx hJ _ _ h0
  refine (callsIn_wide (n := 8)).1 ?_
  show CallsIn (FW none) 8 _ _ _ _ _
  obtain ⟨w1, hw1⟩ : ∃ w1, w1 = W.alloc (.cells #[.func (.yield l) #[] #[]] 126) := ⟨_, rfl⟩
  have hbel : Below W.heap.size W w1 := by rw [hw1]; exact (Below.refl _ _).alloc (Nat.le_refl _) _
  have c1 : w1.cell? ⟨B1, 0, none⟩ = some .nilIface := (hS.n.kept hbel).cell 0
  have hJ1 := (hJ 0).below h0 hbel
  have z1 := as0_1
  have z2 := as0_2
  have z3 : ∀ w, (Instr.typeAssert .nilIface 69 134 true).run Try.prog w = .ok (.tuple #[.agg #[.nilIface, .nilIface, .nilIface, .nilIface, .nilIface, .nilIface, .nilIface, .nilIface, .nilIface, .nilIface, .nilIface, .nilIface, .nilIface, .nilIface, .nilIface, .nilIface, .slice none 0 0], .bool false]) w := fun w => by kernel_rfl
  have HWe := Lib.hid hw1
  clear hw1 hS hJ h0 hbel
  refine callsIn_of_wp_marks Try.func52 rfl trivial ?_
  simp only [Try.ntmps52, List.size_toArray, List.length_cons, List.length_nil, Nat.reduceAdd, Nat.reduceSub, Array.replicate_succ, Array.replicate_zero, List.push_toArray, List.append_toArray, List.nil_append, List.cons_append]
  gi_upto_region 1 with fail
  rw [← HWe.out]
  gi_wp2_with fail
  exact ⟨_, results_none rfl _ _ _, ⟨_, rfl⟩, .inl hJ1⟩
end Go.Proofs.Ytljbbpcnoajfeaa
