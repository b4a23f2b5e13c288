/- slices.SortFunc at routes: the library's contract, laid here. -/
import Derived.Test.YtcgpjceopnfahaaPut19
import Derived.Test.YtcgpjceopnfahaaPut20
import Derived.Shelf.SlGeneric
import Derived.Shelf.Lay
import Derived.Shelf.Small.Strs
import Derived.Shelf.SlSortCmp.NoneTotal
import Derived.Ground.SlsfProg
import Derived.Ground.NamesProg
namespace Go.Proofs
open Go.Shelf
shelf_lay Lays.n106 Nm 106 at Try as Try.strCmp
end Go.Proofs
set_option linter.unusedSimpArgs false
set_option linter.unusedVariables false
namespace Go.Proofs.Ytcgpjceopnfahaa
open Go.RowKit Go.Shelf Go.Lib Go.Sort
shelf_lay_g SlLaysF0.n6 Slsf 6 at Try 53 as Try.sortRts
set_option maxRecDepth 100000 in
/-- 'strings.Compare(a.path, b.path)' -/
theorem rcmp_any (x y : Rt) (W : World) : Calls Try.prog 54 #[.agg (rcells x).toArray, .agg (rcells y).toArray] W fun e w' => e = .returned (.int .i64 (Lib.compareBytes x.1 y.1)) ∧ ∃ q os', w' = grow (W.drewN q) os' := by
  obtain ⟨x1, x2⟩ := x
  obtain ⟨y1, y2⟩ := y
  have hcon := fun W' => Any.strings_Compare Try.strCmp ⟨x1.toArray⟩ ⟨y1.toArray⟩ W'
  change ∀ W', Calls Try.prog 55 _ _ _ at hcon
  dsimp only at hcon
  obtain ⟨R, hR⟩ : ∃ R, R = Lib.compareBytes x1 y1 := ⟨_, rfl⟩
  rw [← hR] at hcon
  show Calls Try.prog 54 #[.agg #[.string ⟨x1.toArray⟩, .string ⟨x2.toArray⟩], .agg #[.string ⟨y1.toArray⟩, .string ⟨y2.toArray⟩]] W fun e w' => e = .returned (.int .i64 (Lib.compareBytes x1 y1)) ∧ ∃ q os', w' = grow (W.drewN q) os'
  rw [← hR]
  clear hR
  obtain ⟨X1, hX1⟩ : ∃ X : ByteArray, X = ⟨x1.toArray⟩ := ⟨_, rfl⟩
  obtain ⟨Y1, hY1⟩ : ∃ X : ByteArray, X = ⟨y1.toArray⟩ := ⟨_, rfl⟩
  simp only [← hX1, ← hY1] at hcon ⊢
  clear hX1 hY1
  go_enter Try.func54, Try.ntmps54
  go_wp2_with (go_at_call 55; refine (hcon _).mono ?_; rintro e w' ⟨rfl, rfl⟩)
  go_ret
  exact ⟨rfl, 0, _, by rw [alloc_eq_grow, alloc_eq_grow, grow_grow]; rfl⟩
theorem rt_holds {w : World} {B g n c : Nat} {ls : List Rt} (h : OwnOf rcells 2 69 w B (.slice (some ⟨g, 0, none⟩) n c) ls) : HoldsK rcells 2 w g 0 ls.toArray := by
  obtain ⟨h1, h2⟩ := h
  rcases h2 with ⟨h2, h3⟩ | ⟨g', cap, cur, h2, h3, h4, h5, h6, h7, h8⟩
  · cases h2
  · simp only [Value.slice.injEq, Option.some.injEq, Addr.mk.injEq, and_true] at h2
    obtain ⟨rfl, rfl, rfl⟩ := h2
    intro j hj
    rw [size_flatK, List.size_toArray] at hj
    rw [get_flatK rcells 2 _ j (by simpa using hj)]
    have hi : j / 2 < ls.length := (Nat.div_lt_iff_lt_mul (by omega)).2 hj
    have hr : j % 2 < 2 := Nat.mod_lt _ (by omega)
    have hf := flat_get (f := rcells) (size := 2) (fun _ => rfl) ls (j / 2) hi (j % 2) hr
    rw [show j / 2 * 2 + j % 2 = j by omega, ← h8, List.getElem?_take, if_pos hj] at hf
    refine ⟨?_, frozen_of_row w g (0 + j) cur _ h4⟩
    rw [cell_of_row w g (0 + j) cur _ (0, 0) h4, Nat.zero_add]
    rw [Array.getElem?_toList] at hf
    have hl : (rcells ls[j / 2]).length = 2 := rfl
    rw [hf, getElem!_pos ls.toArray (j / 2) (by simpa using hi), List.getElem_toArray, List.getElem?_eq_getElem (by rw [hl]; exact hr), getElem!_pos (rcells ls[j / 2]) (j % 2) (by rw [hl]; exact hr)]
    rfl
theorem rt_row {w : World} {g n c : Nat} {ls : List Rt} (h : HoldsK rcells 2 w g 0 ls.toArray) (hn : ls.length = n) (hnc : n ≤ c) (hm : c ≤ maxLen) : RowOf rcells 2 w (.slice (some ⟨g, 0, none⟩) n c) ls := by
  subst hn
  have hrl := rflat_len ls
  refine ⟨hrl, _, _, rfl, hnc, hm, Or.inr ⟨g, 0, none, rfl, .inl rfl, fun j u hu => ?_⟩⟩
  have hj := (List.getElem?_eq_some_iff.1 hu).1
  rw [hrl] at hj
  have hi : j / 2 < ls.length := (Nat.div_lt_iff_lt_mul (by omega)).2 hj
  have hr : j % 2 < 2 := Nat.mod_lt _ (by omega)
  have hf := flat_get (f := rcells) (size := 2) (fun _ => rfl) ls (j / 2) hi (j % 2) hr
  rw [show j / 2 * 2 + j % 2 = j by omega, hu] at hf
  have hc := (h.cell (i := j / 2) (c := j % 2) (by simpa using hi) hr).1
  rw [show 0 + j / 2 * 2 + j % 2 = 0 + j by omega] at hc
  have hl : (rcells ls[j / 2]).length = 2 := rfl
  rw [hc, getElem!_pos ls.toArray (j / 2) (by simpa using hi), List.getElem_toArray, getElem!_pos (rcells ls[j / 2]) (j % 2) (by rw [hl]; exact hr)]
  rw [List.getElem?_eq_getElem (by rw [hl]; exact hr)] at hf
  exact hf.symm
theorem below_sortW {B : Nat} {w0 w : World} (h : Go.RowKit.Below B w0 w) (g m : Nat) (hg : B ≤ g) (hgl : g < w.heap.size) (d : Array Rt) (os : Array Obj) : Go.RowKit.Below B w0 (sortWorldK rcells 2 w g 0 m d os) := by
  refine ⟨h.os, h.tape, h.output, Nat.le_trans h.size (size_sortWorldK_c rcells 2 w g 0 m d os), fun k hk => ?_⟩
  rw [← h.block k hk]
  have hkw : k < w.heap.size := Nat.lt_trans (Nat.lt_of_lt_of_le hk hg) hgl
  unfold sortWorldK grow putRowK putRow mapBlock
  simp only [Array.getElem?_append, Array.size_modify, heap_ahead]
  rw [if_pos hkw, Array.getElem?_modify, if_neg (by omega)]
set_option maxRecDepth 100000 in
theorem rsort_any (v : Value) (l : List Rt) (W0 w : World) (hl : l.length ≤ 1000000000) (h0 : Go.RowKit.Below W0.heap.size W0 w) (h : OwnOf rcells 2 69 w W0.heap.size v l) :
    Calls Try.prog 53 #[v, .func (.func 54) #[] #[]] w fun e w' => e = .returned (.tuple #[]) ∧ ∃ d' : Array Rt, PermIn 0 l.toArray.size l.toArray d' ∧ SortedIn rtLt 0 l.toArray.size d' ∧ RowOf rcells 2 w' v d'.toList ∧ Go.RowKit.Below W0.heap.size W0 w' := by
  have h' := h
  obtain ⟨hfl, h2⟩ := h'
  rcases h2 with ⟨h2, h3⟩ | ⟨g, cap, cur, h2, h3, h4, h5, h6, h7, h8⟩
  · subst h2
    have hln : l = [] := List.eq_nil_of_length_eq_zero h3
    subst hln
    have hcon := AnyF.slices_SortFunc_none Try.sortRts none 0 (.func (.func 54) #[] #[]) w
    refine Calls.mono hcon ?_
    rintro e w' ⟨rfl, rfl⟩
    exact ⟨rfl, #[], ⟨rfl, fun _ _ => rfl, List.Perm.refl _⟩, fun i j _ _ hj => absurd hj (by simp), RowOf.nil rcells 2 _, h0⟩
  · subst h2
    have hH := rt_holds h
    have eg : ∀ args w, (callFunc 54 args).run Try.prog w = .ok (.enter 54 args) w := enters_of Try.func54 (by kernel_rfl) rfl
    have hcmp : CmpLays Try.prog 54 #[] rcells 2 (fun x y => Lib.compareBytes x.1 y.1) g 0 l.toArray.size w := fun _ _ _ _ x y => rcmp_any x y _
    have hglt : g < w.heap.size := by
      have := h.row
      exact (World.ownsRow.lt h g rfl).2
    have hcon := AnyQ.slices_SortFunc Try.sortRts 2 Try.isAgg69 Try.sizeOf69 rcells (fun _ => rfl) (fun x v hv => by simp [rcells] at hv; rcases hv with rfl | rfl <;> rfl) (fun x y => Lib.compareBytes x.1 y.1) rt_swo 54 #[] g 0 cap l.toArray w eg hcmp hH hglt (by simp; omega)
    rw [List.size_toArray] at hcon
    refine Calls.mono hcon ?_
    rintro e w' ⟨rfl, d', m, os, hp, hs, rfl⟩
    rw [List.size_toArray]
    refine ⟨rfl, d', hp, hs, ?_, below_sortW h0 g m h3 hglt d' os⟩
    have hh := holdsK_sortWorldK_c rcells 2 w g 0 l.toArray d' m os hH hglt hp.1
    have hsz : d'.toList.length = l.length := by have := hp.1; simpa using this
    have hh2 : HoldsK rcells 2 (sortWorldK rcells 2 w g 0 m d' os) g 0 d'.toList.toArray := by simpa using hh
    exact rt_row hh2 hsz h5 h6
end Go.Proofs.Ytcgpjceopnfahaa
