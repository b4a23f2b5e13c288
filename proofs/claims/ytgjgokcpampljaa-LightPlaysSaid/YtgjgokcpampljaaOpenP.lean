/- How a slice of updates that comes in is read. -/
import Derived.Test.YtgjgokcpampljaaOpenL
import Derived.Test.YtgjgokcpampljaaLpA
set_option linter.unusedSimpArgs false
set_option linter.unusedVariables false
namespace Go.Proofs.Ytgjgokcpampljaa
open Go.ChangeShapes Go.WideShapes Go.ChangeAt Go.RowKit
variable {H : Type} {enc : TypeId × Value → H} {W : World}
def SzU (d : DataW H) (x : UpS) : Prop := ∃ y0 y1 y2, d = .agg [y0, y1, y2] ∧ Sz y2 x.val.1.n.length
theorem cellsUp : Try.prog.cellsOf 33 = 206 := by kernel_rfl
set_option maxRecDepth 100000 in
theorem open_updates {r : Reach} {b0 : Nat} {v : Value} {d : DataW H} {p : List MemPlace}
    (hv : Value.okWide Try.prog W r b0 43 v) (h : DataW.Trod enc Try.prog W 0 (fun _ => true) true 43 v d p) :
    ∃ l : List UpS, RowOf upc 206 W v l ∧ (∀ x ∈ l, x.val.1.hd.Ok ∧ x.val.1.mask < 18446744073709551616 ∧ (∀ y ∈ x.val.1.n, y < 18446744073709551616) ∧ RowOf u64c 1 W x.val.2 x.val.1.n) ∧ SzL SzU d l := by
  obtain ⟨fuel, hf⟩ := h
  obtain ⟨v', l, h1, h2, h3, h4⟩ := open_rows (f := upc) (good := fun x => x.val.1.hd.Ok ∧ x.val.1.mask < 18446744073709551616 ∧ (∀ y ∈ x.val.1.n, y < 18446744073709551616) ∧ RowOf u64c 1 W x.val.2 x.val.1.n) (sz := SzU) Try.underlying43 cellsUp (by omega) upc_len hf (fun n _ cs' x' hx => by
    obtain ⟨t, g1, g2, g3⟩ := open_update_at hx
    exact ⟨⟨t, g2.1⟩, g1, g2, g3⟩)
  obtain rfl : v = v' := one_val h1 (by obtain ⟨a, len, cap, hh⟩ := okWide_slice Try.underlying43 hv; exact ⟨a, len, cap, hh⟩)
  exact ⟨l, h2, h3, h4⟩
theorem SzU.sz {d : DataW H} {l : List UpS} (h : SzL SzU d l) : Sz d l.length := h.sz
/-- Each update's row is of the reach. -/
theorem SzU.reach {P : Program} {ts : List TypeId} {ds : List (DataW H)} (h : (DataW.weightsEach P ts ds).all (· ≤ reachBytes) = true) {j : Nat} {t e a b u : TypeId} {d : DataW H} {l : List UpS} (hs : SzL SzU d l) (ht : ts[j]? = some t) (hd : ds[j]? = some d)
    (hu : P.underlying t = some (.slice e)) {fs : Array Field} (he : P.underlying e = some (.struct fs)) (hfs : fs.toList.map (·.type) = [a, b, u]) {g : TypeId} (hg : P.underlying u = some (.slice g)) (hb : P.bytesOf g = 8) : ∀ x ∈ l, x.val.1.n.length * 8 ≤ 140737488351232 := by
  intro x hx
  obtain ⟨i, hi⟩ := List.getElem?_of_mem hx
  rcases hs with ⟨_, rfl⟩ | ⟨es, sp, rfl, hl, hz⟩
  · simp at hx
  · have hil := (List.getElem?_eq_some_iff.1 hi).1
    have hei : es[i]? = some (es[i]'(by omega)) := List.getElem?_eq_getElem (by omega)
    obtain ⟨y0, y1, y2, h5, h6⟩ := hz i _ x hei hi
    have hmem : es[i]'(by omega) ∈ es := List.getElem_mem _
    rw [h5] at hmem
    have hin : (DataW.weightsEach P [a, b, u] [y0, y1, y2]).all (· ≤ reachBytes) = true := by
      rw [List.all_eq_true] at h ⊢
      intro n hn
      refine h n (DataW.weights_mem_each ht hd n ?_)
      simp only [DataW.weights, hu, List.mem_cons, List.mem_append]
      refine .inr (.inl (weights_all hmem n ?_))
      simp only [DataW.weights, he, hfs]
      exact hn
    exact Sz.reach hin h6 (j := 2) rfl rfl hg 8 hb
end Go.Proofs.Ytgjgokcpampljaa
