/- How an item that comes in is read. -/
import Derived.Test.YtfedjbodcebdnaaEnc2
import Derived.Test.YtfedjbodcebdnaaUpto2
set_option linter.unusedSimpArgs false
set_option linter.unusedVariables false
namespace Go.Proofs.Ytfedjbodcebdnaa
open Go.ChangeShapes Go.WideShapes Go.ChangeAt Go.RowKit
variable {H : Type} {enc : TypeId × Value → H} {W : World}
set_option maxRecDepth 100000 in
theorem item_fields {fuel : Nat} {cs : List Value} {x : DataW H × List MemPlace} (h : DataW.trod enc Try.prog W 0 (fun _ => true) true fuel 37 cs = some x) :
    ∃ (c0 c1 c2 : Value) (y0 y1 y2 : DataW H × List MemPlace) (n : Nat), fuel = n + 1 ∧ cs = [c0, c1, c2] ∧ x.1 = .agg [y0.1, y1.1, y2.1] ∧ DataW.trod enc Try.prog W 0 (fun _ => true) true n 4 [c0] = some y0 ∧
      DataW.trod enc Try.prog W 0 (fun _ => true) true n 34 [c1] = some y1 ∧ DataW.trod enc Try.prog W 0 (fun _ => true) true n 35 [c2] = some y2 := by
  obtain ⟨xs, n, hn, hx, hcl, hlen, hf⟩ := DataW.trod_struct Try.underlying37 h
  have hc3 : Try.prog.cellsOf 37 = 3 := by kernel_rfl
  have e0 : Try.prog.cellsOf 4 = 1 := by kernel_rfl
  have e1 : Try.prog.cellsOf 34 = 1 := by kernel_rfl
  have e2 : Try.prog.cellsOf 35 = 1 := by kernel_rfl
  rw [hc3] at hcl
  have hl3 : xs.length = 3 := hlen
  match cs, hcl with
  | [c0, c1, c2], _ =>
    match xs, hl3 with
    | [y0, y1, y2], _ =>
      have h0 := hf 0 _ rfl
      have h1 := hf 1 _ rfl
      have h2 := hf 2 _ rfl
      change DataW.trod enc Try.prog W 0 (fun _ => true) true n 4 (([c0, c1, c2].drop 0).take (Try.prog.cellsOf 4)) = some y0 at h0
      change DataW.trod enc Try.prog W 0 (fun _ => true) true n 34 (([c0, c1, c2].drop 1).take (Try.prog.cellsOf 34)) = some y1 at h1
      change DataW.trod enc Try.prog W 0 (fun _ => true) true n 35 (([c0, c1, c2].drop 2).take (Try.prog.cellsOf 35)) = some y2 at h2
      rw [e0] at h0
      rw [e1] at h1
      rw [e2] at h2
      exact ⟨c0, c1, c2, y0, y1, y2, n, hn, rfl, by rw [hx]; rfl, h0, h1, h2⟩
theorem bulkL_sum (l : List Itm) : (l.map bulkI).sum = bulkL l := by
  induction l with
  | nil => simp [bulkL]
  | cons x l ih => simp [bulkL, ih]
set_option maxRecDepth 100000 in
theorem open_item_at : ∀ (fuel : Nat) (cs : List Value) (x : DataW H × List MemPlace), DataW.trod enc Try.prog W 0 (fun _ => true) true fuel 37 cs = some x → ∃ it, cs = icells it ∧ IsItm W it ∧ bulkI it ≤ Rows.uptoBulk x.1
  | 0, cs, x, h => by
    obtain ⟨_, _, _, _, _, _, n, hn, _⟩ := item_fields h
    omega
  | fuel + 1, cs, x, h => by
    obtain ⟨c0, c1, c2, y0, y1, y2, n, hn, rfl, hx, h0, h1, h2⟩ := item_fields h
    obtain rfl : n = fuel := by omega
    obtain ⟨l, hl, _⟩ := DataW.trod_bool Try.underlying4 h0
    obtain ⟨tv, t, ht1, ht2, ht3⟩ := open_bytes_at elU8.ht Try.underlying5 (by kernel_rfl) h1
    obtain ⟨kv, ks, hk1, hk2, hk3, hk4⟩ := open_rows (f := icells) (good := IsItm W) (sz := fun d y => bulkI y ≤ Rows.uptoBulk d) (size := 3) Try.underlying35 (by kernel_rfl) (by omega) icells_len h2 (fun m hm cs' x' hx' => by
      have : m < n := by omega
      exact open_item_at m cs' x' hx')
    simp only [List.cons.injEq, and_true] at hl ht1 hk1
    subst hl; subst ht1; subst hk1
    refine ⟨.mk l c1 t c2 ks, rfl, .mk l c1 t c2 ks ht2 hk2 hk3, ?_⟩
    have a1 := upto_sz ht3
    have a2 := upto_rows (m := bulkI) (fun d y hy => hy) hk4
    rw [bulkL_sum] at a2
    rw [hx]
    simp only [bulkI, Rows.uptoBulk, Rows.uptoBulkAll]
    omega
set_option maxRecDepth 100000 in
theorem open_item {r : Reach} {b0 : Nat} {v : Value} {d : DataW H} {p : List MemPlace} (hv : Value.okWide Try.prog W r b0 37 v) (h : DataW.Trod enc Try.prog W 0 (fun _ => true) true 37 v d p) :
    ∃ it, v = .agg (icells it).toArray ∧ IsItm W it ∧ bulkI it ≤ Rows.uptoBulk d := by
  obtain ⟨cs, rfl, _⟩ := okWide_struct Try.underlying37 hv
  obtain ⟨fuel, hf⟩ := h
  obtain ⟨it, h1, h2, h3⟩ := open_item_at fuel _ _ hf
  exact ⟨it, by rw [← h1]; simp [Value.cells], h2, h3⟩
end Go.Proofs.Ytfedjbodcebdnaa
