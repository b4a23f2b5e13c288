/- How a shape that comes in is read. -/
import Derived.Test.YtfedjbodcebdnaaRootCodesW
import Derived.Test.YtfedjbodcebdnaaUpto2
set_option linter.unusedSimpArgs false
set_option linter.unusedVariables false
namespace Go.Proofs.Ytfedjbodcebdnaa
open Go.ChangeShapes Go.WideShapes Go.ChangeAt Go.RowKit
variable {H : Type} {enc : TypeId × Value → H} {W : World}
theorem bulk_mem' {ds : List (DataW H)} {d : DataW H} (h : d ∈ ds) : Rows.uptoBulk d ≤ Rows.uptoBulkAll ds := upto_mem h
theorem upto_each {d : DataW H} {ps : List (Value × List UInt8)} (h : SzT d ps) : ∀ q ∈ ps, q.2.length ≤ Rows.uptoBulk d := by
  intro q hq
  have h1 := (upto_texts h).2
  rw [List.length_flatMap] at h1
  have : ∀ (l : List (Value × List UInt8)), q ∈ l → q.2.length ≤ (l.map fun p => p.2.length).sum := by
    intro l
    induction l with
    | nil => intro h; simp at h
    | cons p l ih =>
      intro h
      simp only [List.map_cons, List.sum_cons]
      rcases List.mem_cons.1 h with rfl | h
      · omega
      · have := ih h; omega
  exact Nat.le_trans (this ps hq) h1
set_option maxRecDepth 100000 in
theorem open_shape {r : Reach} {b0 : Nat} {v : Value} {d : DataW H} {p : List MemPlace} (hv : Value.okWide Try.prog W r b0 70 v) (h : DataW.Trod enc Try.prog W 0 (fun _ => true) true 70 v d p) :
    ∃ s : Shp, v = .agg (shcells s).toArray ∧ IsShp W s ∧ ShLe s (Rows.uptoBulk d) := by
  obtain ⟨cs, rfl, _⟩ := okWide_struct Try.underlying70 hv
  obtain ⟨fuel, hf⟩ := h
  obtain ⟨xs, n, hn, hx, hcl, hlen, hfi⟩ := DataW.trod_struct Try.underlying70 hf
  have hc4 : Try.prog.cellsOf 70 = 4 := by kernel_rfl
  have e0 : Try.prog.cellsOf 3 = 1 := by kernel_rfl
  have e1 : Try.prog.cellsOf 34 = 1 := by kernel_rfl
  have e3 : Try.prog.cellsOf 51 = 1 := by kernel_rfl
  rw [hc4] at hcl
  have hl4 : xs.length = 4 := hlen
  obtain ⟨l⟩ := cs
  change l.length = 4 at hcl
  change ∀ (i : Nat) (f : Field), _ → DataW.trod enc Try.prog W 0 (fun _ => true) true n f.type ((l.drop f.offset).take (Try.prog.cellsOf f.type)) = xs[i]? at hfi
  match l, hcl with
  | [c0, c1, c2, c3], _ =>
    match xs, hl4 with
    | [y0, y1, y2, y3], _ =>
      have h0 := hfi 0 _ rfl
      have h1 := hfi 1 _ rfl
      have h2 := hfi 2 _ rfl
      have h3 := hfi 3 _ rfl
      change DataW.trod enc Try.prog W 0 (fun _ => true) true n 3 (([c0, c1, c2, c3].drop 0).take (Try.prog.cellsOf 3)) = some y0 at h0
      change DataW.trod enc Try.prog W 0 (fun _ => true) true n 34 (([c0, c1, c2, c3].drop 1).take (Try.prog.cellsOf 34)) = some y1 at h1
      change DataW.trod enc Try.prog W 0 (fun _ => true) true n 34 (([c0, c1, c2, c3].drop 2).take (Try.prog.cellsOf 34)) = some y2 at h2
      change DataW.trod enc Try.prog W 0 (fun _ => true) true n 51 (([c0, c1, c2, c3].drop 3).take (Try.prog.cellsOf 51)) = some y3 at h3
      rw [e0] at h0
      rw [e1] at h1 h2
      rw [e3] at h3
      obtain ⟨kd, hk0, _, _⟩ := DataW.trod_int Try.underlying3 h0
      obtain ⟨pv, p, hp1, hp2, hp3⟩ := open_bytes_at elU8.ht Try.underlying5 (by kernel_rfl) h1
      obtain ⟨vv, v, hv1, hv2, hv3⟩ := open_bytes_at elU8.ht Try.underlying5 (by kernel_rfl) h2
      obtain ⟨kv, ps, hk1, hk2, hk3⟩ := open_texts_at Try.underlying51 elU8.ht Try.underlying5 (by kernel_rfl) (by kernel_rfl) h3
      change [c0] = _ at hk0
      change [c1] = _ at hp1
      change [c2] = _ at hv1
      change [c3] = _ at hk1
      simp only [List.cons.injEq, and_true] at hk0 hp1 hv1 hk1
      subst hk0; subst hp1; subst hv1; subst hk1
      have hd : d = .agg [y0.1, y1.1, y2.1, y3.1] := by
        have := congrArg Prod.fst hx
        exact this
      have b1 := upto_sz hp3
      have b2 := upto_sz hv3
      have b3 := upto_sz hk3.sz
      have b4 := upto_each hk3
      have hle : Rows.uptoBulk y1.1 ≤ Rows.uptoBulk d ∧ Rows.uptoBulk y2.1 ≤ Rows.uptoBulk d ∧ Rows.uptoBulk y3.1 ≤ Rows.uptoBulk d := by
        rw [hd]; simp only [Rows.uptoBulk, Rows.uptoBulkAll]; omega
      exact ⟨⟨kd, c1, p, c2, v, c3, ps⟩, rfl, ⟨hp2, hv2, hk2⟩, ⟨Nat.le_trans b1 hle.1, Nat.le_trans b2 hle.2.1, Nat.le_trans b3 hle.2.2, fun q hq => Nat.le_trans (b4 q hq) hle.2.2⟩⟩
end Go.Proofs.Ytfedjbodcebdnaa
