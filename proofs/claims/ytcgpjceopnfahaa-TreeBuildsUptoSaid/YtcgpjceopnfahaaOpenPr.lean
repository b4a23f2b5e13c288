/- How a slice of pairs that comes in is read. -/
import Derived.Test.YtcgpjceopnfahaaBld1
import Derived.Test.YtcgpjceopnfahaaOpenA
import Derived.Test.YtcgpjceopnfahaaLits
import Derived.OpenShut
set_option linter.unusedSimpArgs false
set_option linter.unusedVariables false
namespace Go.Proofs.Ytcgpjceopnfahaa
open Go.ChangeShapes Go.WideShapes Go.ChangeAt Go.RowKit
section
variable {H : Type} {enc : TypeId × Value → H} {W : World}
theorem cellsPair : Try.prog.cellsOf 62 = 2 := by kernel_rfl
set_option maxRecDepth 100000 in
theorem open_pair {fuel : Nat} {cs : List Value} {x : DataW H × List MemPlace} (h : DataW.trod enc Try.prog W 0 (fun _ => true) true fuel 62 cs = some x) : ∃ o : Kvp, cs = kvc o ∧ IsKv W o := by
  obtain ⟨xs, n, hn, hx, hcl, hlen, hf⟩ := DataW.trod_struct Try.underlying62 h
  have c2' : Try.prog.cellsOf 62 = 2 := cellsPair
  have c2 : Try.prog.cellsOf 22 = 1 := by kernel_rfl
  have hl : xs.length = 2 := hlen
  rw [c2'] at hcl
  match xs, hl with
  | [y0, y1], _ =>
    have h0 := hf 0 _ rfl
    have h1 := hf 1 _ rfl
    change DataW.trod enc Try.prog W 0 (fun _ => true) true n 22 ((cs.drop 0).take (Try.prog.cellsOf 22)) = some y0 at h0
    change DataW.trod enc Try.prog W 0 (fun _ => true) true n 22 ((cs.drop 1).take (Try.prog.cellsOf 22)) = some y1 at h1
    obtain ⟨kv, K, e0, r0, z0⟩ := open_bytes_at elU8.ht Try.underlying5 (by kernel_rfl) h0
    obtain ⟨dv, D, e1, r1, z1⟩ := open_bytes_at elU8.ht Try.underlying5 (by kernel_rfl) h1
    rw [c2] at e0 e1
    refine ⟨⟨kv, K, dv, D⟩, ?_, r0, r1⟩
    have q0 : cs.drop 0 = cs := rfl
    have q2 : cs.drop 2 = [] := List.drop_eq_nil_of_le (by omega)
    rw [← q0, piece cs 0 1, e0, piece cs (0 + 1) 1, e1, q2]
    rfl
set_option maxRecDepth 100000 in
theorem open_pairs {r : Reach} {b0 : Nat} {v : Value} {d : DataW H} {p : List MemPlace}
    (hv : Value.okWide Try.prog W r b0 31 v) (h : DataW.Trod enc Try.prog W 0 (fun _ => true) true 31 v d p) :
    ∃ l : List Kvp, RowOf kvc 2 W v l ∧ (∀ o ∈ l, IsKv W o) ∧ Sz d l.length := by
  obtain ⟨fuel, hf⟩ := h
  obtain ⟨v', l, h1, h2, h3, h4⟩ := open_rows (f := kvc) (good := fun o => IsKv W o) (sz := fun _ _ => True) (size := 2) Try.underlying31 cellsPair (by omega) kvc_len hf (fun n _ cs' x' hx => by
    obtain ⟨o, g1, g2⟩ := open_pair hx
    exact ⟨o, g1, g2, trivial⟩)
  obtain rfl : v = v' := one_val h1 (by obtain ⟨a, len, cap, hh⟩ := okWide_slice Try.underlying31 hv; exact ⟨a, len, cap, hh⟩)
  exact ⟨l, h2, h3, h4.sz⟩
end
end Go.Proofs.Ytcgpjceopnfahaa
