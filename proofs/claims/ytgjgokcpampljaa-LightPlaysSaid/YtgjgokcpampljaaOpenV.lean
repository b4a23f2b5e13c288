/- How a slice of votes that comes in is read. -/
import Derived.Test.YtgjgokcpampljaaOpenU
import Derived.Test.YtgjgokcpampljaaVoteA
set_option linter.unusedSimpArgs false
set_option linter.unusedVariables false
namespace Go.Proofs.Ytgjgokcpampljaa
open Go.ChangeShapes Go.WideShapes Go.ChangeAt Go.RowKit
variable {H : Type} {enc : TypeId × Value → H} {W : World}
set_option maxRecDepth 100000 in
theorem open_vote_at {fuel : Nat} {cs : List Value} {x : DataW H × List MemPlace} (h : DataW.trod enc Try.prog W 0 (fun _ => true) true fuel 333 cs = some x) : ∃ v : Vt, v.Ok ∧ cs = vtc v := by
  obtain ⟨xs, n, hn, hx, hcl, hlen, hfi⟩ := DataW.trod_struct Try.underlying333 h
  have c32 : Try.prog.cellsOf 23 = 32 := by kernel_rfl
  have c1 : Try.prog.cellsOf 24 = 1 := by kernel_rfl
  rw [cellsVote] at hcl
  have hl2 : xs.length = 2 := hlen
  change ∀ (i : Nat) (f : Field), _ → DataW.trod enc Try.prog W 0 (fun _ => true) true n f.type ((cs.drop f.offset).take (Try.prog.cellsOf f.type)) = xs[i]? at hfi
  match xs, hl2 with
  | [y0, y1], _ =>
    have h0 := hfi 0 _ rfl
    have h1 := hfi 1 _ rfl
    change DataW.trod enc Try.prog W 0 (fun _ => true) true n 24 ((cs.drop 0).take (Try.prog.cellsOf 24)) = some y0 at h0
    change DataW.trod enc Try.prog W 0 (fun _ => true) true n 23 ((cs.drop 1).take (Try.prog.cellsOf 23)) = some y1 at h1
    obtain ⟨f0, l0, e0⟩ := open_f64 h0
    obtain ⟨f1, l1, e1⟩ := open_f32 Try.underlying23 c32 h1
    rw [c32] at e1
    rw [c1] at e0
    refine ⟨⟨f0, f1, l1⟩, ⟨l0⟩, ?_⟩
    have q0 : cs.drop 0 = cs := rfl
    have q33 : cs.drop 33 = [] := List.drop_eq_nil_of_le (by omega)
    rw [← q0, piece cs 0 1, e0, piece cs (0 + 1) 32, e1, q33, List.append_nil]
    rfl
set_option maxRecDepth 100000 in
theorem open_votes {r : Reach} {b0 : Nat} {v : Value} {d : DataW H} {p : List MemPlace}
    (hv : Value.okWide Try.prog W r b0 34 v) (h : DataW.Trod enc Try.prog W 0 (fun _ => true) true 34 v d p) : ∃ l : List Vt, RowOf vtc 33 W v l ∧ (∀ x ∈ l, x.Ok) ∧ Sz d l.length := by
  obtain ⟨fuel, hf⟩ := h
  obtain ⟨v', l, h1, h2, h3, h4⟩ := open_rows (f := vtc) (good := fun x => x.Ok) (sz := fun _ _ => True) Try.underlying34 cellsVote (by omega) vtc_len hf (fun n _ cs' x' hx => by
    obtain ⟨y, g1, g2⟩ := open_vote_at hx
    exact ⟨y, g2, g1, trivial⟩)
  obtain rfl : v = v' := one_val h1 (by obtain ⟨a, len, cap, hh⟩ := okWide_slice Try.underlying34 hv; exact ⟨a, len, cap, hh⟩)
  exact ⟨l, h2, h3, h4.sz⟩
end Go.Proofs.Ytgjgokcpampljaa
