/- How a store that comes in is read. -/
import Derived.Test.YtgjgokcpampljaaHdrA
import Derived.Test.YtgjgokcpampljaaOpenU
import Derived.Test.YtgjgokcpampljaaCliA
set_option linter.unusedSimpArgs false
set_option linter.unusedVariables false
namespace Go.Proofs.Ytgjgokcpampljaa
open Go.ChangeShapes Go.WideShapes Go.ChangeAt Go.RowKit
variable {H : Type} {enc : TypeId × Value → H} {W : World}
theorem open_u64s_at {t e : TypeId} (ht : Try.prog.underlying t = some (.slice e)) (he : Try.prog.underlying e = some (.int .u64)) (hc : Try.prog.cellsOf e = 1) {fuel : Nat} {cs : List Value} {x : DataW H × List MemPlace}
    (hf : DataW.trod enc Try.prog W 0 (fun _ => true) true fuel t cs = some x) : ∃ v, ∃ l : List Nat, cs = [v] ∧ RowOf u64c 1 W v l ∧ (∀ x ∈ l, x < 18446744073709551616) ∧ Sz x.1 l.length := by
  obtain ⟨v', l, h1, h2, h3, h4⟩ := open_rows (f := u64c) (good := fun x => x < 18446744073709551616) (sz := fun _ _ => True) ht hc (by omega) (fun _ => rfl) hf (fun n _ cs' x' hx => by
    obtain ⟨z, hz, _, hw⟩ := DataW.trod_int he hx
    have hb : 0 ≤ z ∧ z ≤ 18446744073709551615 := by simpa [Lit.wf, IntKind.min, IntKind.max, IntKind.signed, IntKind.bits] using hw
    refine ⟨z.toNat, ?_, by omega, trivial⟩
    rw [hz]; unfold u64c; rw [Int.toNat_of_nonneg hb.1])
  exact ⟨v', l, h1, h2, h3, h4.sz⟩
set_option maxRecDepth 100000 in
theorem open_store {r : Reach} {b0 : Nat} {v : Value} {d : DataW H} {p : List MemPlace} (hv : Value.okWide Try.prog W r b0 31 v) (h : DataW.Trod enc Try.prog W 0 (fun _ => true) true 31 v d p) :
    ∃ t : Sto × Value × Value, v = .agg (hdcs t.1.hd ++ [t.2.1, t.2.2]).toArray ∧ (t.1.hd.Ok ∧ (∀ x ∈ t.1.s, x < 18446744073709551616) ∧ (∀ x ∈ t.1.n, x < 18446744073709551616) ∧ RowOf u64c 1 W t.2.1 t.1.s ∧ RowOf u64c 1 W t.2.2 t.1.n) ∧ (t.1.s.length ≤ Rows.uptoBulk d ∧ t.1.n.length ≤ Rows.uptoBulk d) := by
  obtain ⟨cs, rfl, _⟩ := okWide_struct Try.underlying31 hv
  obtain ⟨fuel, hf⟩ := h
  obtain ⟨xs, n, hn, hx, hcl, hlen, hfi⟩ := DataW.trod_struct Try.underlying31 hf
  have hc : Try.prog.cellsOf 31 = 206 := by kernel_rfl
  have e0 : Try.prog.cellsOf 28 = 204 := cellsHd
  have e1 : Try.prog.cellsOf 29 = 1 := by kernel_rfl
  have e8 : Try.prog.cellsOf 24 = 1 := by kernel_rfl
  rw [hc] at hcl
  have hl3 : xs.length = 3 := hlen
  obtain ⟨l⟩ := cs
  change l.length = 206 at hcl
  change ∀ (i : Nat) (f : Field), _ → DataW.trod enc Try.prog W 0 (fun _ => true) true n f.type ((l.drop f.offset).take (Try.prog.cellsOf f.type)) = xs[i]? at hfi
  match xs, hl3 with
  | [y0, y1, y2], _ =>
    have h0 := hfi 0 _ rfl
    have h1 := hfi 1 _ rfl
    have h2 := hfi 2 _ rfl
    change DataW.trod enc Try.prog W 0 (fun _ => true) true n 28 ((l.drop 0).take (Try.prog.cellsOf 28)) = some y0 at h0
    change DataW.trod enc Try.prog W 0 (fun _ => true) true n 29 ((l.drop 204).take (Try.prog.cellsOf 29)) = some y1 at h1
    change DataW.trod enc Try.prog W 0 (fun _ => true) true n 29 ((l.drop 205).take (Try.prog.cellsOf 29)) = some y2 at h2
    rw [e0] at h0
    rw [e1] at h1 h2
    obtain ⟨hd, hk, hd1⟩ := open_header_at h0
    obtain ⟨vs, s, s1, s2, s3, s4⟩ := open_u64s_at Try.underlying29 Try.underlying24 e8 h1
    obtain ⟨vn, m, n1, n2, n3, n4⟩ := open_u64s_at Try.underlying29 Try.underlying24 e8 h2
    have hdd : d = .agg [y0.1, y1.1, y2.1] := by
      have := congrArg Prod.fst hx
      exact this
    have hle : Rows.uptoBulk y1.1 ≤ Rows.uptoBulk d ∧ Rows.uptoBulk y2.1 ≤ Rows.uptoBulk d := by
      rw [hdd]; simp only [Rows.uptoBulk, Rows.uptoBulkAll]; omega
    refine ⟨⟨⟨hd, s, m⟩, vs, vn⟩, ?_, ⟨hk, s3, n3, s2, n2⟩, ⟨Nat.le_trans (upto_sz s4) hle.1, Nat.le_trans (upto_sz n4) hle.2⟩⟩
    show Value.agg l.toArray = _
    have q0 : l.drop 0 = l := rfl
    have q206 : l.drop 206 = [] := List.drop_eq_nil_of_le (by omega)
    have : l = hdcs hd ++ ([vs] ++ ([vn] ++ [])) := by
      rw [← q0, piece l 0 204, hd1, piece l (0 + 204) 1, s1, piece l (0 + 204 + 1) 1, n1, q206]
    rw [this]
    rfl
end Go.Proofs.Ytgjgokcpampljaa
