/- How a store and an update that come in are read, with the sizes of their rows. -/
import Derived.Test.YtgjgokcpampljaaOpenT
import Derived.Test.YtgjgokcpampljaaOpenV
import Derived.Test.YtgjgokcpampljaaLtA
set_option linter.unusedSimpArgs false
set_option linter.unusedVariables false
namespace Go.Proofs.Ytgjgokcpampljaa
open Go.ChangeShapes Go.WideShapes Go.ChangeAt Go.RowKit
variable {H : Type} {enc : TypeId × Value → H} {W : World}
theorem sz_in {P : Program} {ts : List TypeId} {ds : List (DataW H)} (h : (DataW.weightsEach P ts ds).all (· ≤ reachBytes) = true) {j : Nat} {t : TypeId} {parts : List (DataW H)} {fs : Array Field} (ht : ts[j]? = some t) (hd : ds[j]? = some (.agg parts)) (hu : P.underlying t = some (.struct fs)) :
    (DataW.weightsEach P (fs.toList.map (·.type)) parts).all (· ≤ reachBytes) = true := by
  rw [List.all_eq_true] at h ⊢
  intro x hx
  exact h x (DataW.weights_mem_each ht hd x (by simpa [DataW.weights, hu] using hx))
set_option maxRecDepth 100000 in
theorem open_store_z {r : Reach} {b0 : Nat} {v : Value} {d : DataW H} {p : List MemPlace} (hv : Value.okWide Try.prog W r b0 31 v) (h : DataW.Trod enc Try.prog W 0 (fun _ => true) true 31 v d p) :
    ∃ t : Sto × Value × Value, v = .agg (hdcs t.1.hd ++ [t.2.1, t.2.2]).toArray ∧ (t.1.hd.Ok ∧ (∀ x ∈ t.1.s, x < 18446744073709551616) ∧ (∀ x ∈ t.1.n, x < 18446744073709551616) ∧ RowOf u64c 1 W t.2.1 t.1.s ∧ RowOf u64c 1 W t.2.2 t.1.n) ∧ ∃ y0 y1 y2, d = .agg [y0, y1, y2] ∧ Sz y1 t.1.s.length ∧ Sz y2 t.1.n.length := by
  obtain ⟨cs, rfl, _⟩ := okWide_struct Try.underlying31 hv
  obtain ⟨fuel, hf⟩ := h
  obtain ⟨xs, n, hn, hx, hcl, hlen, hfi⟩ := DataW.trod_struct Try.underlying31 hf
  have hc : Try.prog.cellsOf 31 = 206 := by kernel_rfl
  have e0 : Try.prog.cellsOf 28 = 204 := cellsHd
  have e1 : Try.prog.cellsOf 29 = 1 := by kernel_rfl
  have e8 : Try.prog.cellsOf 24 = 1 := by kernel_rfl
  rw [hc] at hcl
  have hl3 : xs.length = 3 := hlen
  obtain ⟨l⟩ := cs
  change l.length = 206 at hcl
  change ∀ (i : Nat) (f : Field), _ → DataW.trod enc Try.prog W 0 (fun _ => true) true n f.type ((l.drop f.offset).take (Try.prog.cellsOf f.type)) = xs[i]? at hfi
  match xs, hl3 with
  | [y0, y1, y2], _ =>
    have h0 := hfi 0 _ rfl
    have h1 := hfi 1 _ rfl
    have h2 := hfi 2 _ rfl
    change DataW.trod enc Try.prog W 0 (fun _ => true) true n 28 ((l.drop 0).take (Try.prog.cellsOf 28)) = some y0 at h0
    change DataW.trod enc Try.prog W 0 (fun _ => true) true n 29 ((l.drop 204).take (Try.prog.cellsOf 29)) = some y1 at h1
    change DataW.trod enc Try.prog W 0 (fun _ => true) true n 29 ((l.drop 205).take (Try.prog.cellsOf 29)) = some y2 at h2
    rw [e0] at h0
    rw [e1] at h1 h2
    obtain ⟨hd, hk, hd1⟩ := open_header_at h0
    obtain ⟨vs, s, s1, s2, s3, s4⟩ := open_u64s_at Try.underlying29 Try.underlying24 e8 h1
    obtain ⟨vn, m, n1, n2, n3, n4⟩ := open_u64s_at Try.underlying29 Try.underlying24 e8 h2
    have hdd : d = .agg [y0.1, y1.1, y2.1] := by
      have := congrArg Prod.fst hx
      exact this
    refine ⟨⟨⟨hd, s, m⟩, vs, vn⟩, ?_, ⟨hk, s3, n3, s2, n2⟩, y0.1, y1.1, y2.1, hdd, s4, n4⟩
    show Value.agg l.toArray = _
    have q0 : l.drop 0 = l := rfl
    have q206 : l.drop 206 = [] := List.drop_eq_nil_of_le (by omega)
    have : l = hdcs hd ++ ([vs] ++ ([vn] ++ [])) := by
      rw [← q0, piece l 0 204, hd1, piece l (0 + 204) 1, s1, piece l (0 + 204 + 1) 1, n1, q206]
    rw [this]
    rfl
set_option maxRecDepth 100000 in
theorem open_update_at {fuel : Nat} {l : List Value} {x : DataW H × List MemPlace} (hf : DataW.trod enc Try.prog W 0 (fun _ => true) true fuel 33 l = some x) :
    ∃ t : Upd × Value, l = updc t.1.hd t.1.mask t.2 ∧ (t.1.hd.Ok ∧ t.1.mask < 18446744073709551616 ∧ (∀ x ∈ t.1.n, x < 18446744073709551616) ∧ RowOf u64c 1 W t.2 t.1.n) ∧ ∃ y0 y1 y2, x.1 = .agg [y0, y1, y2] ∧ Sz y2 t.1.n.length := by
  obtain ⟨xs, n, hn, hx, hcl, hlen, hfi⟩ := DataW.trod_struct Try.underlying33 hf
  have hc : Try.prog.cellsOf 33 = 206 := by kernel_rfl
  have e0 : Try.prog.cellsOf 28 = 204 := cellsHd
  have e1 : Try.prog.cellsOf 29 = 1 := by kernel_rfl
  have e8 : Try.prog.cellsOf 24 = 1 := by kernel_rfl
  rw [hc] at hcl
  have hl3 : xs.length = 3 := hlen
  change ∀ (i : Nat) (f : Field), _ → DataW.trod enc Try.prog W 0 (fun _ => true) true n f.type ((l.drop f.offset).take (Try.prog.cellsOf f.type)) = xs[i]? at hfi
  match xs, hl3 with
  | [y0, y1, y2], _ =>
    have h0 := hfi 0 _ rfl
    have h1 := hfi 1 _ rfl
    have h2 := hfi 2 _ rfl
    change DataW.trod enc Try.prog W 0 (fun _ => true) true n 28 ((l.drop 0).take (Try.prog.cellsOf 28)) = some y0 at h0
    change DataW.trod enc Try.prog W 0 (fun _ => true) true n 24 ((l.drop 204).take (Try.prog.cellsOf 24)) = some y1 at h1
    change DataW.trod enc Try.prog W 0 (fun _ => true) true n 29 ((l.drop 205).take (Try.prog.cellsOf 29)) = some y2 at h2
    obtain ⟨fm, lm, em⟩ := open_f64 h1
    rw [e0] at h0
    rw [e1] at h2
    rw [e8] at em
    obtain ⟨hd, hk, hd1⟩ := open_header_at h0
    obtain ⟨vn, m, n1, n2, n3, n4⟩ := open_u64s_at Try.underlying29 Try.underlying24 e8 h2
    have hdd : x.1 = .agg [y0.1, y1.1, y2.1] := by
      have := congrArg Prod.fst hx
      exact this
    refine ⟨⟨⟨hd, fm, m⟩, vn⟩, ?_, ⟨hk, lm, n3, n2⟩, y0.1, y1.1, y2.1, hdd, n4⟩
    have q0 : l.drop 0 = l := rfl
    have q206 : l.drop 206 = [] := List.drop_eq_nil_of_le (by omega)
    rw [← q0, piece l 0 204, hd1, piece l (0 + 204) 1, em, piece l (0 + 204 + 1) 1, n1, q206]
    rfl
set_option maxRecDepth 100000 in
theorem open_update_z {r : Reach} {b0 : Nat} {v : Value} {d : DataW H} {p : List MemPlace} (hv : Value.okWide Try.prog W r b0 33 v) (h : DataW.Trod enc Try.prog W 0 (fun _ => true) true 33 v d p) :
    ∃ t : Upd × Value, v = .agg (updc t.1.hd t.1.mask t.2).toArray ∧ (t.1.hd.Ok ∧ t.1.mask < 18446744073709551616 ∧ (∀ x ∈ t.1.n, x < 18446744073709551616) ∧ RowOf u64c 1 W t.2 t.1.n) ∧ ∃ y0 y1 y2, d = .agg [y0, y1, y2] ∧ Sz y2 t.1.n.length := by
  obtain ⟨cs, rfl, _⟩ := okWide_struct Try.underlying33 hv
  obtain ⟨fuel, hf⟩ := h
  obtain ⟨l⟩ := cs
  obtain ⟨t, h1, h2, h3⟩ := open_update_at hf
  change l = _ at h1
  exact ⟨t, by rw [h1], h2, h3⟩
end Go.Proofs.Ytgjgokcpampljaa
