/- How transactions and receipts that come in are read. -/
import Derived.Test.YtnhbfnegpjkojaaLits
import Derived.Test.YtnhbfnegpjkojaaTx13
import Derived.OpenShut
set_option linter.unusedSimpArgs false
set_option linter.unusedVariables false
namespace Go.Proofs.Ytnhbfnegpjkojaa
open Go.ChangeShapes Go.WideShapes Go.ChangeAt Go.RowKit
theorem word_ofT (A : List Int) (hl : A.length = 4) (hw : ∀ x ∈ A, (Lit.int .u64 x).wf = true) : ∃ N, N < W256 ∧ A = limI N := by
  match A, hl with
  | [x0, x1, x2, x3], _ =>
    have h0 := bounds_u64 (hw x0 (by simp))
    have h1 := bounds_u64 (hw x1 (by simp))
    have h2 := bounds_u64 (hw x2 (by simp))
    have h3 := bounds_u64 (hw x3 (by simp))
    obtain ⟨y0, rfl⟩ := Int.eq_ofNat_of_zero_le h0.1
    obtain ⟨y1, rfl⟩ := Int.eq_ofNat_of_zero_le h1.1
    obtain ⟨y2, rfl⟩ := Int.eq_ofNat_of_zero_le h2.1
    obtain ⟨y3, rfl⟩ := Int.eq_ofNat_of_zero_le h3.1
    clear hw
    refine ⟨y0 + 18446744073709551616 * y1 + 340282366920938463463374607431768211456 * y2 + 6277101735386680763835789423207666416102355444464034512896 * y3, by unfold W256; omega, ?_⟩
    unfold limI
    rw [lim0, lim1, lim2, lim3]
    congr 1
    · omega
    · congr 1
      · omega
      · congr 1
        · omega
        · congr 1; omega
section
variable {H : Type} {enc : TypeId × Value → H} {W : World}
theorem open_word_at {fuel : Nat} {cs : List Value} {x : DataW H × List MemPlace} (h : DataW.trod enc Try.prog W 0 (fun _ => true) true fuel 48 cs = some x) : ∃ N, N < W256 ∧ cs = wcs N := by
  obtain ⟨xs, e1, e2, e3⟩ := trod_arr Try.underlying48 Try.underlying44 (by kernel_rfl) (by kernel_rfl) h
  obtain ⟨N, hN, rfl⟩ := word_ofT xs e2 e3
  exact ⟨N, hN, e1⟩
theorem open_words_at {fuel : Nat} {cs : List Value} {x : DataW H × List MemPlace} (h : DataW.trod enc Try.prog W 0 (fun _ => true) true fuel 68 cs = some x) : ∃ v, ∃ l : List Nat, cs = [v] ∧ RowOf wcs 4 W v l ∧ Sz x.1 l.length := by
  obtain ⟨v, l, h1, h2, _, h4⟩ := open_rows (f := wcs) (good := fun _ => True) (sz := fun _ _ => True) (size := 4) Try.underlying68 (by kernel_rfl) (by omega) wcs_len h (fun n _ cs' x' hx => by
    obtain ⟨N, _, e⟩ := open_word_at hx
    exact ⟨N, e, trivial, trivial⟩)
  exact ⟨v, l, h1, h2, h4.sz⟩
set_option maxRecDepth 100000 in
theorem open_log_at {fuel : Nat} {cs : List Value} {x : DataW H × List MemPlace} (h : DataW.trod enc Try.prog W 0 (fun _ => true) true fuel 143 cs = some x) : ∃ l : Lgv, cs = lgc l ∧ l.In W ∧ lgM l ≤ Rows.uptoBulk x.1 := by
  obtain ⟨xs, n, hn, hx, hcl, hlen, hf⟩ := DataW.trod_struct Try.underlying143 h
  have c10 : Try.prog.cellsOf 143 = 10 := by kernel_rfl
  have c8 : Try.prog.cellsOf 54 = 8 := by kernel_rfl
  have c1 : Try.prog.cellsOf 68 = 1 := by kernel_rfl
  have c2 : Try.prog.cellsOf 22 = 1 := by kernel_rfl
  have hl : xs.length = 3 := hlen
  rw [c10] at hcl
  match xs, hl with
  | [y0, y1, y2], _ =>
    have h0 := hf 0 _ rfl
    have h1 := hf 1 _ rfl
    have h2 := hf 2 _ rfl
    change DataW.trod enc Try.prog W 0 (fun _ => true) true n 54 ((cs.drop 0).take (Try.prog.cellsOf 54)) = some y0 at h0
    change DataW.trod enc Try.prog W 0 (fun _ => true) true n 68 ((cs.drop 8).take (Try.prog.cellsOf 68)) = some y1 at h1
    change DataW.trod enc Try.prog W 0 (fun _ => true) true n 22 ((cs.drop 9).take (Try.prog.cellsOf 22)) = some y2 at h2
    obtain ⟨f0, l0, e0⟩ := open_f32 Try.underlying54 c8 h0
    obtain ⟨tv, T, e1, r1, z1⟩ := open_words_at h1
    obtain ⟨dv, D, e2, r2, z2⟩ := open_bytes_at elU8.ht Try.underlying5 (by kernel_rfl) h2
    rw [c8] at e0
    rw [c1] at e1
    rw [c2] at e2
    have hd : x.1 = .agg [y0.1, y1.1, y2.1] := by rw [hx]; rfl
    refine ⟨⟨f0, l0, tv, T, dv, D⟩, ?_, ⟨r1, r2⟩, ?_⟩
    · have q0 : cs.drop 0 = cs := rfl
      have q10 : cs.drop 10 = [] := List.drop_eq_nil_of_le (by omega)
      rw [← q0, piece cs 0 8, e0, piece cs (0 + 8) 1, e1, piece cs (0 + 8 + 1) 1, e2, q10]
      rfl
    · have a1 := upto_sz z1
      have a2 := upto_sz z2
      have a0 := upto_one y0.1
      rw [hd]
      unfold lgM
      simp only [Rows.uptoBulk, Rows.uptoBulkAll]
      omega
theorem open_logs_at {fuel : Nat} {cs : List Value} {x : DataW H × List MemPlace} (h : DataW.trod enc Try.prog W 0 (fun _ => true) true fuel 78 cs = some x) : ∃ v, ∃ ls : List Lgv, cs = [v] ∧ Logs W v ls ∧ (ls.map lgM).sum ≤ Rows.uptoBulk x.1 := by
  obtain ⟨v, l, h1, h2, h3, h4⟩ := open_rows (f := lgc) (good := fun l => l.In W) (sz := fun d l => lgM l ≤ Rows.uptoBulk d) (size := 10) Try.underlying78 (by kernel_rfl) (by omega) lgc_len h (fun n _ cs' x' hx => open_log_at hx)
  exact ⟨v, l, h1, ⟨h2, h3⟩, upto_rows (m := lgM) (fun d y hy => hy) h4⟩
set_option maxRecDepth 100000 in
theorem open_receipt {r : Reach} {b0 : Nat} {v : Value} {d : DataW H} {p : List MemPlace} (hv : Value.okWide Try.prog W r b0 80 v) (h : DataW.Trod enc Try.prog W 0 (fun _ => true) true 80 v d p) :
    ∃ t : Rcv, v = .agg (rcc t).toArray ∧ Logs W t.lv t.ls ∧ (t.ls.map lgM).sum ≤ Rows.uptoBulk d := by
  obtain ⟨cs, rfl, _⟩ := okWide_struct Try.underlying80 hv
  obtain ⟨fuel, hf⟩ := h
  obtain ⟨xs, n, hn, hx, hcl, hlen, hfi⟩ := DataW.trod_struct Try.underlying80 hf
  have c35 : Try.prog.cellsOf 80 = 35 := by kernel_rfl
  have c1 : Try.prog.cellsOf 4 = 1 := by kernel_rfl
  have c2 : Try.prog.cellsOf 44 = 1 := by kernel_rfl
  have c3 : Try.prog.cellsOf 31 = 32 := by kernel_rfl
  have c4 : Try.prog.cellsOf 78 = 1 := by kernel_rfl
  rw [c35] at hcl
  have hl : xs.length = 4 := hlen
  obtain ⟨l⟩ := cs
  change l.length = 35 at hcl
  change ∀ (i : Nat) (f : Field), _ → DataW.trod enc Try.prog W 0 (fun _ => true) true n f.type ((l.drop f.offset).take (Try.prog.cellsOf f.type)) = xs[i]? at hfi
  match xs, hl with
  | [y0, y1, y2, y3], _ =>
    have h0 := hfi 0 _ rfl
    have h1 := hfi 1 _ rfl
    have h2 := hfi 2 _ rfl
    have h3 := hfi 3 _ rfl
    change DataW.trod enc Try.prog W 0 (fun _ => true) true n 4 ((l.drop 0).take (Try.prog.cellsOf 4)) = some y0 at h0
    change DataW.trod enc Try.prog W 0 (fun _ => true) true n 44 ((l.drop 1).take (Try.prog.cellsOf 44)) = some y1 at h1
    change DataW.trod enc Try.prog W 0 (fun _ => true) true n 31 ((l.drop 2).take (Try.prog.cellsOf 31)) = some y2 at h2
    change DataW.trod enc Try.prog W 0 (fun _ => true) true n 78 ((l.drop 34).take (Try.prog.cellsOf 78)) = some y3 at h3
    obtain ⟨g, e0, _⟩ := DataW.trod_bool Try.underlying4 h0
    obtain ⟨u, hu, e1⟩ := open_f64 h1
    obtain ⟨bl, lb, e2⟩ := open_f32 Try.underlying31 c3 h2
    obtain ⟨lv, ls, e3, r3, z3⟩ := open_logs_at h3
    rw [c1] at e0
    rw [c2] at e1
    rw [c3] at e2
    rw [c4] at e3
    have hdd : d = .agg [y0.1, y1.1, y2.1, y3.1] := congrArg Prod.fst hx
    have q0 : l.drop 0 = l := rfl
    have q35 : l.drop 35 = [] := List.drop_eq_nil_of_le (by omega)
    refine ⟨⟨g, u, hu, bl, lb, lv, ls⟩, ?_, r3, ?_⟩
    · have : l = rcc ⟨g, u, hu, bl, lb, lv, ls⟩ := by
        rw [← q0, piece l 0 1, e0, piece l (0 + 1) 1, e1, piece l (0 + 1 + 1) 32, e2, piece l (0 + 1 + 1 + 32) 1, e3, q35]
        rfl
      rw [← this]
    · rw [hdd]; simp only [Rows.uptoBulk, Rows.uptoBulkAll]; omega
set_option maxRecDepth 100000 in
theorem open_tx {r : Reach} {b0 : Nat} {v : Value} {d : DataW H} {p : List MemPlace} (hv : Value.okWide Try.prog W r b0 77 v) (h : DataW.Trod enc Try.prog W 0 (fun _ => true) true 77 v d p) :
    ∃ t : Txd × Option Addr × Nat × Nat, v = .agg (txcs t.1 (.slice t.2.1 t.2.2.1 t.2.2.2)).toArray ∧ ((t.1.dat.length ≤ 1048576 → t.1.Ok) ∧ Bytes W (.slice t.2.1 t.2.2.1 t.2.2.2) t.1.dat) ∧ t.1.dat.length ≤ Rows.uptoBulk d := by
  obtain ⟨cs, rfl, _⟩ := okWide_struct Try.underlying77 hv
  obtain ⟨fuel, hf⟩ := h
  obtain ⟨xs, n, hn, hx, hcl, hlen, hfi⟩ := DataW.trod_struct Try.underlying77 hf
  have c25 : Try.prog.cellsOf 77 = 25 := by kernel_rfl
  have c8 : Try.prog.cellsOf 54 = 8 := by kernel_rfl
  have c1 : Try.prog.cellsOf 4 = 1 := by kernel_rfl
  have c2 : Try.prog.cellsOf 44 = 1 := by kernel_rfl
  have c4 : Try.prog.cellsOf 48 = 4 := by kernel_rfl
  have c5 : Try.prog.cellsOf 22 = 1 := by kernel_rfl
  rw [c25] at hcl
  have hl : xs.length = 8 := hlen
  obtain ⟨l⟩ := cs
  change l.length = 25 at hcl
  change ∀ (i : Nat) (f : Field), _ → DataW.trod enc Try.prog W 0 (fun _ => true) true n f.type ((l.drop f.offset).take (Try.prog.cellsOf f.type)) = xs[i]? at hfi
  match xs, hl with
  | [y0, y1, y2, y3, y4, y5, y6, y7], _ =>
    have h0 := hfi 0 _ rfl
    have h1 := hfi 1 _ rfl
    have h2 := hfi 2 _ rfl
    have h3 := hfi 3 _ rfl
    have h4 := hfi 4 _ rfl
    have h5 := hfi 5 _ rfl
    have h6 := hfi 6 _ rfl
    have h7 := hfi 7 _ rfl
    change DataW.trod enc Try.prog W 0 (fun _ => true) true n 54 ((l.drop 0).take (Try.prog.cellsOf 54)) = some y0 at h0
    change DataW.trod enc Try.prog W 0 (fun _ => true) true n 54 ((l.drop 8).take (Try.prog.cellsOf 54)) = some y1 at h1
    change DataW.trod enc Try.prog W 0 (fun _ => true) true n 4 ((l.drop 16).take (Try.prog.cellsOf 4)) = some y2 at h2
    change DataW.trod enc Try.prog W 0 (fun _ => true) true n 44 ((l.drop 17).take (Try.prog.cellsOf 44)) = some y3 at h3
    change DataW.trod enc Try.prog W 0 (fun _ => true) true n 44 ((l.drop 18).take (Try.prog.cellsOf 44)) = some y4 at h4
    change DataW.trod enc Try.prog W 0 (fun _ => true) true n 44 ((l.drop 19).take (Try.prog.cellsOf 44)) = some y5 at h5
    change DataW.trod enc Try.prog W 0 (fun _ => true) true n 48 ((l.drop 20).take (Try.prog.cellsOf 48)) = some y6 at h6
    change DataW.trod enc Try.prog W 0 (fun _ => true) true n 22 ((l.drop 24).take (Try.prog.cellsOf 22)) = some y7 at h7
    obtain ⟨f0, l0, e0⟩ := open_f32 Try.underlying54 c8 h0
    obtain ⟨f1, l1, e1⟩ := open_f32 Try.underlying54 c8 h1
    obtain ⟨g, e2, _⟩ := DataW.trod_bool Try.underlying4 h2
    obtain ⟨u3, hu3, e3⟩ := open_f64 h3
    obtain ⟨u4, hu4, e4⟩ := open_f64 h4
    obtain ⟨u5, hu5, e5⟩ := open_f64 h5
    obtain ⟨N, hN, e6⟩ := open_word_at h6
    obtain ⟨dv, D, e7, r7, z7⟩ := open_bytes_at elU8.ht Try.underlying5 (by kernel_rfl) h7
    obtain ⟨da, dc, rfl, _, _⟩ := r7.form
    rw [c8] at e0 e1
    rw [c1] at e2
    rw [c2] at e3 e4 e5
    rw [c4] at e6
    rw [c5] at e7
    have hdd : d = .agg [y0.1, y1.1, y2.1, y3.1, y4.1, y5.1, y6.1, y7.1] := congrArg Prod.fst hx
    have q0 : l.drop 0 = l := rfl
    have q25 : l.drop 25 = [] := List.drop_eq_nil_of_le (by omega)
    refine ⟨⟨⟨f0, f1, g, u3, u4, u5, N, D⟩, da, D.length, dc⟩, ?_, ⟨fun hb => ⟨l0, l1, hu3, hu4, hu5, hN, hb⟩, r7⟩, ?_⟩
    · have : l = txcs ⟨f0, f1, g, u3, u4, u5, N, D⟩ (.slice da D.length dc) := by
        rw [← q0, piece l 0 8, e0, piece l (0 + 8) 8, e1, piece l (0 + 8 + 8) 1, e2, piece l (0 + 8 + 8 + 1) 1, e3, piece l (0 + 8 + 8 + 1 + 1) 1, e4, piece l (0 + 8 + 8 + 1 + 1 + 1) 1, e5, piece l (0 + 8 + 8 + 1 + 1 + 1 + 1) 4, e6, piece l (0 + 8 + 8 + 1 + 1 + 1 + 1 + 4) 1, e7, q25]
        rfl
      rw [← this]
    · have a7 := upto_sz z7
      rw [hdd]; simp only [Rows.uptoBulk, Rows.uptoBulkAll]; omega
end
end Go.Proofs.Ytnhbfnegpjkojaa
