/- How a slice of operations on a memory that comes in is read. -/
import Derived.Test.YtakhaanenlblmaaMem7
import Derived.Test.YtakhaanenlblmaaOpenA
import Derived.Test.YtakhaanenlblmaaLits
import Derived.OpenShut
set_option linter.unusedSimpArgs false
set_option linter.unusedVariables false
namespace Go.Proofs.Ytakhaanenlblmaa
open Go.ChangeShapes Go.WideShapes Go.ChangeAt Go.RowKit
theorem word_ofM (A : List Int) (hl : A.length = 4) (hw : ∀ x ∈ A, (Lit.int .u64 x).wf = true) : ∃ N, N < W256 ∧ A = limI N := by
  match A, hl with
  | [x0, x1, x2, x3], _ =>
    have h0 := bounds_u64 (hw x0 (by simp))
    have h1 := bounds_u64 (hw x1 (by simp))
    have h2 := bounds_u64 (hw x2 (by simp))
    have h3 := bounds_u64 (hw x3 (by simp))
    obtain ⟨y0, rfl⟩ := Int.eq_ofNat_of_zero_le h0.1
    obtain ⟨y1, rfl⟩ := Int.eq_ofNat_of_zero_le h1.1
    obtain ⟨y2, rfl⟩ := Int.eq_ofNat_of_zero_le h2.1
    obtain ⟨y3, rfl⟩ := Int.eq_ofNat_of_zero_le h3.1
    clear hw
    refine ⟨y0 + 18446744073709551616 * y1 + 340282366920938463463374607431768211456 * y2 + 6277101735386680763835789423207666416102355444464034512896 * y3, by unfold W256; omega, ?_⟩
    unfold limI
    rw [lim0, lim1, lim2, lim3]
    congr 1
    · omega
    · congr 1
      · omega
      · congr 1
        · omega
        · congr 1; omega
section
variable {H : Type} {enc : TypeId × Value → H} {W : World}
theorem open_word_m {fuel : Nat} {cs : List Value} {x : DataW H × List MemPlace} (h : DataW.trod enc Try.prog W 0 (fun _ => true) true fuel 40 cs = some x) : ∃ N, N < W256 ∧ cs = wcs N := by
  obtain ⟨xs, e1, e2, e3⟩ := trod_arr Try.underlying40 Try.underlying36 (by kernel_rfl) (by kernel_rfl) h
  obtain ⟨N, hN, rfl⟩ := word_ofM xs e2 e3
  exact ⟨N, hN, e1⟩
theorem cellsMop : Try.prog.cellsOf 118 = 18 := by kernel_rfl
set_option maxRecDepth 100000 in
theorem open_memop {fuel : Nat} {cs : List Value} {x : DataW H × List MemPlace} (h : DataW.trod enc Try.prog W 0 (fun _ => true) true fuel 118 cs = some x) : ∃ o : Mop, cs = mopc o ∧ o.Ok ∧ Bytes W o.dv o.D := by
  obtain ⟨xs, n, hn, hx, hcl, hlen, hf⟩ := DataW.trod_struct Try.underlying118 h
  have c18 : Try.prog.cellsOf 118 = 18 := cellsMop
  have c4 : Try.prog.cellsOf 40 = 4 := by kernel_rfl
  have c1 : Try.prog.cellsOf 3 = 1 := by kernel_rfl
  have c2 : Try.prog.cellsOf 22 = 1 := by kernel_rfl
  have hl : xs.length = 6 := hlen
  rw [c18] at hcl
  match xs, hl with
  | [y0, y1, y2, y3, y4, y5], _ =>
    have h0 := hf 0 _ rfl
    have h1 := hf 1 _ rfl
    have h2 := hf 2 _ rfl
    have h3 := hf 3 _ rfl
    have h4 := hf 4 _ rfl
    have h5 := hf 5 _ rfl
    change DataW.trod enc Try.prog W 0 (fun _ => true) true n 3 ((cs.drop 0).take (Try.prog.cellsOf 3)) = some y0 at h0
    change DataW.trod enc Try.prog W 0 (fun _ => true) true n 40 ((cs.drop 1).take (Try.prog.cellsOf 40)) = some y1 at h1
    change DataW.trod enc Try.prog W 0 (fun _ => true) true n 40 ((cs.drop 5).take (Try.prog.cellsOf 40)) = some y2 at h2
    change DataW.trod enc Try.prog W 0 (fun _ => true) true n 40 ((cs.drop 9).take (Try.prog.cellsOf 40)) = some y3 at h3
    change DataW.trod enc Try.prog W 0 (fun _ => true) true n 40 ((cs.drop 13).take (Try.prog.cellsOf 40)) = some y4 at h4
    change DataW.trod enc Try.prog W 0 (fun _ => true) true n 22 ((cs.drop 17).take (Try.prog.cellsOf 22)) = some y5 at h5
    obtain ⟨k, e0, _, _⟩ := DataW.trod_int Try.underlying3 h0
    obtain ⟨A, hA, e1⟩ := open_word_m h1
    obtain ⟨F, hF, e2⟩ := open_word_m h2
    obtain ⟨L, hL, e3⟩ := open_word_m h3
    obtain ⟨X, hX, e4⟩ := open_word_m h4
    obtain ⟨dv, D, e5, r5, z5⟩ := open_bytes_at elU8.ht Try.underlying5 (by kernel_rfl) h5
    rw [c1] at e0
    rw [c4] at e1 e2 e3 e4
    rw [c2] at e5
    refine ⟨⟨k, A, F, L, X, dv, D⟩, ?_, ⟨hA, hF, hL, hX, ?_⟩, r5⟩
    · have q0 : cs.drop 0 = cs := rfl
      have q18 : cs.drop 18 = [] := List.drop_eq_nil_of_le (by omega)
      rw [← q0, piece cs 0 1, e0, piece cs (0 + 1) 4, e1, piece cs (0 + 1 + 4) 4, e2, piece cs (0 + 1 + 4 + 4) 4, e3, piece cs (0 + 1 + 4 + 4 + 4) 4, e4, piece cs (0 + 1 + 4 + 4 + 4 + 4) 1, e5, q18]
      rfl
    · have := r5.small
      unfold maxLen at this
      show D.length < _
      omega
set_option maxRecDepth 100000 in
theorem open_memops {r : Reach} {b0 : Nat} {v : Value} {d : DataW H} {p : List MemPlace}
    (hv : Value.okWide Try.prog W r b0 32 v) (h : DataW.Trod enc Try.prog W 0 (fun _ => true) true 32 v d p) :
    ∃ l : List Mop, RowOf mopc 18 W v l ∧ (∀ o ∈ l, o.Ok ∧ Bytes W o.dv o.D) ∧ Sz d l.length := by
  obtain ⟨fuel, hf⟩ := h
  obtain ⟨v', l, h1, h2, h3, h4⟩ := open_rows (f := mopc) (good := fun o => o.Ok ∧ Bytes W o.dv o.D) (sz := fun _ _ => True) (size := 18) Try.underlying32 cellsMop (by omega) mopc_len hf (fun n _ cs' x' hx => by
    obtain ⟨o, g1, g2, g3⟩ := open_memop hx
    exact ⟨o, g1, ⟨g2, g3⟩, trivial⟩)
  obtain rfl : v = v' := one_val h1 (by obtain ⟨a, len, cap, hh⟩ := okWide_slice Try.underlying32 hv; exact ⟨a, len, cap, hh⟩)
  exact ⟨l, h2, h3, h4.sz⟩
end
end Go.Proofs.Ytakhaanenlblmaa
