/- root.shape of a fork. -/
import Derived.Test.YtnhbfnegpjkojaaRRead3
set_option linter.unusedSimpArgs false
set_option linter.unusedVariables false
namespace Go.Proofs.Ytnhbfnegpjkojaa
open Go.RowKit
theorem elTxt : El0 Try.prog 26 22 (.slice none 0 0) 1 24 tcell := ⟨by kernel_rfl, by kernel_rfl, rfl, by omega, fun _ => rfl⟩
theorem ShW.grown {w u u' : World} {box cs : List Value} {row : Option Nat} (h : ShW w box cs u) (hg : u.grownBy u' row) (hr : ∀ x, row = some x → w.heap.size + 2 ≤ x) : ShW w box cs u' :=
  ⟨h.hb.grown hg h.hb.size (fun x hx => by have := hr x hx; omega), h.hx.grown hg (fun e => by have := hr _ e; omega), h.hz.grown hg (fun e => by have := hr _ e; omega)⟩
/-- 's[:hi]' of elements of any cells -/
theorem to_any {α : Type} {f : α → List Value} {P : Program} {t e : TypeId} {z : Value} {size bytes : Nat} (el : El0 P t e z size bytes f) {w : World} {a : Option Addr} {n c : Nat} {l : List α} (h : RowOf f size w (.slice a n c) l) (hi : Nat) (h1 : hi ≤ n) (x : Int) (hx : x = hi) :
    ∃ a' c', (∀ k w', (Instr.slice t (.slice a n c) none (some (.int k x)) none).run P w' = .ok (.slice a' hi c') w') ∧ RowOf f size w (.slice a' hi c') (l.take hi) := by
  subst hx
  obtain ⟨hn, hnc, hcm⟩ := h.fits
  obtain ⟨a', c', h2, h3⟩ := h.part el.hf el.hsz 0 hi (Nat.zero_le _) h1
  obtain ⟨i, hi', _, hsi, _⟩ := el.info
  have hel : P.elem t = e := by unfold Program.elem; rw [el.ht]
  refine ⟨a', c', fun k w' => ?_, by simpa using h3⟩
  rw [run_slice_h (P := P) w' (t := t) (a := a) (len := n) (cap := c) (by rw [hel]; exact el.ht) k (hi : Int) (by omega) (by omega)]
  rw [hel]
  simp [sizeOf, typeInfo, hi', hsi] at h2 ⊢
  exact h2
end Go.Proofs.Ytnhbfnegpjkojaa
