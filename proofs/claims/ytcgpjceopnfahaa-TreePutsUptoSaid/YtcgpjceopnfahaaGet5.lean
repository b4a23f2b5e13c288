/- tree.Get and the reference's GGet. -/
import Derived.Test.YtcgpjceopnfahaaGet4
import Derived.Test.YtcgpjceopnfahaaGrwB
import Derived.Test.YtcgpjceopnfahaaNibA
set_option linter.unusedSimpArgs false
set_option linter.unusedVariables false
namespace Go.Proofs.Ytcgpjceopnfahaa
open Go.RowKit
theorem halves_small (l : List UInt8) : ∀ x ∈ halvesL l, x.toNat < 16 := by
  intro x hx
  unfold halvesL at hx
  obtain ⟨y, _, hy⟩ := List.mem_flatMap.1 hx
  unfold halfB at hy
  have h256 := y.toNat_lt
  simp only [List.mem_cons, List.not_mem_nil, or_false] at hy
  rcases hy with rfl | rfl
  · rw [UInt8.toNat_div]
    show y.toNat / 16 < 16
    omega
  · rw [UInt8.toNat_mod]
    show y.toNat % 16 < 16
    omega
def GPost (R : List UInt8 × Int) (w : World) (e : Ending) (w' : World) : Prop := ∃ (a : Option Addr) (n c : Nat), e = .returned (.tuple #[.slice a n c, .int .i64 R.2]) ∧ Below w.heap.size w w' ∧ Bytes w' (.slice a n c) R.1
def gg (t : Nd) (key : List UInt8) : List UInt8 × Int := if rgt 0 t = false then ([], 1) else if 32 < key.length then ([], 3) else (getP t (halvesL key), 0)
set_option maxRecDepth 100000 in
theorem own_any (a : Option Addr) (n c : Nat) (l : List UInt8) (hl : n ≤ 1000000000) (w : World) (h : Bytes w (.slice a n c) l) : Calls Try.prog 32 #[.slice a n c] w (GtPost l w) := by
  have hnl := h.fits.1
  have hm0 : OwnOf b8 1 5 (w.alloc (.cells #[] 5)) w.heap.size (.slice (some ⟨w.heap.size, 0, none⟩) 0 0) [] := OwnOf.made b8 1 5 w w.heap.size [] #[] 0 rfl rfl rfl (Nat.le_refl _) (by unfold maxLen; omega)
  have bA : Below w.heap.size w (w.alloc (.cells #[] 5)) := (Below.refl _ _).alloc (Nat.le_refl _) _
  have h' := h.alloc (.cells #[] 5)
  have hlo := OwnOf.lt hm0
  go_enter Try.func32, Try.ntmps32
  go_wp2_with (refine wpList_appA (o := ⟨some 5, _, _, _, _, _⟩) (by rfl) (.tmp 3) (.tmp 4) 22 (by rfl) elU8 (by rfl) hm0 (by rfl) h' bA.size (by simp <;> omega) (by unfold maxLen; simp <;> omega) ?_; intro v5 w5 o5 g5 _; have b5 := bA.grown g5 bA.size hlo; obtain ⟨a5, c5, rfl, _⟩ := o5.form' l.length (by simp))
  go_ret
  exact ⟨a5, _, c5, rfl, b5, o5.row⟩
theorem getP_len : ∀ (n : Nat) (t : Nd), SizeOf.sizeOf t ≤ n → ∀ q, (getP t q).length ≤ bulkN t
  | 0, .mk kd pv p vv v kv ks, h, q => by simp at h
  | n + 1, .mk kd pv p vv v kv ks, h, q => by
    have hks : ∀ (i : Nat) (q : List UInt8), (getL ks i q).length ≤ bulkNL ks := by
      intro i q
      cases hi : ks[i]? with
      | none =>
        have : getL ks i q = [] := by
          clear h
          revert i
          induction ks with
          | nil => intro i _; rfl
          | cons k ks ih =>
            intro i hi
            cases i with
            | zero => simp at hi
            | succ i => unfold getL; exact ih i (by simpa using hi)
        rw [this]; simp
      | some k =>
        rw [getL_at hi]
        have hm := List.mem_of_getElem? hi
        have := List.sizeOf_lt_of_mem hm
        simp only [Nd.mk.sizeOf_spec] at h
        exact Nat.le_trans (getP_len n k (by omega) q) (bulkN_mem hm)
    unfold getP bulkN
    split
    · split
      · omega
      · simp
    · split
      · split
        · have := hks 0 (q.drop p.length); omega
        · simp
      · split
        · cases q with
          | nil => simp only; omega
          | cons x q => have := hks x.toNat q; simp only; omega
        · simp
end Go.Proofs.Ytcgpjceopnfahaa
