/- The reference's WDivMod, for every word. -/
import Derived.Test.YtgmdbleeagfhpaaWord22
set_option linter.unusedSimpArgs false
set_option linter.unusedVariables false
namespace Go.Proofs.Ytgmdbleeagfhpaa
open Go.RowKit
theorem wdm_all (N : Nat) (hN : N < W256) : ∀ k, WDM k N
  | 0 => fun M hM _ h _ => by rw [Nat.pow_zero, Nat.mul_one] at h; omega
  | k + 1 => wdm_step k N hN (wdm_all N hN k)
set_option maxHeartbeats 400000 in
set_option maxRecDepth 100000 in
theorem wdivmod_any (N M : Nat) (hN : N < W256) (hM : M < W256) (w : World) :
    Calls Try.prog 68 #[wv N, wv M] w fun e w' => e = .returned (.tuple #[wv (N / M), wv (modN N M)]) ∧ Below w.heap.size w w' := by
  by_cases hM0 : M = 0
  · obtain ⟨hb0, hd0, hr0⟩ := box4 w N M
    obtain ⟨w1, hw1⟩ : ∃ w1, w1 = (((w.alloc (.cells (wcs N).toArray 24)).alloc (.cells (wcs M).toArray 24)).alloc (.cells z4.toArray 24)).alloc (.cells z4.toArray 24) := ⟨_, rfl⟩
    rw [← hw1] at hb0 hd0 hr0
    show Calls Try.prog 68 #[.agg (wcs N).toArray, .agg (wcs M).toArray] w _
    have Hw1 := Lib.hid hw1
    have hq := eq_zero M hM
    rw [decide_eq_true hM0] at hq
    have HM0 := Lib.hid hM0
    clear hw1 hM0
    go_enter Try.func68, Try.ntmps68
    go_wp2_with (first
      | (rw [show (((w.alloc (.cells (wcs N).toArray 24)).alloc (.cells (wcs M).toArray 24)).alloc (.cells #[.int .u64 0, .int .u64 0, .int .u64 0, .int .u64 0] 24)).alloc (.cells #[.int .u64 0, .int .u64 0, .int .u64 0, .int .u64 0] 24) = w1 from by rw [Hw1.out]; rfl])
      | (refine wpList_loadA (o := ⟨some 6, _, _, _, _, _⟩) (by rfl) 24 (.tmp 3) (by rfl) (w.heap.size + 1) (by rfl) aggWord hd0 (wcs_len _) ?_)
      | (refine wpList_storeA (by rfl) 24 (.tmp 4) (.tmp 9) (by rfl) (w.heap.size + 2) (wcs (0)) (by rfl) (by rfl) aggWord hr0.q (wcs_len _) (by first | exact wcs_len _ | rfl) (wcs_one _) (Below.refl _ _) (Nat.le_refl _) ?_; intro w6 o6 b6 g6; have hr6 := hr0.st4 o6 b6 g6)
      | (refine wpList_storeA (by rfl) 24 (.tmp 5) (.tmp 10) (by rfl) (w.heap.size + 3) (wcs (0)) (by rfl) (by rfl) aggWord hr6.r (wcs_len _) (by first | exact wcs_len _ | rfl) (wcs_one _) (Below.refl _ _) (Nat.le_refl _) ?_; intro w7 o7 b7 g7; have hr7 := hr6.st5 o7 b7 g7))
    exact bodyPost_ret (results_blk2 rfl _ _ aggWord aggWord hr7.q hr7.r (wcs_len _) (wcs_len _) (by rfl) (by rfl)) rfl ⟨by rw [HM0.out, Nat.div_zero]; rfl, hr7.bel⟩
  · have h : modN N M = N % M := if_neg hM0
    rw [h]
    exact wdm_all N hN 256 M hM (Nat.pos_of_ne_zero hM0) (Nat.le_mul_of_pos_left _ (Nat.pos_of_ne_zero hM0)) w
end Go.Proofs.Ytgmdbleeagfhpaa
