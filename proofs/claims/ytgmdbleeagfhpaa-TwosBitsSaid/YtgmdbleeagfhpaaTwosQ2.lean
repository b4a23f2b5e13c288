/- Words with a sign: size, TBelow, SDivMod. -/
import Derived.Test.YtgmdbleeagfhpaaTwosQ1
set_option linter.unusedSimpArgs false
set_option linter.unusedVariables false
namespace Go.Proofs.Ytgmdbleeagfhpaa
open Go.RowKit
theorem negN_lt (N : Nat) : negN N < W256 := subN_lt 0 N
theorem neg_l (N : Nat) (hN : N < W256) (w : World) : Calls Try.prog 38 #[.agg (wcs N).toArray] w fun e w' => e = .returned (.agg (wcs (negN N)).toArray) ∧ Below w.heap.size w w' := neg_any N hN w
theorem tneg_l (N : Nat) (hN : N < W256) (w : World) : Calls Try.prog 39 #[.agg (wcs N).toArray] w fun e w' => e = .returned (.agg (wcs (negN N)).toArray) ∧ Below w.heap.size w w' := tneg_any N hN w
def sizeN (N : Nat) : Nat := if N.testBit 255 = true then negN N else N
theorem sizeN_lt (N : Nat) (hN : N < W256) : sizeN N < W256 := by unfold sizeN; split; exact negN_lt N; exact hN
set_option maxHeartbeats 400000 in
set_option maxRecDepth 100000 in
theorem size_any (N : Nat) (hN : N < W256) (w : World) : Calls Try.prog 65 #[wv N] w fun e w' => e = .returned (wv (sizeN N)) ∧ Below w.heap.size w w' := by
  obtain ⟨hb0, hz0, hbel0⟩ := box1r w N
  show Calls Try.prog 65 #[.agg (wcs N).toArray] w _
  cases hbit : N.testBit 255 with
  | true =>
    have Hbit := Lib.hid hbit
    clear hbit
    go_enter Try.func65, Try.ntmps65
    go_wp2_with (first
      | (refine wpList_loadA (o := ⟨some 3, _, _, _, _, _⟩) (by rfl) 24 (.tmp 1) (by rfl) (w.heap.size) (by rfl) aggWord hb0 (wcs_len _) ?_)
      | (go_at_call 66; (with_reducible refine (minus_l N true Hbit.out _).mono ?_); rintro e w1 ⟨rfl, b1⟩; have hb1 := hb0.kept b1; have hz1 := hz0.kept b1; have hbel1 := hbel0.trans (b1.mono hbel0.size))
      | (refine wpList_loadA (o := ⟨some 5, _, _, _, _, _⟩) (by rfl) 24 (.tmp 1) (by rfl) (w.heap.size) (by rfl) aggWord hb1 (wcs_len _) ?_)
      | (go_at_call 38; (with_reducible refine (neg_l N hN _).mono ?_); rintro e w2 ⟨rfl, b2⟩; have hz2 := hz1.kept b2; have hbel2 := hbel1.trans (b2.mono hbel1.size))
      | (refine wpList_storeA (by rfl) 24 (.tmp 2) (.tmp 6) (by rfl) (w.heap.size + 1) (wcs (negN N)) (by rfl) (by rfl) aggWord hz2 (wcs_len _) (by first | exact wcs_len _ | rfl) (wcs_one _) (Below.refl _ _) (Nat.le_refl _) ?_; intro w7 hb7 b7 g7; have hbel7 := hbel2.trans (b7.mono (by omega))))
    exact bodyPost_ret (results_blk rfl _ _ (w.heap.size + 1) aggWord hb7 (wcs_len _) rfl) rfl ⟨by unfold sizeN; rw [if_pos Hbit.out]; rfl, hbel7⟩
  | false =>
    have Hbit := Lib.hid hbit
    clear hbit
    go_enter Try.func65, Try.ntmps65
    go_wp2_with (first
      | (refine wpList_loadA (o := ⟨some 3, _, _, _, _, _⟩) (by rfl) 24 (.tmp 1) (by rfl) (w.heap.size) (by rfl) aggWord hb0 (wcs_len _) ?_)
      | (go_at_call 66; (with_reducible refine (minus_l N false Hbit.out _).mono ?_); rintro e w1 ⟨rfl, b1⟩; have hb1 := hb0.kept b1; have hz1 := hz0.kept b1; have hbel1 := hbel0.trans (b1.mono hbel0.size))
      | (refine wpList_loadA (o := ⟨some 7, _, _, _, _, _⟩) (by rfl) 24 (.tmp 1) (by rfl) (w.heap.size) (by rfl) aggWord hb1 (wcs_len _) ?_)
      | (refine wpList_storeA (by rfl) 24 (.tmp 2) (.tmp 7) (by rfl) (w.heap.size + 1) (wcs (N)) (by rfl) (by rfl) aggWord hz1 (wcs_len _) (by first | exact wcs_len _ | rfl) (wcs_one _) (Below.refl _ _) (Nat.le_refl _) ?_; intro w7 hb7 b7 g7; have hbel7 := hbel1.trans (b7.mono (by omega))))
    exact bodyPost_ret (results_blk rfl _ _ (w.heap.size + 1) aggWord hb7 (wcs_len _) rfl) rfl ⟨by unfold sizeN; rw [Hbit.out, if_neg (by simp)]; rfl, hbel7⟩
set_option maxHeartbeats 400000 in
set_option maxRecDepth 100000 in
theorem tbelow_any (N : Nat) (w : World) : Calls Try.prog 67 #[wv N] w fun e w' => e = .returned (.bool (N.testBit 255)) ∧ Below w.heap.size w w' := by
  have hb0 := boxW w N
  have hbel0 : Below w.heap.size w (w.alloc (.cells (wcs N).toArray 24)) := (Below.refl _ _).alloc (Nat.le_refl _) _
  show Calls Try.prog 67 #[.agg (wcs N).toArray] w _
  go_enter Try.func67, Try.ntmps67
  go_wp2_with (first
    | (refine wpList_loadA (o := ⟨some 3, _, _, _, _, _⟩) (by rfl) 24 (.tmp 1) (by rfl) (w.heap.size) (by rfl) aggWord hb0 (wcs_len _) ?_)
    | (go_at_call 75; (with_reducible refine (wbit255_l N _ rfl _).mono ?_); rintro e w1 ⟨rfl, b1⟩; have hbel1 := hbel0.trans (b1.mono hbel0.size)))
  go_ret
  exact ⟨rfl, hbel1⟩
theorem tbelow_l (N : Nat) (b : Bool) (hb : N.testBit 255 = b) (w : World) : Calls Try.prog 67 #[.agg (wcs N).toArray] w fun e w' => e = .returned (.bool b) ∧ Below w.heap.size w w' := by subst hb; exact tbelow_any N w
def sdq (N M : Nat) : Nat := if (N.testBit 255 != M.testBit 255) = true then negN (sizeN N / sizeN M) else sizeN N / sizeN M
def sdr (N M : Nat) : Nat := if N.testBit 255 = true then negN (modN (sizeN N) (sizeN M)) else modN (sizeN N) (sizeN M)
end Go.Proofs.Ytgmdbleeagfhpaa
