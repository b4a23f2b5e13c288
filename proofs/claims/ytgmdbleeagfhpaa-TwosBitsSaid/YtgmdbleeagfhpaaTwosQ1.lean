/- Words with a sign: Neg, size, SDivMod. -/
import Derived.Test.YtgmdbleeagfhpaaWord23
set_option linter.unusedSimpArgs false
set_option linter.unusedVariables false
namespace Go.Proofs.Ytgmdbleeagfhpaa
open Go.RowKit
theorem minus_eq' (N : Nat) : (lim N 3 / 9223372036854775808 == 1) = N.testBit 255 := by
  have h := lim_bit N 255
  rw [← h]
  have hl := lim_lt N 3
  show (lim N 3 / 9223372036854775808 == 1) = (lim N 3 / 2 ^ 63 % 2 == 1)
  rw [show (2 : Nat) ^ 63 = 9223372036854775808 from rfl, Nat.mod_eq_of_lt (by omega)]
set_option maxHeartbeats 400000 in
set_option maxRecDepth 100000 in
theorem minus_any (N : Nat) (w : World) : Calls Try.prog 66 #[wv N] w fun e w' => e = .returned (.bool (N.testBit 255)) ∧ Below w.heap.size w w' := by
  have hb0 := boxW w N
  have hbel0 : Below w.heap.size w (w.alloc (.cells (wcs N).toArray 24)) := (Below.refl _ _).alloc (Nat.le_refl _) _
  show Calls Try.prog 66 #[.agg (wcs N).toArray] w _
  have hm := minus_eq' N
  have hc := hb0.wat 3 (by omega)
  have hl := lim_lt N 3
  generalize lim N 3 = x at *
  obtain ⟨y, hy⟩ : ∃ y, y = x / 9223372036854775808 := ⟨_, rfl⟩
  have e1 : (x : Int) / 9223372036854775808 = (y : Int) := by omega
  rw [← hy] at hm
  have e2 : ((y : Int) == 1) = N.testBit 255 := by rw [← hm, Bool.eq_iff_iff]; simp; omega
  clear hm hy
  go_enter Try.func66, Try.ntmps66
  go_wp2
  go_ret
  exact ⟨rfl, hbel0⟩
theorem minus_l (N : Nat) (b : Bool) (hb : N.testBit 255 = b) (w : World) : Calls Try.prog 66 #[.agg (wcs N).toArray] w fun e w' => e = .returned (.bool b) ∧ Below w.heap.size w w' := by subst hb; exact minus_any N w
theorem box1r (w : World) (N : Nat) : Blk 24 ((w.alloc (.cells (wcs N).toArray 24)).alloc (.cells z4.toArray 24)) w.heap.size (wcs N) ∧
    Blk 24 ((w.alloc (.cells (wcs N).toArray 24)).alloc (.cells z4.toArray 24)) (w.heap.size + 1) z4 ∧ Below w.heap.size w ((w.alloc (.cells (wcs N).toArray 24)).alloc (.cells z4.toArray 24)) := by
  refine ⟨(boxW w N).alloc _, ?_, ((Below.refl _ _).alloc (Nat.le_refl _) _).alloc (by simp) _⟩
  have := Blk.new (w.alloc (.cells (wcs N).toArray 24)) 24 z4
  simpa using this
def negN (N : Nat) : Nat := subN 0 N
theorem sub_zero_l (N : Nat) (hN : N < W256) (w : World) : Calls Try.prog 80 #[.agg #[.int .u64 0, .int .u64 0, .int .u64 0, .int .u64 0], .agg (wcs N).toArray] w fun e w' => e = .returned (.agg (wcs (negN N)).toArray) ∧ Below w.heap.size w w' := by
  have := sub_any 0 N hN w
  unfold wv at this
  rw [z4_zero] at this; exact this
theorem wsub_zero_l (N : Nat) (hN : N < W256) (w : World) : Calls Try.prog 91 #[.agg #[.int .u64 0, .int .u64 0, .int .u64 0, .int .u64 0], .agg (wcs N).toArray] w fun e w' => e = .returned (.agg (wcs (negN N)).toArray) ∧ Below w.heap.size w w' := by
  have := wsub_any 0 N (by unfold W256; omega) hN w
  unfold wv at this
  rw [z4_zero] at this; exact this
set_option maxHeartbeats 400000 in
set_option maxRecDepth 100000 in
theorem neg_any (N : Nat) (hN : N < W256) (w : World) : Calls Try.prog 38 #[wv N] w fun e w' => e = .returned (wv (negN N)) ∧ Below w.heap.size w w' := by
  obtain ⟨hb0, hz0, hbel0⟩ := box1r w N
  show Calls Try.prog 38 #[.agg (wcs N).toArray] w _
  go_enter Try.func38, Try.ntmps38
  go_wp2_with (first
    | (refine wpList_loadA (o := ⟨some 4, _, _, _, _, _⟩) (by rfl) 24 (.tmp 1) (by rfl) (w.heap.size) (by rfl) aggWord hb0 (wcs_len _) ?_)
    | (go_at_call 80; (with_reducible refine (sub_zero_l N hN _).mono ?_); rintro e w2 ⟨rfl, b2⟩; have hz2 := hz0.kept b2; have hbel2 := hbel0.trans (b2.mono hbel0.size))
    | (refine wpList_storeA (by rfl) 24 (.tmp 2) (.tmp 5) (by rfl) (w.heap.size + 1) (wcs (negN N)) (by rfl) (by rfl) aggWord hz2 (wcs_len _) (by first | exact wcs_len _ | rfl) (wcs_one _) (Below.refl _ _) (Nat.le_refl _) ?_; intro w7 hb7 b7 g7; have hbel7 := hbel2.trans (b7.mono (by omega))))
  exact bodyPost_ret (results_blk rfl _ _ (w.heap.size + 1) aggWord hb7 (wcs_len _) rfl) rfl ⟨rfl, hbel7⟩
set_option maxHeartbeats 400000 in
set_option maxRecDepth 100000 in
theorem tneg_any (N : Nat) (hN : N < W256) (w : World) : Calls Try.prog 39 #[wv N] w fun e w' => e = .returned (wv (negN N)) ∧ Below w.heap.size w w' := by
  obtain ⟨hb0, hz0, hbel0⟩ := box1r w N
  show Calls Try.prog 39 #[.agg (wcs N).toArray] w _
  go_enter Try.func39, Try.ntmps39
  go_wp2_with (first
    | (refine wpList_loadA (o := ⟨some 4, _, _, _, _, _⟩) (by rfl) 24 (.tmp 1) (by rfl) (w.heap.size) (by rfl) aggWord hb0 (wcs_len _) ?_)
    | (go_at_call 91; (with_reducible refine (wsub_zero_l N hN _).mono ?_); rintro e w2 ⟨rfl, b2⟩; have hz2 := hz0.kept b2; have hbel2 := hbel0.trans (b2.mono hbel0.size))
    | (refine wpList_storeA (by rfl) 24 (.tmp 2) (.tmp 5) (by rfl) (w.heap.size + 1) (wcs (negN N)) (by rfl) (by rfl) aggWord hz2 (wcs_len _) (by first | exact wcs_len _ | rfl) (wcs_one _) (Below.refl _ _) (Nat.le_refl _) ?_; intro w7 hb7 b7 g7; have hbel7 := hbel2.trans (b7.mono (by omega))))
  exact bodyPost_ret (results_blk rfl _ _ (w.heap.size + 1) aggWord hb7 (wcs_len _) rfl) rfl ⟨rfl, hbel7⟩
end Go.Proofs.Ytgmdbleeagfhpaa
