/- The reference's TShr. -/
import Derived.Test.YtgmdbleeagfhpaaShift6
set_option linter.unusedSimpArgs false
set_option linter.unusedVariables false
namespace Go.Proofs.Ytgmdbleeagfhpaa
open Go.RowKit
set_option maxHeartbeats 800000 in
set_option maxRecDepth 100000 in
theorem tshr_any (N A : Nat) (hN : N < W256) (hA : A < W256) (w : World) : Calls Try.prog 26 #[wv N, wv A] w fun e w' => e = .returned (wv (A / 2 ^ N)) ∧ Below w.heap.size w w' := by
  obtain ⟨hb0, hd0, hz0, hbel0⟩ := box3 w N A
  obtain ⟨w1, hw1⟩ : ∃ w1, w1 = ((w.alloc (.cells (wcs N).toArray 24)).alloc (.cells (wcs A).toArray 24)).alloc (.cells z4.toArray 24) := ⟨_, rfl⟩
  rw [← hw1] at hb0 hd0 hz0 hbel0
  show Calls Try.prog 26 #[.agg (wcs N).toArray, .agg (wcs A).toArray] w _
  obtain ⟨p, hp⟩ : ∃ p, p = min N 256 := ⟨_, rfl⟩
  have hp256 : p ≤ 256 := by omega
  obtain ⟨q, hq⟩ : ∃ q, q = 256 - p := ⟨_, rfl⟩
  have hR : ofT ((bitsL A).drop p) = A / 2 ^ N := by
    rw [ofT_down A p hA]
    by_cases h : N ≤ 256
    · rw [hp, Nat.min_eq_left h]
    · rw [shr_far A N hA (by omega), shr_far A p hA (by omega)]
  have Hq := Lib.hid hq
  clear hq
  have c1 := fun w => places_any N hN w
  rw [← hp] at c1
  have C1 := Lib.hid c1
  have HR := Lib.hid hR
  have k0 := fun u : Ext w1 => u.cell (hb0.wat 0 (by omega))
  have k1 := fun u : Ext w1 => u.cell (hb0.wat 1 (by omega))
  have k2 := fun u : Ext w1 => u.cell (hb0.wat 2 (by omega))
  have k3 := fun u : Ext w1 => u.cell (hb0.wat 3 (by omega))
  have m0 := fun u : Ext w1 => u.cell (hd0.wat 0 (by omega))
  have m1 := fun u : Ext w1 => u.cell (hd0.wat 1 (by omega))
  have m2 := fun u : Ext w1 => u.cell (hd0.wat 2 (by omega))
  have m3 := fun u : Ext w1 => u.cell (hd0.wat 3 (by omega))
  have Hw1 := Lib.hid hw1
  clear c1 hp hR hw1
  go_enter Try.func26, Try.ntmps26
  go_wp2
  rw [show ((w.alloc (.cells (wcs N).toArray 24)).alloc (.cells (wcs A).toArray 24)).alloc (.cells #[.int .u64 0, .int .u64 0, .int .u64 0, .int .u64 0] 24) = w1 from by rw [Hw1.out]; rfl]
  clear Hw1
  refine wp_region_typed w1 6 (by kernel_rfl) (by kernel_rfl) (Below.refl _ _) ?_; simp only [List.take_succ_cons, List.take_zero, List.take_nil]
  (refine wpX_step (by rfl) (fun K hK => ?_); go_simp; first | (refine hK _ ?_; clear hK K) | (apply Exists.intro; refine ⟨fun _ => ?_, hK _ ?_⟩; fail; clear hK K))
  refine wpX_rel 6 (BoolsAt 256 (bitsL A)) rfl (of_decide_eq_true rfl) (BoolsAt.mono _ _) (fun w3 hw3 => ?_) ?_
  · simp only [relOf, List.filter_nil, forallRel]
    refine ⟨rfl, ?_⟩
    go_simp
    exact bitsOf_at A _
  (refine wpX_step (by rfl) (fun K hK => ?_); go_simp; first | (refine hK _ ?_; clear hK K) | (apply Exists.intro; refine ⟨fun _ => ?_, hK _ ?_⟩; fail; clear hK K))
  (refine wpX_step (by rfl) (fun K hK => ?_); go_simp; first | (refine hK _ ?_; clear hK K) | (apply Exists.intro; refine ⟨fun _ => ?_, hK _ ?_⟩; exact C1.out _; clear hK K))
  refine wpX_rel 9 (BoolsAt q ((bitsL A).drop p)) rfl (of_decide_eq_true rfl) (BoolsAt.mono _ _) (fun w3 hw3 => ?_) ?_
  · change forallRel w3 [(6, _)] _ _
    rintro v6 ⟨a6, c6, rfl, h6⟩
    simp only [forallRel]
    refine ⟨rfl, ?_⟩
    obtain ⟨a2, c2, hs2, hr2⟩ := RowOf.from elBool h6 p hp256 (p : Int) rfl
    rw [← Hq.out] at hs2 hr2
    clear k0 k1 k2 k3 m0 m1 m2 m3 hb0 hd0 hz0 hbel0 hw3 h6
    go_simp
    exact ⟨Below.refl _ _, a2, c2, rfl, hr2⟩
  refine wpX_eq (wv (A / 2 ^ N)) (fun w3 hw3 => ?_) ?_
  · change forallRel w3 [(9, _)] _ _
    rintro v9 ⟨a9, c9, rfl, h9⟩
    simp only [forallRel]
    refine ⟨rfl, ?_⟩
    go_simp
    refine (ofBits_l a9 q c9 _ _ (by rw [List.length_drop, bitsL_len, Hq.out]) HR.out _ h9).mono ?_
    rintro e w4 ⟨rfl, b⟩
    exact ⟨_, rfl, rfl, b⟩
  refine wpX_nil ?_
  intro w5 hw5 v6 _ v9 _
  change wpList _ _ _ [_] _ _
  have hz5 := hz0.kept hw5
  have hbel5 := Below.then hbel0 hw5
  clear k0 k1 k2 k3 m0 m1 m2 m3
  go_wp2_with (refine wpList_storeA (by rfl) 24 (.tmp 4) (.tmp 10) (by rfl) (w.heap.size + 2) (wcs (A / 2 ^ N)) (by rfl) (by rfl) aggWord hz5 (wcs_len _) (by first | exact wcs_len _ | rfl) (wcs_one _) (Below.refl _ _) (Nat.le_refl _) ?_; intro w7 hb7 b7 g7; have hbel7 := hbel5.trans (b7.mono (by omega)))
  exact bodyPost_ret (results_blk rfl _ _ (w.heap.size + 2) aggWord hb7 (wcs_len _) rfl) rfl ⟨rfl, hbel7⟩
end Go.Proofs.Ytgmdbleeagfhpaa
