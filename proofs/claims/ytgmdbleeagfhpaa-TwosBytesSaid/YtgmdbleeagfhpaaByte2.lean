/- twos.Extend. -/
import Derived.Test.YtgmdbleeagfhpaaShift9
set_option linter.unusedSimpArgs false
set_option linter.unusedVariables false
namespace Go.Proofs.Ytgmdbleeagfhpaa
open Go.RowKit
def extN (N A : Nat) : Nat := if N < 31 then sarN (shlN A (8 * (31 - N))) (8 * (31 - N)) else A
set_option maxHeartbeats 800000 in
set_option maxRecDepth 100000 in
theorem extend_any (N A : Nat) (hN : N < W256) (hA : A < W256) (w : World) : Calls Try.prog 31 #[wv N, wv A] w fun e w' => e = .returned (wv (extN N A)) ∧ Below w.heap.size w w' := by
  obtain ⟨hb0, hd0, hz0, hbel0⟩ := box3 w N A
  obtain ⟨w1, hw1⟩ : ∃ w1, w1 = ((w.alloc (.cells (wcs N).toArray 24)).alloc (.cells (wcs A).toArray 24)).alloc (.cells z4.toArray 24) := ⟨_, rfl⟩
  rw [← hw1] at hb0 hd0 hz0 hbel0
  show Calls Try.prog 31 #[.agg (wcs N).toArray, .agg (wcs A).toArray] w _
  have Hw1 := Lib.hid hw1
  clear hw1
  have k0 := fun u : Ext w1 => u.cell (hb0.wat 0 (by omega))
  have k1 := fun u : Ext w1 => u.cell (hb0.wat 1 (by omega))
  have k2 := fun u : Ext w1 => u.cell (hb0.wat 2 (by omega))
  have k3 := fun u : Ext w1 => u.cell (hb0.wat 3 (by omega))
  obtain ⟨M, hM⟩ : ∃ M : Nat, M = 31 := ⟨_, rfl⟩
  have hMW : M < W256 := by rw [hM]; unfold W256; omega
  have c2 : ∀ w, Calls Try.prog 81 #[.int .u64 31] w fun e w' => e = .returned (wv M) ∧ Below w.heap.size w w' := fun w => by rw [hM]; exact int_any 31 (by omega) w
  have C2 := Lib.hid c2
  clear c2
  have c3 := fun w => cmp_any N M hN hMW w
  by_cases hlt : N < 31
  · rw [cmp_lt (by omega)] at c3
    have C3 := Lib.hid c3
    have hl0 : lim N 0 = N := by rw [lim0]; omega
    obtain ⟨D, hD⟩ : ∃ D, D = 31 - N := ⟨_, rfl⟩
    obtain ⟨S, hS⟩ : ∃ S, S = 8 * D := ⟨_, rfl⟩
    have e1 : (31 : Int) - (N : Int) = (D : Int) := by omega
    have e2 : (8 : Int) * (D : Int) = (S : Int) := by omega
    have ew1 : IntKind.u64.wrap (D : Int) = (D : Int) := by rw [IntKind.wrap_u64]; omega
    have ew2 : IntKind.u64.wrap (S : Int) = (S : Int) := by rw [IntKind.wrap_u64]; omega
    have hSW : S < W256 := by unfold W256; omega
    obtain ⟨X1, hX1⟩ : ∃ X, X = shlN A S := ⟨_, rfl⟩
    obtain ⟨X, hX⟩ : ∃ X, X = sarN X1 S := ⟨_, rfl⟩
    have HX := Lib.hid (show extN N A = X from by unfold extN; rw [if_pos hlt, hX, hX1, hS, hD])
    have c4 : ∀ w, Calls Try.prog 81 #[.int .u64 (S : Int)] w fun e w' => e = .returned (.agg (wcs S).toArray) ∧ Below w.heap.size w w' := fun w => int_any S (by omega) w
    have c5 := fun w => shl_any S A hSW w
    rw [← hX1] at c5
    have c6 := fun w => sar_any S X1 hSW (by rw [hX1]; exact shlN_lt _ _) w
    rw [← hX] at c6
    have C4 := Lib.hid c4
    have C5 := Lib.hid c5
    have C6 := Lib.hid c6
    have HL := Lib.hid hl0
    have hN31 : (N : Int) ≤ 30 := by omega
    clear c3 c4 c5 c6 hX hX1 hS hD hl0 hM hlt
    go_enter Try.func31, Try.ntmps31
    go_wp2
    rw [show ((w.alloc (.cells (wcs N).toArray 24)).alloc (.cells (wcs A).toArray 24)).alloc (.cells #[.int .u64 0, .int .u64 0, .int .u64 0, .int .u64 0] 24) = w1 from by rw [Hw1.out]; rfl]
    refine wp_region_typed w1 4 (by kernel_rfl) (by kernel_rfl) (Below.refl _ _) ?_; simp only [List.take_succ_cons, List.take_zero, List.take_nil]
    (refine wpX_step (by rfl) (fun K hK => ?_); go_simp; first | (refine hK _ ?_; clear hK K) | (apply Exists.intro; refine ⟨fun _ => ?_, hK _ ?_⟩; fail; clear hK K))
    (refine wpX_step (by rfl) (fun K hK => ?_); go_simp; first | (refine hK _ ?_; clear hK K) | (apply Exists.intro; refine ⟨fun _ => ?_, hK _ ?_⟩; exact C2.out _; clear hK K))
    (refine wpX_step (by rfl) (fun K hK => ?_); go_simp; first | (refine hK _ ?_; clear hK K) | (apply Exists.intro; refine ⟨fun _ => ?_, hK _ ?_⟩; exact C3.out _; clear hK K))
    (refine wpX_step (by rfl) (fun K hK => ?_); go_simp; first | (refine hK _ ?_; clear hK K) | (apply Exists.intro; refine ⟨fun _ => ?_, hK _ ?_⟩; fail; clear hK K))
    refine wpX_end rfl ?_
    rintro w4 hw4
    simp only [List.reverse_nil, forallRel]
    have hb4 := hb0.kept hw4
    have hd4 := hd0.kept hw4
    have hz4 := hz0.kept hw4
    have hbel4 := Below.then hbel0 hw4
    clear k0 k1 k2 k3 hw4
    have n0 := hb4.wat 0 (by omega)
    rw [HL.out] at n0
    go_wp2_with (first
      | (go_at_call 81; (with_reducible refine (C4.out _).mono ?_); rintro e w5 ⟨rfl, b5⟩; have q5 := (hz4.kept b5).lt)
      | (refine wpList_storeA (by rfl) 24 (.tmp 5) (.tmp 15) (by rfl) (w5.heap.size) (wcs (S)) (by rfl) (by rfl) aggWord (Blk.new w5 24 z4) (wcs_len _) (by first | exact wcs_len _ | rfl) (wcs_one _) (Below.refl _ _) (Nat.le_refl _) ?_; intro w6 o6 b6 g6; have hd6 := ((hd4.kept b5).alloc (.cells z4.toArray 24)).grown g6 (by simp; omega); have hz6 := ((hz4.kept b5).alloc (.cells z4.toArray 24)).grown g6 (by simp; omega); have hbel6 := ((Below.then hbel4 b5).alloc (by omega) (.cells z4.toArray 24)).trans (b6.mono (by omega))))
    have m0 := fun u : Ext w6 => u.cell (hd6.wat 0 (by omega))
    have m1 := fun u : Ext w6 => u.cell (hd6.wat 1 (by omega))
    have m2 := fun u : Ext w6 => u.cell (hd6.wat 2 (by omega))
    have m3 := fun u : Ext w6 => u.cell (hd6.wat 3 (by omega))
    have r0 := fun u : Ext w6 => u.cell (o6.wat 0 (by omega))
    have r1 := fun u : Ext w6 => u.cell (o6.wat 1 (by omega))
    have r2 := fun u : Ext w6 => u.cell (o6.wat 2 (by omega))
    have r3 := fun u : Ext w6 => u.cell (o6.wat 3 (by omega))
    clear b5 b6 g6 hb4 n0
    refine wp_region_typed w6 5 (by kernel_rfl) (by kernel_rfl) (Below.refl _ _) ?_; simp only [List.take_succ_cons, List.take_zero, List.take_nil]
    iterate 3 (refine wpX_step (by rfl) (fun K hK => ?_); go_simp; first | (refine hK _ ?_; clear hK K) | (apply Exists.intro; refine ⟨fun _ => ?_, hK _ ?_⟩; fail; clear hK K))
    (refine wpX_step (by rfl) (fun K hK => ?_); go_simp; first | (refine hK _ ?_; clear hK K) | (apply Exists.intro; refine ⟨fun _ => ?_, hK _ ?_⟩; exact C5.out _; clear hK K))
    (refine wpX_step (by rfl) (fun K hK => ?_); go_simp; first | (refine hK _ ?_; clear hK K) | (apply Exists.intro; refine ⟨fun _ => ?_, hK _ ?_⟩; exact C6.out _; clear hK K))
    refine wpX_nil ?_
    intro w8 hw8
    change wpList _ _ _ [_] _ _
    have hz8 := hz6.kept hw8
    have hbel8 := Below.then hbel6 hw8
    clear m0 m1 m2 m3 r0 r1 r2 r3
    go_wp2_with (refine wpList_storeA (by rfl) 24 (.tmp 4) (.tmp 20) (by rfl) (w.heap.size + 2) (wcs (X)) (by rfl) (by rfl) aggWord hz8 (wcs_len _) (by first | exact wcs_len _ | rfl) (wcs_one _) (Below.refl _ _) (Nat.le_refl _) ?_; intro w7 hb7 b7 g7; have hbel7 := hbel8.trans (b7.mono (by omega)))
    exact bodyPost_ret (results_blk rfl _ _ (w.heap.size + 2) aggWord hb7 (wcs_len _) rfl) rfl ⟨by rw [HX.out]; rfl, hbel7⟩
  · have HX := Lib.hid (show extN N A = A from if_neg hlt)
    have hcc : cmpI N M = 1 ∨ cmpI N M = 0 := by
      unfold cmpI
      rw [if_neg (by omega)]
      by_cases h : M < N
      · exact .inl (if_pos h)
      · exact .inr (if_neg h)
    clear hM hlt
    rcases hcc with hcc | hcc
    all_goals
      rw [hcc] at c3
      have C3 := Lib.hid c3
      clear c3 hcc
      go_enter Try.func31, Try.ntmps31
      go_wp2
      rw [show ((w.alloc (.cells (wcs N).toArray 24)).alloc (.cells (wcs A).toArray 24)).alloc (.cells #[.int .u64 0, .int .u64 0, .int .u64 0, .int .u64 0] 24) = w1 from by rw [Hw1.out]; rfl]
      refine wp_region_typed w1 4 (by kernel_rfl) (by kernel_rfl) (Below.refl _ _) ?_; simp only [List.take_succ_cons, List.take_zero, List.take_nil]
      (refine wpX_step (by rfl) (fun K hK => ?_); go_simp; first | (refine hK _ ?_; clear hK K) | (apply Exists.intro; refine ⟨fun _ => ?_, hK _ ?_⟩; fail; clear hK K))
      (refine wpX_step (by rfl) (fun K hK => ?_); go_simp; first | (refine hK _ ?_; clear hK K) | (apply Exists.intro; refine ⟨fun _ => ?_, hK _ ?_⟩; exact C2.out _; clear hK K))
      (refine wpX_step (by rfl) (fun K hK => ?_); go_simp; first | (refine hK _ ?_; clear hK K) | (apply Exists.intro; refine ⟨fun _ => ?_, hK _ ?_⟩; exact C3.out _; clear hK K))
      (refine wpX_step (by rfl) (fun K hK => ?_); go_simp; first | (refine hK _ ?_; clear hK K) | (apply Exists.intro; refine ⟨fun _ => ?_, hK _ ?_⟩; fail; clear hK K))
      refine wpX_end rfl ?_
      rintro w4 hw4
      simp only [List.reverse_nil, forallRel]
      have hb4 := hb0.kept hw4
      have hd4 := hd0.kept hw4
      have hz4 := hz0.kept hw4
      have hbel4 := Below.then hbel0 hw4
      clear k0 k1 k2 k3 hw4
      go_wp2_with (first
        | (refine wpList_loadA (o := ⟨some 10, _, _, _, _, _⟩) (by rfl) 24 (.tmp 3) (by rfl) (w.heap.size + 1) (by rfl) aggWord hd4 (wcs_len _) ?_)
        | (refine wpList_storeA (by rfl) 24 (.tmp 4) (.tmp 10) (by rfl) (w.heap.size + 2) (wcs (A)) (by rfl) (by rfl) aggWord hz4 (wcs_len _) (by first | exact wcs_len _ | rfl) (wcs_one _) (Below.refl _ _) (Nat.le_refl _) ?_; intro w7 hb7 b7 g7; have hbel7 := hbel4.trans (b7.mono (by omega))))
      exact bodyPost_ret (results_blk rfl _ _ (w.heap.size + 2) aggWord hb7 (wcs_len _) rfl) rfl ⟨by rw [HX.out]; rfl, hbel7⟩
end Go.Proofs.Ytgmdbleeagfhpaa
