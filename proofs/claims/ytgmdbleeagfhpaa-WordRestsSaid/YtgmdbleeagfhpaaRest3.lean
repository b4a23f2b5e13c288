/- word.MulMod, word.AddMod. -/
import Derived.Test.YtgmdbleeagfhpaaRest2
import Derived.Deep.RegionLawGrows
set_option linter.unusedSimpArgs false
set_option linter.unusedVariables false
namespace Go.Proofs.Ytgmdbleeagfhpaa
open Go.RowKit
theorem wsum_l (N M : Nat) (w : World) : Calls Try.prog 71 #[.agg (wcs N).toArray, .agg (wcs M).toArray] w fun e w' => e = .returned (.tuple #[.agg (wcs (addN N M)).toArray, .int .u64 (car 64 N M 4 : Int)]) ∧ Below w.heap.size w w' := wsum_any N M w
theorem one_n64 : ∀ x : Nat, ∀ u ∈ n64 x, u.oneCell' = true := by intro x u hu; simp [n64] at hu; subst hu; rfl
theorem elU64 : El Try.prog 82 22 (.int .u64 0) 1 8 n64 := ⟨by kernel_rfl, by kernel_rfl, rfl, by omega, fun _ => rfl, one_n64⟩
theorem car_whole (N M : Nat) (hN : N < W256) (hM : M < W256) : addN N M + W256 * car 64 N M 4 = N + M := by
  have h : car 64 N M 4 = (N + M) / W256 := by
    unfold car
    rw [show 2 ^ (64 * 4) = W256 from rfl, Nat.mod_eq_of_lt hN, Nat.mod_eq_of_lt hM]
  rw [h]; unfold addN
  have := Nat.div_add_mod (N + M) W256
  omega
theorem valL_sum (N M : Nat) (hN : N < W256) (hM : M < W256) : valL [lim (addN N M) 0, lim (addN N M) 1, lim (addN N M) 2, lim (addN N M) 3, car 64 N M 4] = N + M := by
  have h1 := lim_sum (addN N M) (addN_lt N M)
  have h2 := car_whole N M hN hM
  simp only [valL]
  unfold B64; unfold W256 at h2
  omega
theorem drew_zero (w : World) : True := trivial
set_option maxHeartbeats 1000000 in
set_option maxRecDepth 100000 in
theorem mulmod_any (N M P : Nat) (hN : N < W256) (hM : M < W256) (hP : P < W256) (w : World) :
    Calls Try.prog 21 #[wv N, wv M, wv P] w fun e w' => e = .returned (wv (modN (N * M) P)) ∧ Below w.heap.size w w' := by
  have hF := box33 w N M P
  obtain ⟨w1, hw1⟩ : ∃ w1, w1 = (((w.alloc (.cells (wcs N).toArray 24)).alloc (.cells (wcs M).toArray 24)).alloc (.cells (wcs P).toArray 24)).alloc (.cells z4.toArray 24) := ⟨_, rfl⟩
  rw [← hw1] at hF
  have Hw1 := Lib.hid hw1
  show Calls Try.prog 21 #[.agg (wcs N).toArray, .agg (wcs M).toArray, .agg (wcs P).toArray] w _
  have hq := eq_zero P hP
  clear hw1
  by_cases hP0 : P = 0
  · rw [decide_eq_true hP0] at hq
    have HS := Lib.hid (show modN (N * M) P = 0 from if_pos hP0)
    clear hP0
    go_enter Try.func21, Try.ntmps21
    go_wp2_with (first
      | (rw [show (((w.alloc (.cells (wcs N).toArray 24)).alloc (.cells (wcs M).toArray 24)).alloc (.cells (wcs P).toArray 24)).alloc (.cells #[.int .u64 0, .int .u64 0, .int .u64 0, .int .u64 0] 24) = w1 from by rw [Hw1.out]; rfl])
      | (refine wpList_loadA (o := ⟨some 8, _, _, _, _, _⟩) (by rfl) 24 (.tmp 5) (by rfl) (w.heap.size + 2) (by rfl) aggWord hF.c (wcs_len _) ?_)
      | (refine wpList_loadA (o := ⟨some 11, _, _, _, _, _⟩) (by rfl) 24 (.tmp 6) (by rfl) (w.heap.size + 3) (by rfl) aggWord hF.r (wcs_len _) ?_)
      | (refine wpList_storeA (by rfl) 24 (.tmp 6) (.tmp 11) (by rfl) (w.heap.size + 3) (wcs (0)) (by rfl) (by rfl) aggWord hF.r (wcs_len _) (by first | exact wcs_len _ | rfl) (wcs_one _) (Below.refl _ _) (Nat.le_refl _) ?_; intro w7 o7 b7 g7; have hF7 := hF.put o7 b7 g7))
    exact bodyPost_ret (results_blk rfl _ _ (w.heap.size + 3) aggWord hF7.r (wcs_len _) rfl) rfl ⟨by rw [HS.out]; rfl, hF7.bel⟩
  · rw [decide_eq_false hP0] at hq
    have hpos : 0 < P := Nat.pos_of_ne_zero hP0
    rw [modN_pos hpos]
    have hcon : ∀ (D : List Nat) (g : Nat) (u : World), D.length = 8 → (∀ d ∈ D, d < B64) → valL D = N * M → Nums u (.slice (some ⟨g, 0, none⟩) 8 8) D →
        Calls Try.prog 72 #[.slice (some ⟨g, 0, none⟩) 8 8, wv P] u fun e w' => e = .returned (.tuple #[wv (N * M / P % W256), wv (N * M % P)]) ∧ Below u.heap.size u w' := by
      intro D g u h8 hB hv hr
      have := divide_any (some ⟨g, 0, none⟩) 8 D (by omega) hB P hP hpos u (by rw [h8]; exact hr)
      rw [h8, hv] at this; exact this
    have Hcon := Lib.hid hcon
    clear hP0 hpos hcon
    go_enter Try.func21, Try.ntmps21
    go_wp2_with (first
      | (rw [show (((w.alloc (.cells (wcs N).toArray 24)).alloc (.cells (wcs M).toArray 24)).alloc (.cells (wcs P).toArray 24)).alloc (.cells #[.int .u64 0, .int .u64 0, .int .u64 0, .int .u64 0] 24) = w1 from by rw [Hw1.out]; rfl])
      | (refine wpList_loadA (o := ⟨some 8, _, _, _, _, _⟩) (by rfl) 24 (.tmp 5) (by rfl) (w.heap.size + 2) (by rfl) aggWord hF.c (wcs_len _) ?_)
      | (refine wpList_loadA (o := ⟨some 12, _, _, _, _, _⟩) (by rfl) 24 (.tmp 3) (by rfl) (w.heap.size) (by rfl) aggWord hF.a (wcs_len _) ?_)
      | (refine wpList_loadA (o := ⟨some 13, _, _, _, _, _⟩) (by rfl) 24 (.tmp 4) (by rfl) (w.heap.size + 1) (by rfl) aggWord hF.b (wcs_len _) ?_)
      | (go_at_call 74; (with_reducible refine (product_l N M hN hM _).mono ?_); rintro e w2 ⟨D, rfl, hD, hB, hv, b2⟩; have hF2 := hF.kept b2; have hs2 := hF2.size; have HD := Lib.hid hD; have Hv := Lib.hid hv; clear hD hv)
      | (refine wpList_storeA (by rfl) 83 (.tmp 7) (.tmp 14) (by rfl) w2.heap.size (pcs D) (by rfl) (by rfl) agg8 (Blk.new w2 83 z8) (by rw [pcs_len]; exact HD.out) (by rfl) (pcs_one _) (Below.alloc (Below.refl w2.heap.size w2) (Nat.le_refl _) _) (Nat.le_refl _) ?_; intro w3 h3 b3 _; have hF3 := hF2.kept b3))
    have m0 := fun u : Ext w3 => u.cell (hF3.c.wat 0 (by omega))
    have m1 := fun u : Ext w3 => u.cell (hF3.c.wat 1 (by omega))
    have m2 := fun u : Ext w3 => u.cell (hF3.c.wat 2 (by omega))
    have m3 := fun u : Ext w3 => u.cell (hF3.c.wat 3 (by omega))
    have hrow : Nums w3 (.slice (some ⟨w2.heap.size, 0, none⟩) 8 8) D := h3.row D 8 8 (fun _ => rfl) HD.out (fun j u hj => by
      have : D.flatMap n64 = pcs D := One.map (f := n64) (c1 := fun d : Nat => .int .u64 (d : Int)) (fun _ => rfl) D
      rw [this] at hj; exact hj) (Nat.le_refl _) (by unfold maxLen; omega)
    refine wp_region_typed w3 6 (by kernel_rfl) (by kernel_rfl) (Below.refl _ _) ?_; simp only [List.take_succ_cons, List.take_zero, List.take_nil]
    iterate 2 (refine wpX_step (by rfl) (fun K hK => ?_); go_simp; first | (refine hK _ ?_; clear hK K) | (apply Exists.intro; refine ⟨fun _ => ?_, hK _ ?_⟩; fail; clear hK K))
    (refine wpX_step (by rfl) (fun K hK => ?_); go_simp; first | (refine hK _ ?_; clear hK K) | (apply Exists.intro; refine ⟨fun _ => ?_, hK _ ?_⟩; exact Hcon.out D _ _ HD.out hB Hv.out (Ext.row _ hrow); clear hK K))
    iterate 3 (refine wpX_step (by rfl) (fun K hK => ?_); go_simp; first | (refine hK _ ?_; clear hK K) | (apply Exists.intro; refine ⟨fun _ => ?_, hK _ ?_⟩; fail; clear hK K))
    refine wpX_nil ?_
    intro w5 hw5
    change wpList _ _ _ [_] _ _
    have hF5 := hF3.kept hw5
    clear m0 m1 m2 m3
    go_wp2_with (first
      | (refine wpList_storeA (by rfl) 24 (.tmp 6) (.tmp 20) (by rfl) (w.heap.size + 3) (wcs (N * M % P)) (by rfl) (by rfl) aggWord hF5.r (wcs_len _) (by first | exact wcs_len _ | rfl) (wcs_one _) (Below.refl _ _) (Nat.le_refl _) ?_; intro w7 o7 b7 g7; have hF7 := hF5.put o7 b7 g7)
      | (refine wpList_loadA (o := ⟨some 21, _, _, _, _, _⟩) (by rfl) 24 (.tmp 6) (by rfl) (w.heap.size + 3) (by rfl) aggWord hF7.r (wcs_len _) ?_)
      | (refine wpList_storeA (by rfl) 24 (.tmp 6) (.tmp 21) (by rfl) (w.heap.size + 3) (wcs (N * M % P)) (by rfl) (by rfl) aggWord hF7.r (wcs_len _) (by first | exact wcs_len _ | rfl) (wcs_one _) (Below.refl _ _) (Nat.le_refl _) ?_; intro w8 o8 b8 g8; have hF8 := hF7.put o8 b8 g8))
    exact bodyPost_ret (results_blk rfl _ _ (w.heap.size + 3) aggWord hF8.r (wcs_len _) rfl) rfl ⟨rfl, hF8.bel⟩
end Go.Proofs.Ytgmdbleeagfhpaa
