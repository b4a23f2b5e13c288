/- The walk of the law WordPowers. -/
import Derived.Test.YtbilninjiklpaaaWord18
import Derived.Test.YtbilninjiklpaaaWordBytesW
namespace Go.Proofs.Ytbilninjiklpaaa
open Go.RowKit
set_option maxHeartbeats 400000 in
set_option maxRecDepth 100000 in
theorem wordPowers_walk (A B : List Int) (hA : A.length = 4) (wA : ∀ x ∈ A, (Lit.int .u64 x).wf = true) (hB : B.length = 4) (wB : ∀ x ∈ B, (Lit.int .u64 x).wf = true) (w : World) :
    Calls Try.prog 9 #[.agg (A.map (Value.int .u64)).toArray, .agg (B.map (Value.int .u64)).toArray] w fun e w' => e = .returned (.bool true) ∧ Below w.heap.size w w' := by
  obtain ⟨N, hN, rfl⟩ := word_of A hA wA
  obtain ⟨M, hM, rfl⟩ := word_of B hB wB
  obtain ⟨hb3, hd3, hbel3⟩ := box2 w N M
  clear hA wA hB wB
  show Calls Try.prog 9 #[.agg (wcs N).toArray, .agg (wcs M).toArray] w _
  obtain ⟨w3, hw3⟩ : ∃ w3, w3 = (w.alloc (.cells (wcs N).toArray 24)).alloc (.cells (wcs M).toArray 24) := ⟨_, rfl⟩
  rw [← hw3] at hb3 hd3 hbel3
  have k0 := fun u : Ext w3 => u.cell (hb3.wat 0 (by omega))
  have k1 := fun u : Ext w3 => u.cell (hb3.wat 1 (by omega))
  have k2 := fun u : Ext w3 => u.cell (hb3.wat 2 (by omega))
  have k3 := fun u : Ext w3 => u.cell (hb3.wat 3 (by omega))
  have m0 := fun u : Ext w3 => u.cell (hd3.wat 0 (by omega))
  have m1 := fun u : Ext w3 => u.cell (hd3.wat 1 (by omega))
  have m2 := fun u : Ext w3 => u.cell (hd3.wat 2 (by omega))
  have m3 := fun u : Ext w3 => u.cell (hd3.wat 3 (by omega))
  have c1 := fun w => exp_any N M hN hM w
  have c2 := fun w => wexp_any N M hN hM w
  have q1 := qW (pw N M)
  have g1 := gW (pw N M) (pw N M)
  generalize wv (pw N M) = X1 at c1 c2 q1 g1
  have C1 := Lib.hid c1
  have C2 := Lib.hid c2
  clear c1 c2
  go_enter Try.func9, Try.ntmps9
  go_wp2
  rw [← hw3]
  clear hw3
  refine wp_region_typed w3 8 (by kernel_rfl) (by kernel_rfl) (Below.refl _ _) ?_; simp only [List.take_succ_cons, List.take_zero, List.take_nil]
  iterate 2 (refine wpX_step (by rfl) (fun K hK => ?_); go_simp; first | (refine hK _ ?_; clear hK K) | (apply Exists.intro; refine ⟨fun _ => ?_, hK _ ?_⟩; fail; clear hK K))
  (refine wpX_step (by rfl) (fun K hK => ?_); go_simp; first | (refine hK _ ?_; clear hK K) | (apply Exists.intro; refine ⟨fun _ => ?_, hK _ ?_⟩; exact C1.out _; clear hK K))
  iterate 2 (refine wpX_step (by rfl) (fun K hK => ?_); go_simp; first | (refine hK _ ?_; clear hK K) | (apply Exists.intro; refine ⟨fun _ => ?_, hK _ ?_⟩; fail; clear hK K))
  (refine wpX_step (by rfl) (fun K hK => ?_); go_simp; first | (refine hK _ ?_; clear hK K) | (apply Exists.intro; refine ⟨fun _ => ?_, hK _ ?_⟩; exact C2.out _; clear hK K))
  (refine wpX_step (by rfl) (fun K hK => ?_); rw [if_pos (by rfl)]; refine ⟨_, fun u => const_eql _ _ _ _ (by rfl) (by rfl) (by rfl) (fun o1 o2 w1 => g1 o1 o2 w1) (fun w1 => q1 w1), hK _ ?_⟩; clear hK K; simp only [Act.put, List.setIfInBounds_toArray, List.set_cons_zero, List.set_cons_succ])
  (refine wpX_step (by rfl) (fun K hK => ?_); go_simp; first | (refine hK _ ?_; clear hK K) | (apply Exists.intro; refine ⟨fun _ => ?_, hK _ ?_⟩; fail; clear hK K))
  refine wpX_end rfl ?_
  rintro w4 hw4
  simp only [List.reverse_nil, forallRel]
  go_wp2
  go_ret
  exact ⟨rfl, hbel3.trans (hw4.mono hbel3.size)⟩
end Go.Proofs.Ytbilninjiklpaaa
