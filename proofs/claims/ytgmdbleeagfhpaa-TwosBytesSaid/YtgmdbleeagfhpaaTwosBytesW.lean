/- The walk of the law TwosBytes. -/
import Derived.Test.YtgmdbleeagfhpaaByte1
import Derived.Test.YtgmdbleeagfhpaaByte3
import Derived.Test.YtgmdbleeagfhpaaWordBytesW
set_option linter.unusedSimpArgs false
set_option linter.unusedVariables false
namespace Go.Proofs.Ytgmdbleeagfhpaa
open Go.RowKit
set_option maxHeartbeats 1000000 in
set_option maxRecDepth 100000 in
theorem twosBytes_walk (A B : List Int) (hA : A.length = 4) (wA : ∀ x ∈ A, (Lit.int .u64 x).wf = true) (hB : B.length = 4) (wB : ∀ x ∈ B, (Lit.int .u64 x).wf = true) (w : World) :
    Calls Try.prog 6 #[.agg (A.map (Value.int .u64)).toArray, .agg (B.map (Value.int .u64)).toArray] w fun e w' => e = .returned (.bool true) ∧ Below w.heap.size w w' := by
  obtain ⟨N, hN, rfl⟩ := word_of A hA wA
  obtain ⟨M, hM, rfl⟩ := word_of B hB wB
  clear hA wA hB wB
  show Calls Try.prog 6 #[.agg (wcs N).toArray, .agg (wcs M).toArray] w _
  obtain ⟨hb3, hd3, hbel3⟩ := box2 w N M
  obtain ⟨w3, hw3⟩ : ∃ w3, w3 = (w.alloc (.cells (wcs N).toArray 24)).alloc (.cells (wcs M).toArray 24) := ⟨_, rfl⟩
  rw [← hw3] at hb3 hd3 hbel3
  have k0 := fun u : Ext w3 => u.cell (hb3.wat 0 (by omega))
  have k1 := fun u : Ext w3 => u.cell (hb3.wat 1 (by omega))
  have k2 := fun u : Ext w3 => u.cell (hb3.wat 2 (by omega))
  have k3 := fun u : Ext w3 => u.cell (hb3.wat 3 (by omega))
  have m0 := fun u : Ext w3 => u.cell (hd3.wat 0 (by omega))
  have m1 := fun u : Ext w3 => u.cell (hd3.wat 1 (by omega))
  have m2 := fun u : Ext w3 => u.cell (hd3.wat 2 (by omega))
  have m3 := fun u : Ext w3 => u.cell (hd3.wat 3 (by omega))
  have c1 := fun w => tbyte_any N M hN hM w
  have c2 := fun w => rbyte_any N M hN hM w
  have c3 := fun w => extend_any N M hN hM w
  have c4 := fun w => rextend_any N M hN hM w
  have q1 := qW (byteW N M)
  have g1 := gW (byteW N M) (byteW N M)
  have q2 := qW (extN N M)
  have g2 := gW (extN N M) (extN N M)
  generalize wv (byteW N M) = X1 at c1 c2 q1 g1
  generalize wv (extN N M) = X2 at c3 c4 q2 g2
  have C1 := Lib.hid c1
  have C2 := Lib.hid c2
  have C3 := Lib.hid c3
  have C4 := Lib.hid c4
  have Q1 := Lib.hid q1
  have G1 := Lib.hid g1
  have Q2 := Lib.hid q2
  have G2 := Lib.hid g2
  clear c1 c2 c3 c4 q1 q2 g1 g2
  go_enter Try.func6, Try.ntmps6
  go_wp2
  rw [← hw3]
  clear hw3
  refine wp_region_typed w3 17 (by kernel_rfl) (by kernel_rfl) (Below.refl _ _) ?_; simp only [List.take_succ_cons, List.take_zero, List.take_nil]
  iterate 2 (refine wpX_step (by rfl) (fun K hK => ?_); go_simp; first | (refine hK _ ?_; clear hK K) | (apply Exists.intro; refine ⟨fun _ => ?_, hK _ ?_⟩; fail; clear hK K))
  (refine wpX_step (by rfl) (fun K hK => ?_); go_simp; first | (refine hK _ ?_; clear hK K) | (apply Exists.intro; refine ⟨fun _ => ?_, hK _ ?_⟩; exact C1.out _; clear hK K))
  iterate 2 (refine wpX_step (by rfl) (fun K hK => ?_); go_simp; first | (refine hK _ ?_; clear hK K) | (apply Exists.intro; refine ⟨fun _ => ?_, hK _ ?_⟩; fail; clear hK K))
  (refine wpX_step (by rfl) (fun K hK => ?_); go_simp; first | (refine hK _ ?_; clear hK K) | (apply Exists.intro; refine ⟨fun _ => ?_, hK _ ?_⟩; exact C2.out _; clear hK K))
  (refine wpX_step (by rfl) (fun K hK => ?_); rw [if_pos (by rfl)]; refine ⟨_, fun u => const_eql _ _ _ _ (by rfl) (by rfl) (by rfl) (fun o1 o2 w1 => G1.out o1 o2 w1) (fun w1 => Q1.out w1), hK _ ?_⟩; clear hK K; simp only [Act.put, List.setIfInBounds_toArray, List.set_cons_zero, List.set_cons_succ])
  iterate 3 (refine wpX_step (by rfl) (fun K hK => ?_); go_simp; first | (refine hK _ ?_; clear hK K) | (apply Exists.intro; refine ⟨fun _ => ?_, hK _ ?_⟩; fail; clear hK K))
  (refine wpX_step (by rfl) (fun K hK => ?_); go_simp; first | (refine hK _ ?_; clear hK K) | (apply Exists.intro; refine ⟨fun _ => ?_, hK _ ?_⟩; exact C3.out _; clear hK K))
  iterate 2 (refine wpX_step (by rfl) (fun K hK => ?_); go_simp; first | (refine hK _ ?_; clear hK K) | (apply Exists.intro; refine ⟨fun _ => ?_, hK _ ?_⟩; fail; clear hK K))
  (refine wpX_step (by rfl) (fun K hK => ?_); go_simp; first | (refine hK _ ?_; clear hK K) | (apply Exists.intro; refine ⟨fun _ => ?_, hK _ ?_⟩; exact C4.out _; clear hK K))
  (refine wpX_step (by rfl) (fun K hK => ?_); rw [if_pos (by rfl)]; refine ⟨_, fun u => const_eql _ _ _ _ (by rfl) (by rfl) (by rfl) (fun o1 o2 w1 => G2.out o1 o2 w1) (fun w1 => Q2.out w1), hK _ ?_⟩; clear hK K; simp only [Act.put, List.setIfInBounds_toArray, List.set_cons_zero, List.set_cons_succ])
  iterate 2 (refine wpX_step (by rfl) (fun K hK => ?_); go_simp; first | (refine hK _ ?_; clear hK K) | (apply Exists.intro; refine ⟨fun _ => ?_, hK _ ?_⟩; fail; clear hK K))
  refine wpX_end rfl ?_
  rintro w4 hw4
  simp only [List.reverse_nil, forallRel]
  have hbel4 := hbel3.trans (hw4.mono hbel3.size)
  clear k0 k1 k2 k3 m0 m1 m2 m3
  go_wp2
  go_ret
  exact ⟨rfl, hbel4⟩
end Go.Proofs.Ytgmdbleeagfhpaa
