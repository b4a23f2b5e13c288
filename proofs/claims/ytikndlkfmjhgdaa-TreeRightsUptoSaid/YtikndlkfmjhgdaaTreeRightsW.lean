/- The walk of the law TreeRights. -/
import Derived.Test.YtikndlkfmjhgdaaGRight
set_option linter.unusedSimpArgs false
set_option linter.unusedVariables false
namespace Go.Proofs.Ytikndlkfmjhgdaa
open Go.RowKit
set_option maxHeartbeats 2000000 in
set_option maxRecDepth 100000 in
theorem treeRights_walk (t : Nd) (w : World) (hI : IsNd w t) (hb : bulkN t ≤ 1048576) : Calls Try.prog 7 #[.agg (ndcells t).toArray] w fun e w' => e = .returned (.bool true) ∧ Below w.heap.size w w' := by
  obtain ⟨w1, hw1⟩ : ∃ w1, w1 = w.alloc (.cells (ndcells t).toArray 32) := ⟨_, rfl⟩
  have hz : Blk 32 w1 w.heap.size (ndcells t) := by rw [hw1]; exact Blk.new w _ _
  have hbel : Below w.heap.size w w1 := by rw [hw1]; exact (Below.refl _ _).alloc (Nat.le_refl _) _
  have c1 := fun (u : Ext w1) => tree_right_any t u.val (u.nd (hI.kept hbel)) (by omega)
  have c2 := fun (u : Ext w1) => gright_any t u.val (u.nd (hI.kept hbel)) hb
  rw [gright_rgt t] at c2
  have hKl := ndcells_len t
  obtain ⟨K, hK⟩ : ∃ K, K = ndcells t := ⟨_, rfl⟩
  obtain ⟨R, hR⟩ : ∃ R, R = rgt 0 t := ⟨_, rfl⟩
  simp only [← hK, ← hR] at c1 c2 hz hKl hw1 ⊢
  have r1 := hz.all0
  have heq : (R == R) = true := beq_self_eq_true R
  have Hw1 := Lib.hid hw1
  have C1 := Lib.hid c1
  have C2 := Lib.hid c2
  have R1 := Lib.hid r1
  have HKl := Lib.hid hKl
  clear hw1 hK hR c1 c2 r1 hKl hz hI hb
  go_enter Try.func7, Try.ntmps7
  go_wp2_with fail
  rw [← Hw1.out]
  refine wp_region_typed w1 5 (by kernel_rfl) (by kernel_rfl) (Below.refl _ _) ?_; simp only [List.take_succ_cons, List.take_zero, List.take_nil]
  (refine wpX_step (by rfl) (fun K hK => ?_); rw [if_pos (by rfl)]; refine ⟨_, fun u => const_loadm _ (.tmp 1) (by rfl) _ _ (by rfl) aggNode HKl.out (rangeAt.ext R1.out u), hK _ ?_⟩; clear hK K; simp only [Act.put, List.setIfInBounds_toArray, List.set_cons_zero, List.set_cons_succ])
  (refine wpX_step (by rfl) (fun K hK => ?_); go_simp; first | (refine hK _ ?_; clear hK K) | (apply Exists.intro; refine ⟨fun _ => ?_, hK _ ?_⟩; exact C1.out _; clear hK K))
  (refine wpX_step (by rfl) (fun K hK => ?_); rw [if_pos (by rfl)]; refine ⟨_, fun u => const_loadm _ (.tmp 1) (by rfl) _ _ (by rfl) aggNode HKl.out (rangeAt.ext R1.out u), hK _ ?_⟩; clear hK K; simp only [Act.put, List.setIfInBounds_toArray, List.set_cons_zero, List.set_cons_succ])
  (refine wpX_step (by rfl) (fun K hK => ?_); go_simp; first | (refine hK _ ?_; clear hK K) | (apply Exists.intro; refine ⟨fun _ => ?_, hK _ ?_⟩; exact C2.out _; clear hK K))
  (refine wpX_step (by rfl) (fun K hK => ?_); go_simp; first | (refine hK _ ?_; clear hK K) | (apply Exists.intro; refine ⟨fun _ => ?_, hK _ ?_⟩; fail; clear hK K))
  refine wpX_nil ?_
  intro u2 hb2
  simp only [List.reverse_nil, forallRel]
  change wpList _ _ _ [_] _ _
  go_wp2_with fail
  go_ret
  exact ⟨rfl, Below.then hbel hb2⟩
end Go.Proofs.Ytikndlkfmjhgdaa
