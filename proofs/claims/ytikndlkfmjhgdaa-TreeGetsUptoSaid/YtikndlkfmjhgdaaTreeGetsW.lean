/- The walk of the law TreeGets. -/
import Derived.Test.YtikndlkfmjhgdaaGet6
set_option linter.unusedSimpArgs false
set_option linter.unusedVariables false
namespace Go.Proofs.Ytikndlkfmjhgdaa
open Go.RowKit
set_option maxHeartbeats 1000000 in
set_option maxRecDepth 100000 in
theorem treeGets_walk (t : Nd) (ka : Option Addr) (kc : Nat) (key : List UInt8) (w : World) (hI : IsNd w t) (hb : bulkN t ≤ 1048576) (hk : Bytes w (.slice ka key.length kc) key) :
    Calls Try.prog 8 #[.agg (ndcells t).toArray, .slice ka key.length kc] w fun e w' => e = .returned (.bool true) ∧ Below w.heap.size w w' := by
  obtain ⟨w1, hw1⟩ : ∃ w1, w1 = w.alloc (.cells (ndcells t).toArray 32) := ⟨_, rfl⟩
  have hz : Blk 32 w1 w.heap.size (ndcells t) := by rw [hw1]; exact Blk.new w _ _
  have hbel : Below w.heap.size w w1 := by rw [hw1]; exact (Below.refl _ _).alloc (Nat.le_refl _) _
  obtain ⟨kn, hkn⟩ : ∃ n, n = key.length := ⟨_, rfl⟩
  rw [← hkn] at hk ⊢
  have c1 := fun u (hu : Below w.heap.size w u) => tree_get_any t ka kn kc key hkn.symm u (hI.kept hu) hb (hk.below hu)
  have c2 := fun u (hu : Below w.heap.size w u) => gget_any t ka kn kc key hkn.symm u (hI.kept hu) hb (hk.below hu)
  have hKl := ndcells_len t
  obtain ⟨K, hK⟩ : ∃ K, K = ndcells t := ⟨_, rfl⟩
  obtain ⟨R, hR⟩ : ∃ R, R = gg t key := ⟨_, rfl⟩
  simp only [← hK, ← hR] at c1 c2 hz hKl hw1 ⊢
  have r1 := hz.all0
  have Hw1 := Lib.hid hw1
  have C1 := Lib.hid c1
  have C2 := Lib.hid c2
  have hbe : ∀ x : Int, (x == x) = true := fun x => beq_self_eq_true x
  clear hw1 c1 c2 hR hK hI hk hkn hb
  obtain ⟨l, E⟩ := R
  go_enter Try.func8, Try.ntmps8
  go_wp2_with (first
    | (refine wpList_loadW (o := ⟨some 10, _, _, _, _, _⟩) 32 (.tmp 2) (by rfl) w.heap.size 0 (by rfl) aggNode hKl (by rw [← Hw1.out]; exact r1) (by rfl) ?_)
    | (go_at_call 28; (with_reducible refine (C1.out _ (by rw [← Hw1.out]; exact hbel)).mono ?_); rintro e w2 ⟨a1, n1, c1, rfl, b2, h2⟩; rw [← Hw1.out] at b2; have bb2 := Below.then hbel b2; have r2 := (hz.kept b2).all0)
    | (refine wpList_loadW (o := ⟨some 16, _, _, _, _, _⟩) 32 (.tmp 2) (by rfl) w.heap.size 0 (by rfl) aggNode hKl r2 (by rfl) ?_)
    | (go_at_call 29; (with_reducible refine (C2.out _ bb2).mono ?_); rintro e w3 ⟨a2, n2, c2, rfl, b3, h3⟩; have bb3 := Below.then bb2 b3; have s1 := run_str (P := Try.prog) (src := 24) (dst := 9) elU8.ht (by kernel_rfl) (by kernel_rfl) (h2.below b3); have s2 := run_str (P := Try.prog) (src := 24) (dst := 9) elU8.ht (by kernel_rfl) (by kernel_rfl) h3))
  go_ret
  exact ⟨rfl, bb3⟩
end Go.Proofs.Ytikndlkfmjhgdaa
