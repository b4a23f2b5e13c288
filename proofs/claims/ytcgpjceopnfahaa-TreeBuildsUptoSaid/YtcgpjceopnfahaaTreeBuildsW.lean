/- The walk of the law TreeBuilds. -/
import Derived.Test.YtcgpjceopnfahaaBld3
set_option linter.unusedSimpArgs false
set_option linter.unusedVariables false
namespace Go.Proofs.Ytcgpjceopnfahaa
open Go.RowKit
set_option maxHeartbeats 2000000 in
set_option maxRecDepth 100000 in
theorem treeBuilds_walk (a : Option Addr) (n c : Nat) (ps : List Kvp) (hn : ps.length = n) (hN : n ≤ 1048576) (w : World) (h : RowOf kvc 2 w (.slice a n c) ps) (hk : ∀ p ∈ ps, IsKv w p) :
    Calls Try.prog 4 #[.slice a n c] w fun e w' => e = .returned (.bool true) ∧ Below w.heap.size w w' := by
  have hbk := bld_blk ps (by omega)
  have c1 := of_any a n c ps hn hN w h hk
  have c2 := fun u (hu : Below w.heap.size w u) => gof_any a n c ps hn hN u (h.below hu) (fun p hp => (hk p hp).kept hu)
  obtain ⟨L, hL⟩ : ∃ L, L = bldP ps := ⟨_, rfl⟩
  simp only [← hL] at c1 c2 hbk
  have cs := fun (t s : Nd) (u : World) (ht : IsNd u t) (hs : IsNd u s) (et : erN t = L.1) (es : erN s = L.1) => Calls.mono (same_any 100000000000 (Nat.le_refl _) (SizeOf.sizeOf t) t (Nat.le_refl _) s u ht hs (by rw [← blkP_er, et]; omega)) (R' := fun e w' => e = .returned (.bool true) ∧ Below u.heap.size u w') (fun e w' h => by rw [es, ← et, sameN_er] at h; exact h)
  have C1 := Lib.hid c1
  have C2 := Lib.hid c2
  have Cs := Lib.hid cs
  have hbe : ∀ x : Int, (x == x) = true := fun x => beq_self_eq_true x
  clear c1 c2 cs hL hbk h hk hn hN
  obtain ⟨P, E⟩ := L
  go_enter Try.func4, Try.ntmps4
  go_wp2_with (first
    | (go_at_call 10; (with_reducible refine C1.out.mono ?_); rintro e w2 ⟨t, rfl, it, et, b2⟩; have n2 := it.one; have tl := ndcells_len t)
    | ((with_reducible show wpList _ _ _ (⟨none, Op.store _ _ (Operand.tmp 10), _, _, _, _⟩ :: _) _ _); refine wpList_storeA (o := ⟨none, _, _, _, _, _⟩) (by rfl) 25 (.tmp 3) (.tmp 10) (by rfl) w2.heap.size (ndcells t) (by rfl) (by rfl) aggNode (Blk.new w2 25 (ndcells zN)) tl (by rfl) n2 ((Below.refl w2.heap.size w2).alloc (Nat.le_refl _) _) (Nat.le_refl _) ?_; intro w3 h3 b3 _; have bb3 := Below.then b2 b3; have it3 := it.kept b3)
    | (go_at_call 11; (with_reducible refine (C2.out _ bb3).mono ?_); rintro e w4 ⟨s, rfl, is, es, b4⟩; have bb4 := Below.then bb3 b4; have n4 := is.one; have sl := ndcells_len s; have it4 := it3.kept b4; have h4 := h3.kept b4)
    | ((with_reducible show wpList _ _ _ (⟨none, Op.store _ _ (Operand.tmp 15), _, _, _, _⟩ :: _) _ _); refine wpList_storeA (o := ⟨none, _, _, _, _, _⟩) (by rfl) 25 (.tmp 5) (.tmp 15) (by rfl) w4.heap.size (ndcells s) (by rfl) (by rfl) aggNode (Blk.new w4 25 (ndcells zN)) sl (by rfl) n4 ((Below.refl w4.heap.size w4).alloc (Nat.le_refl _) _) (Nat.le_refl _) ?_; intro w5 h5 b5 _; have bb5 := Below.then bb4 b5; have it5 := it4.kept b5; have is5 := is.kept b5; have r4 := (h4.kept b5).all0; have r5 := h5.all0; have CS := Cs.out t s w5 it5 is5 et es)
    | ((with_reducible show wpList _ _ _ (⟨some 21, _, _, _, _, _⟩ :: _) _ _); refine wpList_loadW (o := ⟨some 21, _, _, _, _, _⟩) 25 (.tmp 3) (by rfl) w2.heap.size 0 (by rfl) aggNode tl r4 (by rfl) ?_)
    | ((with_reducible show wpList _ _ _ (⟨some 22, _, _, _, _, _⟩ :: _) _ _); refine wpList_loadW (o := ⟨some 22, _, _, _, _, _⟩) 25 (.tmp 5) (by rfl) w4.heap.size 0 (by rfl) aggNode sl r5 (by rfl) ?_)
    | (go_at_call 9; (with_reducible refine CS.mono ?_); rintro e w6 ⟨rfl, b6⟩; have bb6 := Below.then bb5 b6))
  go_ret
  exact ⟨rfl, bb6⟩
end Go.Proofs.Ytcgpjceopnfahaa
