/- The walk of the law PackNums. -/
import Derived.Test.YtbnghkhipmhojaaPack3
import Derived.Test.YtbnghkhipmhojaaWordBytesW
namespace Go.Proofs.Ytbnghkhipmhojaa
open Go.RowKit
set_option maxHeartbeats 400000 in
set_option maxRecDepth 100000 in
theorem packNums_walk (A : List Int) (hA : A.length = 4) (wA : ∀ x ∈ A, (Lit.int .u64 x).wf = true) (a : Option Addr) (c : Nat) (l : List UInt8) (w : World) (h : Bytes w (.slice a l.length c) l) :
    Calls Try.prog 11 #[.agg (A.map (Value.int .u64)).toArray, .slice a l.length c] w fun e w' => e = .returned (.bool true) ∧ Below w.heap.size w w' := by
  obtain ⟨N, hN, rfl⟩ := word_of A hA wA
  have hb0 := boxW w N
  have hbel0 : Below w.heap.size w (w.alloc (.cells (wcs N).toArray 40)) := (Below.refl _ _).alloc (Nat.le_refl _) _
  clear hA wA hN
  show Calls Try.prog 11 #[.agg (wcs N).toArray, .slice a l.length c] w _
  go_enter Try.func11, Try.ntmps11
  go_wp2_with (first
    | (go_at_call 52; refine (tonum_any a c l _ (h.alloc _)).mono ?_; rintro e w2 ⟨rfl, b2⟩; have hb2 := hb0.kept b2; have hbel2 := hbel0.trans (b2.mono hbel0.size))
    | (refine wpList_storeA rfl 40 (.tmp 5) (.tmp 12) rfl w2.heap.size (wcs (numV l)) rfl rfl aggWord (Blk.new w2 40 z4) (wcs_len _) rfl (wcs_one _) (Below.alloc (Below.refl w2.heap.size w2) (Nat.le_refl _) _) (Nat.le_refl _) ?_; intro w3 hx3 b3 _; have hb3 := hb2.kept b3; have hbel3 := hbel2.trans (b3.mono hbel2.size))
    | (go_at_call 53; refine (ptonum_any a c l _ (h.below hbel3)).mono ?_; rintro e w4 ⟨rfl, b4⟩; have hb4 := hb3.kept b4; have hx4 := hx3.kept b4; have hbel4 := hbel3.trans (b4.mono hbel3.size))
    | (refine wpList_storeA rfl 40 (.tmp 7) (.tmp 17) rfl w4.heap.size (wcs (numV l)) rfl rfl aggWord (Blk.new w4 40 z4) (wcs_len _) rfl (wcs_one _) (Below.alloc (Below.refl w4.heap.size w4) (Nat.le_refl _) _) (Nat.le_refl _) ?_; intro w5 hy5 b5 _; have hb5 := hb4.kept b5; have hx5 := hx4.kept b5; have hbel5 := hbel4.trans (b5.mono hbel4.size)))
  clear hb0 hbel0 b2 hb2 hbel2 hx3 b3 hb3 hbel3 b4 hb4 hx4 hbel4 b5 h
  have k0 := fun u : Ext w5 => u.cell (hb5.wat 0 (by omega))
  have k1 := fun u : Ext w5 => u.cell (hb5.wat 1 (by omega))
  have k2 := fun u : Ext w5 => u.cell (hb5.wat 2 (by omega))
  have k3 := fun u : Ext w5 => u.cell (hb5.wat 3 (by omega))
  have m0 := fun u : Ext w5 => u.cell (hx5.wat 0 (by omega))
  have m1 := fun u : Ext w5 => u.cell (hx5.wat 1 (by omega))
  have m2 := fun u : Ext w5 => u.cell (hx5.wat 2 (by omega))
  have m3 := fun u : Ext w5 => u.cell (hx5.wat 3 (by omega))
  have n0 := fun u : Ext w5 => u.cell (hy5.wat 0 (by omega))
  have n1 := fun u : Ext w5 => u.cell (hy5.wat 1 (by omega))
  have n2 := fun u : Ext w5 => u.cell (hy5.wat 2 (by omega))
  have n3 := fun u : Ext w5 => u.cell (hy5.wat 3 (by omega))
  have q1 : ∀ w1 : World, (binOp .eql 40 (.agg #[.int .u64 (lim (numV l) 0 : Int), .int .u64 (lim (numV l) 1 : Int), .int .u64 (lim (numV l) 2 : Int), .int .u64 (lim (numV l) 3 : Int)]) (.agg #[.int .u64 (lim (numV l) 0 : Int), .int .u64 (lim (numV l) 1 : Int), .int .u64 (lim (numV l) 2 : Int), .int .u64 (lim (numV l) 3 : Int)])).run Try.prog w1 = .ok (.bool true) w1 := qW (numV l)
  refine wp_region_typed w5 18 (by kernel_rfl) (by kernel_rfl) (Below.refl _ _) ?_; simp only [List.take_succ_cons, List.take_zero, List.take_nil]
  (refine wpX_step (by rfl) (fun K hK => ?_); go_simp; first | (refine hK _ ?_; clear hK K) | (apply Exists.intro; refine ⟨fun _ => ?_, hK _ ?_⟩; fail; clear hK K))
  refine wpX_rel 20 (fun v w1 => Bytes w1 v (numB N)) rfl (of_decide_eq_true rfl) (fun v w1 w2 h1 h2 => RowOf.kept h1 h2) (fun w1 hw1 => ?_) ?_
  · simp only [relOf, List.filter_nil, forallRel]
    refine ⟨rfl, ?_⟩
    go_simp
    refine (num_any N _).mono ?_
    rintro e w2 ⟨v, rfl, hv, hb⟩
    exact ⟨v, rfl, hv.row, hb⟩
  refine wpX_eq (str (numB N)) (fun w1 hw1 => ?_) ?_
  · change forallRel w1 [(20, _)] _ _
    intro v33 h33
    have hc := run_str (P := Try.prog) (w := w1) (src := 22) (dst := 9) elU8.ht (by kernel_rfl) (by kernel_rfl) h33
    simp only [forallRel]
    refine ⟨rfl, ?_⟩
    go_simp
    exact Below.refl _ _
  (refine wpX_step (by rfl) (fun K hK => ?_); go_simp; first | (refine hK _ ?_; clear hK K) | (apply Exists.intro; refine ⟨fun _ => ?_, hK _ ?_⟩; fail; clear hK K))
  refine wpX_rel 23 (fun v w1 => Bytes w1 v (numB N)) rfl (of_decide_eq_true rfl) (fun v w1 w2 h1 h2 => RowOf.kept h1 h2) (fun w1 hw1 => ?_) ?_
  · change forallRel w1 [] _ _
    simp only [forallRel]
    refine ⟨rfl, ?_⟩
    go_simp
    exact pnum_any N _
  refine wpX_eq (str (numB N)) (fun w1 hw1 => ?_) ?_
  · change forallRel w1 [(23, _)] _ _
    intro v33 h33
    have hc := run_str (P := Try.prog) (w := w1) (src := 22) (dst := 9) elU8.ht (by kernel_rfl) (by kernel_rfl) h33
    simp only [forallRel]
    refine ⟨rfl, ?_⟩
    go_simp
    exact Below.refl _ _
  iterate 12 (refine wpX_step (by rfl) (fun K hK => ?_); go_simp; first | (refine hK _ ?_; clear hK K) | (apply Exists.intro; refine ⟨fun _ => ?_, hK _ ?_⟩; fail; clear hK K))
  refine wpX_end rfl ?_
  rintro w6 hw6 v20 _ v23 _
  simp only [forallRel]
  go_wp2
  go_ret
  exact ⟨rfl, hbel5.trans (hw6.mono hbel5.size)⟩
end Go.Proofs.Ytbnghkhipmhojaa
