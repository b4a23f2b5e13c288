/- The reference's WLess and WCmp. -/
import Derived.Test.YtohenjgegkgncaaWord3
set_option linter.unusedSimpArgs false
set_option linter.unusedVariables false
namespace Go.Proofs.Ytohenjgegkgncaa
open Go.RowKit
theorem Ext.loadA {P : Program} {w0 : World} {ty : TypeId} {n : Nat} (hty : Agg P ty n) {e : TypeId} {g : Nat} {cs : List Value} (hb : Blk e w0 g cs) (hn : cs.length = n) (u : Ext w0) :
    (loadVar ty ⟨g, 0, none⟩).run P u.val = .ok (.agg cs.toArray) u.val := by
  obtain ⟨d, h1, h2, h3⟩ := hty
  exact run_loadVar_row (P := P) u.val g e ty cs.toArray (0, 0) d (u.blk hb) h1 (by cases d <;> simp_all) (by rw [h3]; simp [hn])
set_option maxHeartbeats 400000 in
set_option maxRecDepth 100000 in
theorem less_any (N M : Nat) (hN : N < W256) (hM : M < W256) (w : World) :
    Calls Try.prog 159 #[wv N, wv M] w fun e w' => e = .returned (.bool (decide (N < M))) ∧ Below w.heap.size w w' := by
  obtain ⟨w1, hw1⟩ : ∃ w1, w1 = (w.alloc (.cells (wcs N).toArray 73)).alloc (.cells (wcs M).toArray 73) := ⟨_, rfl⟩
  have hb0 : Blk 73 w1 w.heap.size (wcs N) := by rw [hw1]; exact (boxW w N).alloc _
  have hd0 : Blk 73 w1 (w.heap.size + 1) (wcs M) := by
    have := Blk.new (w.alloc (.cells (wcs N).toArray 73)) 73 (wcs M)
    rw [hw1]; simpa using this
  have hbel0 : Below w.heap.size w w1 := by rw [hw1]; exact ((Below.refl _ _).alloc (Nat.le_refl _) _).alloc (by simp) _
  have hlt := wb_less N M hN hM
  have k0 := fun u : Ext w1 => u.cell (hb0.wat 0 (by omega))
  have k1 := fun u : Ext w1 => u.cell (hb0.wat 1 (by omega))
  have k2 := fun u : Ext w1 => u.cell (hb0.wat 2 (by omega))
  have k3 := fun u : Ext w1 => u.cell (hb0.wat 3 (by omega))
  have m0 := fun u : Ext w1 => u.cell (hd0.wat 0 (by omega))
  have m1 := fun u : Ext w1 => u.cell (hd0.wat 1 (by omega))
  have m2 := fun u : Ext w1 => u.cell (hd0.wat 2 (by omega))
  have m3 := fun u : Ext w1 => u.cell (hd0.wat 3 (by omega))
  show Calls Try.prog 159 #[.agg (wcs N).toArray, .agg (wcs M).toArray] w _
  go_enter Try.func159, Try.ntmps159
  go_wp2
  simp only [← hw1]
  clear hw1
  refine wp_region_typed w1 8 (by kernel_rfl) (by kernel_rfl) (Below.refl _ _) ?_; simp only [List.take_succ_cons, List.take_zero, List.take_nil]
  (refine wpX_step (by rfl) (fun K hK => ?_); go_simp; first | (refine hK _ ?_; clear hK K) | (apply Exists.intro; refine ⟨fun _ => ?_, hK _ ?_⟩; fail; clear hK K))
  refine wpX_rel 6 (fun v w1 => Bytes w1 v (wb N)) rfl (of_decide_eq_true rfl) (fun v w1 w2 h1 h2 => RowOf.kept h1 h2) (fun w1 hw1 => ?_) ?_
  · simp only [relOf, List.filter_nil, forallRel]
    refine ⟨rfl, ?_⟩
    go_simp
    refine (wbytes_any N _).mono ?_
    rintro e w2 ⟨v, rfl, hv, hb⟩
    exact ⟨v, rfl, hv.row, hb⟩
  refine wpX_eq (str (wb N)) (fun w1 hw1 => ?_) ?_
  · change forallRel w1 [(6, _)] _ _
    intro v33 h33
    have hc := run_str (P := Try.prog) (w := w1) (src := 22) (dst := 9) elU8.ht (by kernel_rfl) (by kernel_rfl) h33
    simp only [forallRel]
    refine ⟨rfl, ?_⟩
    go_simp
    exact Below.refl _ _
  (refine wpX_step (by rfl) (fun K hK => ?_); go_simp; first | (refine hK _ ?_; clear hK K) | (apply Exists.intro; refine ⟨fun _ => ?_, hK _ ?_⟩; fail; clear hK K))
  refine wpX_rel 9 (fun v w1 => Bytes w1 v (wb M)) rfl (of_decide_eq_true rfl) (fun v w1 w2 h1 h2 => RowOf.kept h1 h2) (fun w1 hw1 => ?_) ?_
  · change forallRel w1 [] _ _
    simp only [forallRel]
    refine ⟨rfl, ?_⟩
    go_simp
    refine (wbytes_any M _).mono ?_
    rintro e w2 ⟨v, rfl, hv, hb⟩
    exact ⟨v, rfl, hv.row, hb⟩
  refine wpX_eq (str (wb M)) (fun w1 hw1 => ?_) ?_
  · change forallRel w1 [(9, _)] _ _
    intro v33 h33
    have hc := run_str (P := Try.prog) (w := w1) (src := 22) (dst := 9) elU8.ht (by kernel_rfl) (by kernel_rfl) h33
    simp only [forallRel]
    refine ⟨rfl, ?_⟩
    go_simp
    exact Below.refl _ _
  iterate 2 (refine wpX_step (by rfl) (fun K hK => ?_); go_simp; first | (refine hK _ ?_; clear hK K) | (apply Exists.intro; refine ⟨fun _ => ?_, hK _ ?_⟩; fail; clear hK K))
  refine wpX_end rfl ?_
  rintro w3 hw3 v6 _ v9 _
  simp only [forallRel]
  go_wp2
  go_ret
  exact ⟨rfl, hbel0.trans (hw3.mono hbel0.size)⟩
/-- == of words -/
theorem run_eqW (N M : Nat) (hN : N < W256) (hM : M < W256) (w : World) : (binOp .eql 73 (.agg (wcs N).toArray) (.agg (wcs M).toArray)).run Try.prog w = .ok (.bool (decide (N = M))) w := by
  have := run_eqA (P := Try.prog) w Try.underlying73 Try.underlying52 (by kernel_rfl) (limI N) (limI M) rfl rfl
  rw [limI_eq N M hN hM] at this; exact this
end Go.Proofs.Ytohenjgegkgncaa
