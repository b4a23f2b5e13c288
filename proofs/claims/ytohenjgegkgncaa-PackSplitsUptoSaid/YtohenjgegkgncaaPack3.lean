/- The reference's PToNum. -/
import Derived.Test.YtohenjgegkgncaaPack2
set_option linter.unusedSimpArgs false
set_option linter.unusedVariables false
namespace Go.Proofs.Ytohenjgegkgncaa
open Go.RowKit
set_option maxHeartbeats 400000 in
set_option maxRecDepth 100000 in
theorem ptonum_any (a : Option Addr) (c : Nat) (l : List UInt8) (w : World) (h : Bytes w (.slice a l.length c) l) :
    Calls Try.prog 125 #[.slice a l.length c] w fun e w' => e = .returned (.tuple #[wv (numV l), .int .i64 (numE l)]) ∧ Below w.heap.size w w' := by
  have hz := Blk.new w 73 z4
  have hbel : Below w.heap.size w (w.alloc (.cells z4.toArray 73)) := (Below.refl _ _).alloc (Nat.le_refl _) _
  have hsame := num_same l
  go_enter Try.func125, Try.ntmps125
  go_wp2_with (first
    | (go_at_call 115; refine (wread_any a c l _ (h.alloc _)).mono ?_; rintro e w2 ⟨rfl, b2⟩; have hz2 := hz.kept b2; have hbel2 := hbel.trans (b2.mono hbel.size))
    | (refine wpList_storeA rfl 73 (.tmp 4) (.tmp 6) rfl w2.heap.size (wcs (numL (last32 l))) rfl rfl aggWord (Blk.new w2 73 z4) (wcs_len _) rfl (wcs_one _) (Below.alloc (Below.refl w2.heap.size w2) (Nat.le_refl _) _) (Nat.le_refl _) ?_; intro w3 hh3 b3 _))
  have hz3 := hz2.kept b3
  have hbel3 := hbel2.trans (b3.mono hbel2.size)
  have h3 := h.below hbel3
  have hs1 : ∀ u : Ext w3, (convert 22 9 (.slice a l.length c)).run Try.prog u.val = .ok (str l) u.val := fun u => run_str elU8.ht (by kernel_rfl) (by kernel_rfl) (u.row h3)
  have k0 := fun u : Ext w3 => u.cell (hh3.wat 0 (by omega))
  have k1 := fun u : Ext w3 => u.cell (hh3.wat 1 (by omega))
  have k2 := fun u : Ext w3 => u.cell (hh3.wat 2 (by omega))
  have k3 := fun u : Ext w3 => u.cell (hh3.wat 3 (by omega))
  clear hz hbel b2 hz2 hbel2 b3 h
  have Hsame := Lib.hid hsame
  clear hsame
  refine wp_region_typed w3 6 (by kernel_rfl) (by kernel_rfl) (Below.refl _ _) ?_; simp only [List.take_succ_cons, List.take_zero, List.take_nil]
  (refine wpX_step (by rfl) (fun K hK => ?_); go_simp; first | (refine hK _ ?_; clear hK K) | (apply Exists.intro; refine ⟨fun _ => ?_, hK _ ?_⟩; fail; clear hK K))
  refine wpX_rel 8 (fun v w1 => Bytes w1 v (numB (numL (last32 l)))) rfl (of_decide_eq_true rfl) (fun v w1 w2 h1 h2 => RowOf.kept h1 h2) (fun w1 hw1 => ?_) ?_
  · simp only [relOf, List.filter_nil, forallRel]
    refine ⟨rfl, ?_⟩
    go_simp
    exact pnum_any (numL (last32 l)) _
  refine wpX_eq (str (numB (numL (last32 l)))) (fun w1 hw1 => ?_) ?_
  · change forallRel w1 [(8, _)] _ _
    intro v33 h33
    have hc := run_str (P := Try.prog) (w := w1) (src := 22) (dst := 9) elU8.ht (by kernel_rfl) (by kernel_rfl) h33
    simp only [forallRel]
    refine ⟨rfl, ?_⟩
    go_simp
    exact Below.refl _ _
  iterate 2 (refine wpX_step (by rfl) (fun K hK => ?_); go_simp; first | (refine hK _ ?_; clear hK K) | (apply Exists.intro; refine ⟨fun _ => ?_, hK _ ?_⟩; fail; clear hK K))
  refine wpX_eq (.bool (okNum l)) (fun w1 hw1 => ?_) ?_
  · change forallRel w1 [] _ _
    simp only [forallRel]
    refine ⟨rfl, ?_⟩
    go_simp
    exact ⟨Below.refl _ _, Hsame.out⟩
  refine wpX_end rfl ?_
  rintro w4 hw4 v8 _
  simp only [forallRel]
  have hz4 := hz3.kept hw4
  have hh4 := hh3.kept hw4
  have hbel4 := hbel3.trans (hw4.mono hbel3.size)
  clear k0 k1 k2 k3 hs1
  cases hok : okNum l with
  | true =>
    have H1 := Lib.hid (num_yes hok)
    clear hok
    go_wp2_with (first
      | (refine wpList_loadA rfl 73 (.tmp 4) rfl w2.heap.size rfl aggWord hh4 (wcs_len _) ?_)
      | (refine wpList_storeA rfl 73 (.tmp 2) (.tmp 13) rfl w.heap.size (wcs (numL (last32 l))) rfl rfl aggWord hz4 (wcs_len _) rfl (wcs_one _) hbel4 (by omega) ?_; intro w5 hb5 hbel5 _))
    exact bodyPost_ret (results_blk_tmp rfl _ _ w.heap.size aggWord hb5 rfl rfl rfl) rfl ⟨by rw [H1.out.1, H1.out.2]; rfl, hbel5⟩
  | false =>
    have H1 := Lib.hid (num_no hok)
    clear hok
    go_wp2_with (first
      | (refine wpList_storeA rfl 73 (.tmp 2) (.tmp 14) rfl w.heap.size z4 rfl rfl aggWord hz4 rfl rfl (by rw [← z4_zero]; exact wcs_one 0) hbel4 (by omega) ?_; intro w5 hb5 hbel5 _))
    exact bodyPost_ret (results_blk_tmp rfl _ _ w.heap.size aggWord hb5 rfl rfl rfl) rfl ⟨by rw [H1.out.1, H1.out.2]; unfold wv; rw [z4_zero]; rfl, hbel5⟩
end Go.Proofs.Ytohenjgegkgncaa
