/- The walk of the law WordBytes. -/
import Derived.Test.YtbnghkhipmhojaaWord6
import Derived.OpenShut
namespace Go.Proofs.Ytbnghkhipmhojaa
open Go.RowKit
theorem word_of (A : List Int) (hl : A.length = 4) (hw : ∀ x ∈ A, (Lit.int .u64 x).wf = true) : ∃ N, N < W256 ∧ A = limI N := by
  match A, hl with
  | [x0, x1, x2, x3], _ =>
    have h0 := bounds_u64 (hw x0 (by simp))
    have h1 := bounds_u64 (hw x1 (by simp))
    have h2 := bounds_u64 (hw x2 (by simp))
    have h3 := bounds_u64 (hw x3 (by simp))
    obtain ⟨y0, rfl⟩ := Int.eq_ofNat_of_zero_le h0.1
    obtain ⟨y1, rfl⟩ := Int.eq_ofNat_of_zero_le h1.1
    obtain ⟨y2, rfl⟩ := Int.eq_ofNat_of_zero_le h2.1
    obtain ⟨y3, rfl⟩ := Int.eq_ofNat_of_zero_le h3.1
    clear hw
    refine ⟨y0 + 18446744073709551616 * y1 + 340282366920938463463374607431768211456 * y2 + 6277101735386680763835789423207666416102355444464034512896 * y3, by unfold W256; omega, ?_⟩
    unfold limI
    rw [lim0, lim1, lim2, lim3]
    congr 1
    · omega
    · congr 1
      · omega
      · congr 1
        · omega
        · congr 1; omega
theorem qW (N : Nat) (w1 : World) : (binOp .eql 40 (wv N) (wv N)).run Try.prog w1 = .ok (.bool true) w1 := by
  have := run_eqA (P := Try.prog) w1 Try.underlying40 Try.underlying27 (by kernel_rfl) (limI N) (limI N) rfl rfl
  rw [beq_self_eq_true] at this; exact this
theorem gW (N M : Nat) (o1 o2 : Operand) (w1 : World) : (eqGuard .eql 40 o1 o2 (wv N) (wv M)).run Try.prog w1 = .ok () w1 := by
  exact run_eqGuard_agg (P := Try.prog) (w := w1) .eql 40 o1 o2 _ _ (by kernel_rfl)
set_option maxHeartbeats 400000 in
set_option maxRecDepth 100000 in
theorem wordBytes_walk (A B : List Int) (hA : A.length = 4) (wA : ∀ x ∈ A, (Lit.int .u64 x).wf = true) (hB : B.length = 4) (wB : ∀ x ∈ B, (Lit.int .u64 x).wf = true) (y : Int) (hy : 0 ≤ y ∧ y ≤ 18446744073709551615)
    (a : Option Addr) (c : Nat) (l : List UInt8) (w : World) (h : Bytes w (.slice a l.length c) l) :
    Calls Try.prog 9 #[.agg (A.map (Value.int .u64)).toArray, .agg (B.map (Value.int .u64)).toArray, .int .u64 y, .slice a l.length c] w fun e w' => e = .returned (.bool true) ∧ Below w.heap.size w w' := by
  obtain ⟨N, hN, rfl⟩ := word_of A hA wA
  obtain ⟨M, hM, rfl⟩ := word_of B hB wB
  obtain ⟨n, rfl⟩ := Int.eq_ofNat_of_zero_le hy.1
  have hn : n < 18446744073709551616 := by omega
  obtain ⟨w1, hw1⟩ : ∃ w1, w1 = (w.alloc (.cells (wcs N).toArray 40)).alloc (.cells (wcs M).toArray 40) := ⟨_, rfl⟩
  have hb0 : Blk 40 w1 w.heap.size (wcs N) := by rw [hw1]; exact (boxW w N).alloc _
  have hd0 : Blk 40 w1 (w.heap.size + 1) (wcs M) := by
    have := Blk.new (w.alloc (.cells (wcs N).toArray 40)) 40 (wcs M)
    rw [hw1]; simpa using this
  have hbel0 : Below w.heap.size w w1 := by rw [hw1]; exact ((Below.refl _ _).alloc (Nat.le_refl _) _).alloc (by simp) _
  subst hw1
  clear hA wA hB wB hy
  show Calls Try.prog 9 #[.agg (wcs N).toArray, .agg (wcs M).toArray, .int .u64 (n : Int), .slice a l.length c] w _
  go_enter Try.func9, Try.ntmps9
  go_wp2_with (first
    | (refine wpList_loadA rfl 40 (.tmp 4) rfl w.heap.size rfl aggWord hb0 (wcs_len _) ?_)
    | (go_at_call 40; refine (bytes_any N _).mono ?_; rintro e w2 ⟨rfl, b2⟩)
    | (refine wpList_storeA rfl 47 (.tmp 9) (.tmp 11) rfl w2.heap.size (hcs N) rfl rfl aggHash (Blk.new w2 47 z32) (hcs_len _) rfl (hcs_one _) (Below.alloc (Below.refl w2.heap.size w2) (Nat.le_refl _) _) (Nat.le_refl _) ?_; intro w3 hh3 b3 _))
  have hbel3 := hbel0.trans ((b2.trans (b3.mono b2.size)).mono hbel0.size)
  have hb3 := (hb0.kept b2).kept b3
  have hd3 := (hd0.kept b2).kept b3
  have h3 := h.below hbel3
  have hhrow : Bytes w3 (.slice (some ⟨w2.heap.size, 0, none⟩) 32 32) (wb N) := hh3.row (wb N) 32 32 (fun _ => rfl) (wb_len N) (fun j u hj => by rw [flat_b8] at hj; exact hj) (Nat.le_refl _) (by unfold maxLen; omega)
  have hs1 : ∀ u : Ext w3, (convert 22 9 (.slice (some ⟨w2.heap.size, 0, none⟩) 32 32)).run Try.prog u.val = .ok (str (wb N)) u.val := fun u => run_str elU8.ht (by kernel_rfl) (by kernel_rfl) (u.row hhrow)
  clear hb0 hd0 hbel0 b2 b3 h hhrow
  have k0 := fun u : Ext w3 => u.cell (hb3.wat 0 (by omega))
  have k1 := fun u : Ext w3 => u.cell (hb3.wat 1 (by omega))
  have k2 := fun u : Ext w3 => u.cell (hb3.wat 2 (by omega))
  have k3 := fun u : Ext w3 => u.cell (hb3.wat 3 (by omega))
  have m0 := fun u : Ext w3 => u.cell (hd3.wat 0 (by omega))
  have m1 := fun u : Ext w3 => u.cell (hd3.wat 1 (by omega))
  have m2 := fun u : Ext w3 => u.cell (hd3.wat 2 (by omega))
  have m3 := fun u : Ext w3 => u.cell (hd3.wat 3 (by omega))
  have q1 := qW n
  have g1 := gW n n
  have g2 := gW (numL (last32 l)) (numL (last32 l))
  have q2 := qW (numL (last32 l))
  refine wp_region_typed w3 30 (by kernel_rfl) (by kernel_rfl) (Below.refl _ _) ?_; simp only [List.take_succ_cons, List.take_zero, List.take_nil]
  iterate 2 (refine wpX_step (by rfl) (fun K hK => ?_); go_simp; first | (refine hK _ ?_; clear hK K) | (apply Exists.intro; refine ⟨fun _ => ?_, hK _ ?_⟩; fail; clear hK K))
  (refine wpX_step (by rfl) (fun K hK => ?_); go_simp; first | (refine hK _ ?_; clear hK K) | (apply Exists.intro; refine ⟨fun _ => ?_, hK _ ?_⟩; exact cmp_any N M hN hM _; clear hK K))
  iterate 2 (refine wpX_step (by rfl) (fun K hK => ?_); go_simp; first | (refine hK _ ?_; clear hK K) | (apply Exists.intro; refine ⟨fun _ => ?_, hK _ ?_⟩; fail; clear hK K))
  (refine wpX_step (by rfl) (fun K hK => ?_); go_simp; first | (refine hK _ ?_; clear hK K) | (apply Exists.intro; refine ⟨fun _ => ?_, hK _ ?_⟩; exact wcmp_any N M hN hM _; clear hK K))
  iterate 3 (refine wpX_step (by rfl) (fun K hK => ?_); go_simp; first | (refine hK _ ?_; clear hK K) | (apply Exists.intro; refine ⟨fun _ => ?_, hK _ ?_⟩; fail; clear hK K))
  (refine wpX_step (by rfl) (fun K hK => ?_); go_simp; first | (refine hK _ ?_; clear hK K) | (apply Exists.intro; refine ⟨fun _ => ?_, hK _ ?_⟩; exact int_any n hn _; clear hK K))
  (refine wpX_step (by rfl) (fun K hK => ?_); go_simp; first | (refine hK _ ?_; clear hK K) | (apply Exists.intro; refine ⟨fun _ => ?_, hK _ ?_⟩; fail; clear hK K))
  (refine wpX_step (by rfl) (fun K hK => ?_); go_simp; first | (refine hK _ ?_; clear hK K) | (apply Exists.intro; refine ⟨fun _ => ?_, hK _ ?_⟩; exact wint_any n hn _; clear hK K))
  iterate 6 (refine wpX_step (by rfl) (fun K hK => ?_); go_simp; first | (refine hK _ ?_; clear hK K) | (apply Exists.intro; refine ⟨fun _ => ?_, hK _ ?_⟩; fail; clear hK K))
  refine wpX_rel 30 (fun v w1 => Bytes w1 v (wb N)) rfl (of_decide_eq_true rfl) (fun v w1 w2 h1 h2 => RowOf.kept h1 h2) (fun w1 hw1 => ?_) ?_
  · simp only [relOf, List.filter_nil, forallRel]
    refine ⟨rfl, ?_⟩
    go_simp
    refine (wbytes_any N _).mono ?_
    rintro e w2 ⟨v, rfl, hv, hb⟩
    exact ⟨v, rfl, hv.row, hb⟩
  refine wpX_eq (str (wb N)) (fun w1 hw1 => ?_) ?_
  · change forallRel w1 [(30, _)] _ _
    intro v33 h33
    have hc := run_str (P := Try.prog) (w := w1) (src := 22) (dst := 9) elU8.ht (by kernel_rfl) (by kernel_rfl) h33
    simp only [forallRel]
    refine ⟨rfl, ?_⟩
    go_simp
    exact Below.refl _ _
  iterate 4 (refine wpX_step (by rfl) (fun K hK => ?_); go_simp; first | (refine hK _ ?_; clear hK K) | (apply Exists.intro; refine ⟨fun _ => ?_, hK _ ?_⟩; fail; clear hK K))
  (refine wpX_step (by rfl) (fun K hK => ?_); go_simp; first | (refine hK _ ?_; clear hK K) | (apply Exists.intro; refine ⟨fun _ => ?_, hK _ ?_⟩; exact read_any a c l _ (Ext.row _ h3); clear hK K))
  (refine wpX_step (by rfl) (fun K hK => ?_); go_simp; first | (refine hK _ ?_; clear hK K) | (apply Exists.intro; refine ⟨fun _ => ?_, hK _ ?_⟩; fail; clear hK K))
  (refine wpX_step (by rfl) (fun K hK => ?_); go_simp; first | (refine hK _ ?_; clear hK K) | (apply Exists.intro; refine ⟨fun _ => ?_, hK _ ?_⟩; exact wread_any a c l _ (Ext.row _ h3); clear hK K))
  iterate 3 (refine wpX_step (by rfl) (fun K hK => ?_); go_simp; first | (refine hK _ ?_; clear hK K) | (apply Exists.intro; refine ⟨fun _ => ?_, hK _ ?_⟩; fail; clear hK K))
  refine wpX_end rfl ?_
  rintro w4 hw4 v30 _
  simp only [forallRel]
  go_wp2
  go_ret
  exact ⟨rfl, hbel3.trans (hw4.mono hbel3.size)⟩
end Go.Proofs.Ytbnghkhipmhojaa
