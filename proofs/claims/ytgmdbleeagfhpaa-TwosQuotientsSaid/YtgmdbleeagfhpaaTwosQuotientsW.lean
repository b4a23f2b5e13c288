/- The walk of the law TwosQuotients. -/
import Derived.Test.YtgmdbleeagfhpaaTwosQ5
import Derived.Test.YtgmdbleeagfhpaaWordBytesW
set_option linter.unusedSimpArgs false
set_option linter.unusedVariables false
namespace Go.Proofs.Ytgmdbleeagfhpaa
open Go.RowKit
set_option maxHeartbeats 1000000 in
set_option maxRecDepth 100000 in
theorem twosQuotients_walk (A B : List Int) (hA : A.length = 4) (wA : ∀ x ∈ A, (Lit.int .u64 x).wf = true) (hB : B.length = 4) (wB : ∀ x ∈ B, (Lit.int .u64 x).wf = true) (w : World) :
    Calls Try.prog 3 #[.agg (A.map (Value.int .u64)).toArray, .agg (B.map (Value.int .u64)).toArray] w fun e w' => e = .returned (.bool true) ∧ Below w.heap.size w w' := by
  obtain ⟨N, hN, rfl⟩ := word_of A hA wA
  obtain ⟨M, hM, rfl⟩ := word_of B hB wB
  obtain ⟨hb0, hd0, hbel0⟩ := box2 w N M
  clear hA wA hB wB
  show Calls Try.prog 3 #[.agg (wcs N).toArray, .agg (wcs M).toArray] w _
  have c1 := fun w => sdivmod_any N M hN hM w
  have c2 := fun w => tsdivmod_any N M hN hM w
  have c3 := fun w => scmp_any N M hN hM w
  have c4 := fun w => tscmp_any N M hN hM w
  obtain ⟨Q, hQ⟩ : ∃ Q, Q = sdq N M := ⟨_, rfl⟩
  obtain ⟨R, hR⟩ : ∃ R, R = sdr N M := ⟨_, rfl⟩
  obtain ⟨z, hz⟩ : ∃ z, z = scmp N M := ⟨_, rfl⟩
  rw [← hQ, ← hR] at c1 c2
  rw [← hz] at c3 c4
  have q1 := qW Q
  have g1 := gW Q Q
  have q2 := qW R
  have g2 := gW R R
  have C1 := Lib.hid c1
  have C2 := Lib.hid c2
  have C3 := Lib.hid c3
  have C4 := Lib.hid c4
  have Q1 := Lib.hid q1
  have G1 := Lib.hid g1
  have Q2 := Lib.hid q2
  have G2 := Lib.hid g2
  clear c1 c2 c3 c4 hQ hR hz q1 g1 q2 g2
  go_enter Try.func3, Try.ntmps3
  go_wp2_with (first
    | (refine wpList_loadA (o := ⟨some 10, _, _, _, _, _⟩) (by rfl) 24 (.tmp 2) (by rfl) (w.heap.size) (by rfl) aggWord hb0 (wcs_len _) ?_)
    | (refine wpList_loadA (o := ⟨some 11, _, _, _, _, _⟩) (by rfl) 24 (.tmp 3) (by rfl) (w.heap.size + 1) (by rfl) aggWord hd0 (wcs_len _) ?_)
    | (go_at_call 15; refine (C1.out _).mono ?_; rintro e w2 ⟨rfl, b2⟩; have hb2 := hb0.kept b2; have hd2 := hd0.kept b2; have hbel2 := hbel0.trans (b2.mono hbel0.size))
    | (refine wpList_storeA (by rfl) 24 (.tmp 5) (.tmp 13) (by rfl) (w2.heap.size) (wcs (Q)) (by rfl) (by rfl) aggWord ((Blk.new w2 24 z4).alloc (.cells z4.toArray 24)) (wcs_len _) (by first | exact wcs_len _ | rfl) (wcs_one _) (Below.refl _ _) (Nat.le_refl _) ?_; intro w3 o3 b3 g3; have x3 : Below w2.heap.size w2 w3 := (((Below.refl _ w2).alloc (Nat.le_refl _) (.cells z4.toArray 24)).alloc (by simp) (.cells z4.toArray 24)).trans b3; have hb3 := hb2.kept x3; have hd3 := hd2.kept x3; have hbel3 := hbel2.trans (x3.mono hbel2.size); have r3 := (Blk.new (w2.alloc (.cells z4.toArray 24)) 24 z4).grown g3 (by simp))
    | (refine wpList_storeA (by rfl) 24 (.tmp 6) (.tmp 14) (by rfl) (w2.heap.size + 1) (wcs (R)) (by rfl) (by rfl) aggWord (by simpa using r3) (wcs_len _) (by first | exact wcs_len _ | rfl) (wcs_one _) (Below.refl _ _) (Nat.le_refl _) ?_; intro w4 o4 b4 g4; have o34 := o3.grown g4 (by simp); have hb4 := hb3.grown g4 (by have := hbel2.size; simp; omega); have hd4 := hd3.grown g4 (by have := hd2.lt; simp; omega); have hbel4 := hbel3.trans (b4.mono (by have := hbel2.size; omega)))
    | (refine wpList_loadA (o := ⟨some 16, _, _, _, _, _⟩) (by rfl) 24 (.tmp 2) (by rfl) (w.heap.size) (by rfl) aggWord hb4 (wcs_len _) ?_)
    | (refine wpList_loadA (o := ⟨some 17, _, _, _, _, _⟩) (by rfl) 24 (.tmp 3) (by rfl) (w.heap.size + 1) (by rfl) aggWord hd4 (wcs_len _) ?_)
    | (go_at_call 16; refine (C2.out _).mono ?_; rintro e w5 ⟨rfl, b5⟩; have p5 := o34.kept b5; have r5 := o4.kept b5; have hb5 := hb4.kept b5; have hd5 := hd4.kept b5; have hbel5 := hbel4.trans (b5.mono hbel4.size); clear hb0 hd0 hbel0 hb2 hd2 hbel2 hb3 hd3 hbel3 x3 r3 o3 b3 g3 o34 o4 b4 g4 hb4 hd4)
    | (refine wpList_storeA (by rfl) 24 (.tmp 7) (.tmp 19) (by rfl) (w5.heap.size) (wcs (Q)) (by rfl) (by rfl) aggWord ((Blk.new w5 24 z4).alloc (.cells z4.toArray 24)) (wcs_len _) (by first | exact wcs_len _ | rfl) (wcs_one _) (Below.refl _ _) (Nat.le_refl _) ?_; intro w6 o6 b6 g6; have x6 : Below w5.heap.size w5 w6 := (((Below.refl _ w5).alloc (Nat.le_refl _) (.cells z4.toArray 24)).alloc (by simp) (.cells z4.toArray 24)).trans b6; have p6 := p5.kept x6; have r6 := r5.kept x6; have hb6 := hb5.kept x6; have hd6 := hd5.kept x6; have hbel6 := hbel5.trans (x6.mono hbel5.size); have z6 := (Blk.new (w5.alloc (.cells z4.toArray 24)) 24 z4).grown g6 (by simp))
    | (refine wpList_storeA (by rfl) 24 (.tmp 8) (.tmp 20) (by rfl) (w5.heap.size + 1) (wcs (R)) (by rfl) (by rfl) aggWord (by simpa using z6) (wcs_len _) (by first | exact wcs_len _ | rfl) (wcs_one _) (Below.refl _ _) (Nat.le_refl _) ?_; intro w7 o7 b7 g7; have o67 := o6.grown g7 (by simp); have p7 := p6.grown g7 (by have := p5.lt; simp; omega); have r7 := r6.grown g7 (by have := r5.lt; simp; omega); have hb7 := hb6.grown g7 (by have := hb5.lt; simp; omega); have hd7 := hd6.grown g7 (by have := hd5.lt; simp; omega); have hbel7 := hbel6.trans (b7.mono (by have := hbel5.size; omega))))
  have a0 := fun u : Ext w7 => u.cell (p7.wat 0 (by omega))
  have a1 := fun u : Ext w7 => u.cell (p7.wat 1 (by omega))
  have a2 := fun u : Ext w7 => u.cell (p7.wat 2 (by omega))
  have a3 := fun u : Ext w7 => u.cell (p7.wat 3 (by omega))
  have d0 := fun u : Ext w7 => u.cell (o67.wat 0 (by omega))
  have d1 := fun u : Ext w7 => u.cell (o67.wat 1 (by omega))
  have d2 := fun u : Ext w7 => u.cell (o67.wat 2 (by omega))
  have d3 := fun u : Ext w7 => u.cell (o67.wat 3 (by omega))
  have e0 := fun u : Ext w7 => u.cell (r7.wat 0 (by omega))
  have e1 := fun u : Ext w7 => u.cell (r7.wat 1 (by omega))
  have e2 := fun u : Ext w7 => u.cell (r7.wat 2 (by omega))
  have e3 := fun u : Ext w7 => u.cell (r7.wat 3 (by omega))
  have f0 := fun u : Ext w7 => u.cell (o7.wat 0 (by omega))
  have f1 := fun u : Ext w7 => u.cell (o7.wat 1 (by omega))
  have f2 := fun u : Ext w7 => u.cell (o7.wat 2 (by omega))
  have f3 := fun u : Ext w7 => u.cell (o7.wat 3 (by omega))
  have k0 := fun u : Ext w7 => u.cell (hb7.wat 0 (by omega))
  have k1 := fun u : Ext w7 => u.cell (hb7.wat 1 (by omega))
  have k2 := fun u : Ext w7 => u.cell (hb7.wat 2 (by omega))
  have k3 := fun u : Ext w7 => u.cell (hb7.wat 3 (by omega))
  have m0 := fun u : Ext w7 => u.cell (hd7.wat 0 (by omega))
  have m1 := fun u : Ext w7 => u.cell (hd7.wat 1 (by omega))
  have m2 := fun u : Ext w7 => u.cell (hd7.wat 2 (by omega))
  have m3 := fun u : Ext w7 => u.cell (hd7.wat 3 (by omega))
  clear hb5 hd5 hbel5 x6 p5 r5 p6 r6 hb6 hd6 hbel6 z6 o6 b6 g6 b7 g7 b5
  refine wp_region_typed w7 18 (by kernel_rfl) (by kernel_rfl) (Below.refl _ _) ?_; simp only [List.take_succ_cons, List.take_zero, List.take_nil]
  iterate 2 (refine wpX_step (by rfl) (fun K hK => ?_); go_simp; first | (refine hK _ ?_; clear hK K) | (apply Exists.intro; refine ⟨fun _ => ?_, hK _ ?_⟩; fail; clear hK K))
  (refine wpX_step (by rfl) (fun K hK => ?_); rw [if_pos (by rfl)]; refine ⟨_, fun u => const_eql _ _ _ _ (by rfl) (by rfl) (by rfl) (fun o1 o2 w1 => G1.out o1 o2 w1) (fun w1 => Q1.out w1), hK _ ?_⟩; clear hK K; simp only [Act.put, List.setIfInBounds_toArray, List.set_cons_zero, List.set_cons_succ])
  iterate 3 (refine wpX_step (by rfl) (fun K hK => ?_); go_simp; first | (refine hK _ ?_; clear hK K) | (apply Exists.intro; refine ⟨fun _ => ?_, hK _ ?_⟩; fail; clear hK K))
  (refine wpX_step (by rfl) (fun K hK => ?_); rw [if_pos (by rfl)]; refine ⟨_, fun u => const_eql _ _ _ _ (by rfl) (by rfl) (by rfl) (fun o1 o2 w1 => G2.out o1 o2 w1) (fun w1 => Q2.out w1), hK _ ?_⟩; clear hK K; simp only [Act.put, List.setIfInBounds_toArray, List.set_cons_zero, List.set_cons_succ])
  iterate 4 (refine wpX_step (by rfl) (fun K hK => ?_); go_simp; first | (refine hK _ ?_; clear hK K) | (apply Exists.intro; refine ⟨fun _ => ?_, hK _ ?_⟩; fail; clear hK K))
  (refine wpX_step (by rfl) (fun K hK => ?_); go_simp; first | (refine hK _ ?_; clear hK K) | (apply Exists.intro; refine ⟨fun _ => ?_, hK _ ?_⟩; exact C3.out _; clear hK K))
  iterate 2 (refine wpX_step (by rfl) (fun K hK => ?_); go_simp; first | (refine hK _ ?_; clear hK K) | (apply Exists.intro; refine ⟨fun _ => ?_, hK _ ?_⟩; fail; clear hK K))
  (refine wpX_step (by rfl) (fun K hK => ?_); go_simp; first | (refine hK _ ?_; clear hK K) | (apply Exists.intro; refine ⟨fun _ => ?_, hK _ ?_⟩; exact C4.out _; clear hK K))
  iterate 3 (refine wpX_step (by rfl) (fun K hK => ?_); go_simp; first | (refine hK _ ?_; clear hK K) | (apply Exists.intro; refine ⟨fun _ => ?_, hK _ ?_⟩; fail; clear hK K))
  refine wpX_end rfl ?_
  rintro w8 hw8
  simp only [List.reverse_nil, forallRel]
  have hbel8 := hbel7.trans (hw8.mono hbel7.size)
  clear k0 k1 k2 k3 m0 m1 m2 m3 a0 a1 a2 a3 d0 d1 d2 d3 e0 e1 e2 e3 f0 f1 f2 f3
  go_wp2
  go_ret
  exact ⟨rfl, hbel8⟩
end Go.Proofs.Ytgmdbleeagfhpaa
