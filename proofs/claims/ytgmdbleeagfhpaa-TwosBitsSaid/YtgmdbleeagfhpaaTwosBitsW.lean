/- The walk of the law TwosBits. -/
import Derived.Test.YtgmdbleeagfhpaaBits4
import Derived.Test.YtgmdbleeagfhpaaWordBytesW
set_option linter.unusedSimpArgs false
set_option linter.unusedVariables false
namespace Go.Proofs.Ytgmdbleeagfhpaa
open Go.RowKit
theorem new4 (w2 : World) : Blk 24 ((((w2.alloc (.cells z4.toArray 24)).alloc (.cells z4.toArray 24)).alloc (.cells z4.toArray 24)).alloc (.cells z4.toArray 24)) w2.heap.size z4 ∧ Blk 24 ((((w2.alloc (.cells z4.toArray 24)).alloc (.cells z4.toArray 24)).alloc (.cells z4.toArray 24)).alloc (.cells z4.toArray 24)) (w2.heap.size + 1) z4 ∧ Blk 24 ((((w2.alloc (.cells z4.toArray 24)).alloc (.cells z4.toArray 24)).alloc (.cells z4.toArray 24)).alloc (.cells z4.toArray 24)) (w2.heap.size + 2) z4 ∧ Blk 24 ((((w2.alloc (.cells z4.toArray 24)).alloc (.cells z4.toArray 24)).alloc (.cells z4.toArray 24)).alloc (.cells z4.toArray 24)) (w2.heap.size + 3) z4 ∧ Below w2.heap.size w2 ((((w2.alloc (.cells z4.toArray 24)).alloc (.cells z4.toArray 24)).alloc (.cells z4.toArray 24)).alloc (.cells z4.toArray 24)) := by
  have y1 := Blk.new w2 24 z4
  have y2 := Blk.new (w2.alloc (.cells z4.toArray 24)) 24 z4
  have y3 := Blk.new ((w2.alloc (.cells z4.toArray 24)).alloc (.cells z4.toArray 24)) 24 z4
  have y4 := Blk.new (((w2.alloc (.cells z4.toArray 24)).alloc (.cells z4.toArray 24)).alloc (.cells z4.toArray 24)) 24 z4
  refine ⟨((y1.alloc _).alloc _).alloc _, ((show Blk 24 _ (w2.heap.size + 1) z4 by simpa using y2).alloc _).alloc _, (show Blk 24 _ (w2.heap.size + 2) z4 by simpa using y3).alloc _, by simpa using y4, ?_⟩
  exact ((((Below.refl _ w2).alloc (Nat.le_refl _) _).alloc (by simp) _).alloc (by simp; omega) _).alloc (by simp; omega) _
set_option maxHeartbeats 1000000 in
set_option maxRecDepth 100000 in
theorem twosBits_walk (A B : List Int) (hA : A.length = 4) (wA : ∀ x ∈ A, (Lit.int .u64 x).wf = true) (hB : B.length = 4) (wB : ∀ x ∈ B, (Lit.int .u64 x).wf = true) (w : World) :
    Calls Try.prog 7 #[.agg (A.map (Value.int .u64)).toArray, .agg (B.map (Value.int .u64)).toArray] w fun e w' => e = .returned (.bool true) ∧ Below w.heap.size w w' := by
  obtain ⟨N, hN, rfl⟩ := word_of A hA wA
  obtain ⟨M, hM, rfl⟩ := word_of B hB wB
  obtain ⟨hb0, hd0, hbel0⟩ := box2 w N M
  clear hA wA hB wB
  show Calls Try.prog 7 #[.agg (wcs N).toArray, .agg (wcs M).toArray] w _
  have c1 := fun w => tbits_any N M hN hM w
  have d1 := fun w => tand_any N M w
  have d2 := fun w => tor_any N M w
  have d3 := fun w => txor_any N M w
  have d4 := fun w => tnot_any N hN w
  have d5 := fun w => neg_any N hN w
  have d6 := fun w => tneg_any N hN w
  obtain ⟨X1, hX1⟩ : ∃ X, X = N &&& M := ⟨_, rfl⟩
  obtain ⟨X2, hX2⟩ : ∃ X, X = orN N M := ⟨_, rfl⟩
  obtain ⟨X3, hX3⟩ : ∃ X, X = N ^^^ M := ⟨_, rfl⟩
  obtain ⟨X4, hX4⟩ : ∃ X, X = notN N := ⟨_, rfl⟩
  obtain ⟨X5, hX5⟩ : ∃ X, X = negN N := ⟨_, rfl⟩
  rw [← hX1, ← hX2, ← hX3, ← hX4] at c1
  rw [← hX1] at d1
  rw [← hX2] at d2
  rw [← hX3] at d3
  rw [← hX4] at d4
  rw [← hX5] at d5 d6
  have q1 := qW X1
  have g1 := gW X1 X1
  have q2 := qW X2
  have g2 := gW X2 X2
  have q3 := qW X3
  have g3 := gW X3 X3
  have q4 := qW X4
  have g4 := gW X4 X4
  have q5 := qW X5
  have g5 := gW X5 X5
  have c1' : ∀ w, Calls Try.prog 33 #[.agg (wcs N).toArray, .agg (wcs M).toArray] w fun e w' => e = .returned (.tuple #[.agg (wcs X1).toArray, .agg (wcs X2).toArray, .agg (wcs X3).toArray, .agg (wcs X4).toArray]) ∧ Below w.heap.size w w' := c1
  have C1 := Lib.hid c1'
  have D1 := Lib.hid d1
  have D2 := Lib.hid d2
  have D3 := Lib.hid d3
  have D4 := Lib.hid d4
  have D5 := Lib.hid d5
  have D6 := Lib.hid d6
  have Q1 := Lib.hid q1
  have G1 := Lib.hid g1
  have Q2 := Lib.hid q2
  have G2 := Lib.hid g2
  have Q3 := Lib.hid q3
  have G3 := Lib.hid g3
  have Q4 := Lib.hid q4
  have G4 := Lib.hid g4
  have Q5 := Lib.hid q5
  have G5 := Lib.hid g5
  clear c1 c1' d1 d2 d3 d4 d5 d6 q1 q2 q3 q4 q5 g1 g2 g3 g4 g5 hX1 hX2 hX3 hX4 hX5
  go_enter Try.func7, Try.ntmps7
  go_wp2_with (first
    | (refine wpList_loadA (o := ⟨some 10, _, _, _, _, _⟩) (by rfl) 24 (.tmp 2) (by rfl) (w.heap.size) (by rfl) aggWord hb0 (wcs_len _) ?_)
    | (refine wpList_loadA (o := ⟨some 11, _, _, _, _, _⟩) (by rfl) 24 (.tmp 3) (by rfl) (w.heap.size + 1) (by rfl) aggWord hd0 (wcs_len _) ?_)
    | (go_at_call 33; (with_reducible refine (C1.out _).mono ?_); rintro e w2 ⟨rfl, b2⟩; obtain ⟨n1, n2, n3, n4, n5⟩ := new4 w2; have hbA := (hb0.kept b2).kept n5; have hdA := (hd0.kept b2).kept n5; have belA := (Below.then hbel0 b2).trans (n5.mono (Below.then hbel0 b2).size); have lA := (hd0.kept b2).lt; clear b2)
    | (refine wpList_storeA (by rfl) 24 (.tmp 5) (.tmp 13) (by rfl) (w2.heap.size) (wcs (X1)) (by rfl) (by rfl) aggWord n1 (wcs_len _) (by first | exact wcs_len _ | rfl) (wcs_one _) (Below.refl _ _) (Nat.le_refl _) ?_; intro w3 o3 b3 g3; have hbB := hbA.grown g3 (by simp; omega); have hdB := hdA.grown g3 (by simp; omega); have m2 := n2.grown g3 (by simp); have m3 := n3.grown g3 (by simp); have m4 := n4.grown g3 (by simp); have belB := belA.trans (b3.mono (by omega)); clear hbA hdA n1 n2 n3 n4 n5 belA b3 g3)
    | (refine wpList_storeA (by rfl) 24 (.tmp 6) (.tmp 14) (by rfl) (w2.heap.size + 1) (wcs (X2)) (by rfl) (by rfl) aggWord m2 (wcs_len _) (by first | exact wcs_len _ | rfl) (wcs_one _) (Below.refl _ _) (Nat.le_refl _) ?_; intro w4 o4 b4 g4; have hbC := hbB.grown g4 (by simp; omega); have hdC := hdB.grown g4 (by simp; omega); have p1 := o3.grown g4 (by simp); have p3 := m3.grown g4 (by simp); have p4 := m4.grown g4 (by simp); have belC := belB.trans (b4.mono (by omega)); clear hbB hdB m2 m3 m4 o3 belB b4 g4)
    | (refine wpList_storeA (by rfl) 24 (.tmp 7) (.tmp 15) (by rfl) (w2.heap.size + 2) (wcs (X3)) (by rfl) (by rfl) aggWord p3 (wcs_len _) (by first | exact wcs_len _ | rfl) (wcs_one _) (Below.refl _ _) (Nat.le_refl _) ?_; intro w5 o5 b5 g5; have hbD := hbC.grown g5 (by simp; omega); have hdD := hdC.grown g5 (by simp; omega); have r1 := p1.grown g5 (by simp); have r2 := o4.grown g5 (by simp); have r4 := p4.grown g5 (by simp); have belD := belC.trans (b5.mono (by omega)); clear hbC hdC p1 p3 p4 o4 belC b5 g5)
    | (refine wpList_storeA (by rfl) 24 (.tmp 8) (.tmp 16) (by rfl) (w2.heap.size + 3) (wcs (X4)) (by rfl) (by rfl) aggWord r4 (wcs_len _) (by first | exact wcs_len _ | rfl) (wcs_one _) (Below.refl _ _) (Nat.le_refl _) ?_; intro w6 o6 b6 g6; have hbE := hbD.grown g6 (by simp; omega); have hdE := hdD.grown g6 (by simp; omega); have s1 := r1.grown g6 (by simp); have s2 := r2.grown g6 (by simp); have s3 := o5.grown g6 (by simp); have belE := belD.trans (b6.mono (by omega)); clear hbD hdD r1 r2 r4 o5 belD b6 g6))
  have k0 := fun u : Ext w6 => u.cell (hbE.wat 0 (by omega))
  have k1 := fun u : Ext w6 => u.cell (hbE.wat 1 (by omega))
  have k2 := fun u : Ext w6 => u.cell (hbE.wat 2 (by omega))
  have k3 := fun u : Ext w6 => u.cell (hbE.wat 3 (by omega))
  have m0 := fun u : Ext w6 => u.cell (hdE.wat 0 (by omega))
  have m1 := fun u : Ext w6 => u.cell (hdE.wat 1 (by omega))
  have m2 := fun u : Ext w6 => u.cell (hdE.wat 2 (by omega))
  have m3 := fun u : Ext w6 => u.cell (hdE.wat 3 (by omega))
  have a0 := fun u : Ext w6 => u.cell (s1.wat 0 (by omega))
  have a1 := fun u : Ext w6 => u.cell (s1.wat 1 (by omega))
  have a2 := fun u : Ext w6 => u.cell (s1.wat 2 (by omega))
  have a3 := fun u : Ext w6 => u.cell (s1.wat 3 (by omega))
  have b0 := fun u : Ext w6 => u.cell (s2.wat 0 (by omega))
  have b1 := fun u : Ext w6 => u.cell (s2.wat 1 (by omega))
  have b2 := fun u : Ext w6 => u.cell (s2.wat 2 (by omega))
  have b3 := fun u : Ext w6 => u.cell (s2.wat 3 (by omega))
  have c0 := fun u : Ext w6 => u.cell (s3.wat 0 (by omega))
  have c1 := fun u : Ext w6 => u.cell (s3.wat 1 (by omega))
  have c2 := fun u : Ext w6 => u.cell (s3.wat 2 (by omega))
  have c3 := fun u : Ext w6 => u.cell (s3.wat 3 (by omega))
  have d0 := fun u : Ext w6 => u.cell (o6.wat 0 (by omega))
  have d1 := fun u : Ext w6 => u.cell (o6.wat 1 (by omega))
  have d2 := fun u : Ext w6 => u.cell (o6.wat 2 (by omega))
  have d3 := fun u : Ext w6 => u.cell (o6.wat 3 (by omega))
  clear hbE hdE s1 s2 s3 o6 hb0 hd0 hbel0
  refine wp_region_typed w6 33 (by kernel_rfl) (by kernel_rfl) (Below.refl _ _) ?_; simp only [List.take_succ_cons, List.take_zero, List.take_nil]
  iterate 2 (refine wpX_step (by rfl) (fun K hK => ?_); go_simp; first | (refine hK _ ?_; clear hK K) | (apply Exists.intro; refine ⟨fun _ => ?_, hK _ ?_⟩; fail; clear hK K))
  (refine wpX_step (by rfl) (fun K hK => ?_); go_simp; first | (refine hK _ ?_; clear hK K) | (apply Exists.intro; refine ⟨fun _ => ?_, hK _ ?_⟩; exact D1.out _; clear hK K))
  iterate 1 (refine wpX_step (by rfl) (fun K hK => ?_); go_simp; first | (refine hK _ ?_; clear hK K) | (apply Exists.intro; refine ⟨fun _ => ?_, hK _ ?_⟩; fail; clear hK K))
  (refine wpX_step (by rfl) (fun K hK => ?_); rw [if_pos (by rfl)]; refine ⟨_, fun u => const_eql _ _ _ _ (by rfl) (by rfl) (by rfl) (fun o1 o2 w1 => G1.out o1 o2 w1) (fun w1 => Q1.out w1), hK _ ?_⟩; clear hK K; simp only [Act.put, List.setIfInBounds_toArray, List.set_cons_zero, List.set_cons_succ])
  iterate 3 (refine wpX_step (by rfl) (fun K hK => ?_); go_simp; first | (refine hK _ ?_; clear hK K) | (apply Exists.intro; refine ⟨fun _ => ?_, hK _ ?_⟩; fail; clear hK K))
  (refine wpX_step (by rfl) (fun K hK => ?_); go_simp; first | (refine hK _ ?_; clear hK K) | (apply Exists.intro; refine ⟨fun _ => ?_, hK _ ?_⟩; exact D2.out _; clear hK K))
  iterate 1 (refine wpX_step (by rfl) (fun K hK => ?_); go_simp; first | (refine hK _ ?_; clear hK K) | (apply Exists.intro; refine ⟨fun _ => ?_, hK _ ?_⟩; fail; clear hK K))
  (refine wpX_step (by rfl) (fun K hK => ?_); rw [if_pos (by rfl)]; refine ⟨_, fun u => const_eql _ _ _ _ (by rfl) (by rfl) (by rfl) (fun o1 o2 w1 => G2.out o1 o2 w1) (fun w1 => Q2.out w1), hK _ ?_⟩; clear hK K; simp only [Act.put, List.setIfInBounds_toArray, List.set_cons_zero, List.set_cons_succ])
  iterate 4 (refine wpX_step (by rfl) (fun K hK => ?_); go_simp; first | (refine hK _ ?_; clear hK K) | (apply Exists.intro; refine ⟨fun _ => ?_, hK _ ?_⟩; fail; clear hK K))
  (refine wpX_step (by rfl) (fun K hK => ?_); go_simp; first | (refine hK _ ?_; clear hK K) | (apply Exists.intro; refine ⟨fun _ => ?_, hK _ ?_⟩; exact D3.out _; clear hK K))
  iterate 1 (refine wpX_step (by rfl) (fun K hK => ?_); go_simp; first | (refine hK _ ?_; clear hK K) | (apply Exists.intro; refine ⟨fun _ => ?_, hK _ ?_⟩; fail; clear hK K))
  (refine wpX_step (by rfl) (fun K hK => ?_); rw [if_pos (by rfl)]; refine ⟨_, fun u => const_eql _ _ _ _ (by rfl) (by rfl) (by rfl) (fun o1 o2 w1 => G3.out o1 o2 w1) (fun w1 => Q3.out w1), hK _ ?_⟩; clear hK K; simp only [Act.put, List.setIfInBounds_toArray, List.set_cons_zero, List.set_cons_succ])
  iterate 3 (refine wpX_step (by rfl) (fun K hK => ?_); go_simp; first | (refine hK _ ?_; clear hK K) | (apply Exists.intro; refine ⟨fun _ => ?_, hK _ ?_⟩; fail; clear hK K))
  (refine wpX_step (by rfl) (fun K hK => ?_); go_simp; first | (refine hK _ ?_; clear hK K) | (apply Exists.intro; refine ⟨fun _ => ?_, hK _ ?_⟩; exact D4.out _; clear hK K))
  iterate 1 (refine wpX_step (by rfl) (fun K hK => ?_); go_simp; first | (refine hK _ ?_; clear hK K) | (apply Exists.intro; refine ⟨fun _ => ?_, hK _ ?_⟩; fail; clear hK K))
  (refine wpX_step (by rfl) (fun K hK => ?_); rw [if_pos (by rfl)]; refine ⟨_, fun u => const_eql _ _ _ _ (by rfl) (by rfl) (by rfl) (fun o1 o2 w1 => G4.out o1 o2 w1) (fun w1 => Q4.out w1), hK _ ?_⟩; clear hK K; simp only [Act.put, List.setIfInBounds_toArray, List.set_cons_zero, List.set_cons_succ])
  iterate 3 (refine wpX_step (by rfl) (fun K hK => ?_); go_simp; first | (refine hK _ ?_; clear hK K) | (apply Exists.intro; refine ⟨fun _ => ?_, hK _ ?_⟩; fail; clear hK K))
  (refine wpX_step (by rfl) (fun K hK => ?_); go_simp; first | (refine hK _ ?_; clear hK K) | (apply Exists.intro; refine ⟨fun _ => ?_, hK _ ?_⟩; exact D5.out _; clear hK K))
  iterate 1 (refine wpX_step (by rfl) (fun K hK => ?_); go_simp; first | (refine hK _ ?_; clear hK K) | (apply Exists.intro; refine ⟨fun _ => ?_, hK _ ?_⟩; fail; clear hK K))
  (refine wpX_step (by rfl) (fun K hK => ?_); go_simp; first | (refine hK _ ?_; clear hK K) | (apply Exists.intro; refine ⟨fun _ => ?_, hK _ ?_⟩; exact D6.out _; clear hK K))
  (refine wpX_step (by rfl) (fun K hK => ?_); rw [if_pos (by rfl)]; refine ⟨_, fun u => const_eql _ _ _ _ (by rfl) (by rfl) (by rfl) (fun o1 o2 w1 => G5.out o1 o2 w1) (fun w1 => Q5.out w1), hK _ ?_⟩; clear hK K; simp only [Act.put, List.setIfInBounds_toArray, List.set_cons_zero, List.set_cons_succ])
  iterate 2 (refine wpX_step (by rfl) (fun K hK => ?_); go_simp; first | (refine hK _ ?_; clear hK K) | (apply Exists.intro; refine ⟨fun _ => ?_, hK _ ?_⟩; fail; clear hK K))
  refine wpX_end rfl ?_
  rintro w8 hw8
  simp only [List.reverse_nil, forallRel]
  have hbel8 := belE.trans (hw8.mono belE.size)
  clear k0 k1 k2 k3 m0 m1 m2 m3 a0 a1 a2 a3 b0 b1 b2 b3 c0 c1 c2 c3 d0 d1 d2 d3
  go_wp2
  go_ret
  exact ⟨rfl, hbel8⟩
end Go.Proofs.Ytgmdbleeagfhpaa
