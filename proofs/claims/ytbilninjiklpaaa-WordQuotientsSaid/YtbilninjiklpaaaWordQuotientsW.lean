/- The walk of the law WordQuotients. -/
import Derived.Test.YtbilninjiklpaaaWord23
import Derived.Test.YtbilninjiklpaaaWordBytesW
namespace Go.Proofs.Ytbilninjiklpaaa
open Go.RowKit
set_option maxHeartbeats 400000 in
set_option maxRecDepth 100000 in
theorem wordQuotients_walk (A B : List Int) (hA : A.length = 4) (wA : ∀ x ∈ A, (Lit.int .u64 x).wf = true) (hB : B.length = 4) (wB : ∀ x ∈ B, (Lit.int .u64 x).wf = true) (w : World) :
    Calls Try.prog 6 #[.agg (A.map (Value.int .u64)).toArray, .agg (B.map (Value.int .u64)).toArray] w fun e w' => e = .returned (.bool true) ∧ Below w.heap.size w w' := by
  obtain ⟨N, hN, rfl⟩ := word_of A hA wA
  obtain ⟨M, hM, rfl⟩ := word_of B hB wB
  obtain ⟨hb0, hd0, hbel0⟩ := box2 w N M
  clear hA wA hB wB
  show Calls Try.prog 6 #[.agg (wcs N).toArray, .agg (wcs M).toArray] w _
  have c1 := fun w => divmod_any N M hN hM w
  have c2 := fun w => wdivmod_any N M hN hM w
  have q1 := qW (N / M)
  have g1 := gW (N / M) (N / M)
  have q2 := qW (modN N M)
  have g2 := gW (modN N M) (modN N M)
  obtain ⟨Q, hQ⟩ : ∃ Q, Q = N / M := ⟨_, rfl⟩
  obtain ⟨R, hR⟩ : ∃ R, R = modN N M := ⟨_, rfl⟩
  rw [← hQ, ← hR] at c1 c2
  rw [← hQ] at q1 g1
  rw [← hR] at q2 g2
  have q1' : ∀ w1 : World, (binOp .eql 24 (.agg (wcs Q).toArray) (.agg (wcs Q).toArray)).run Try.prog w1 = .ok (.bool true) w1 := q1
  have g1' : ∀ (o1 o2 : Operand) (w1 : World), (eqGuard .eql 24 o1 o2 (.agg (wcs Q).toArray) (.agg (wcs Q).toArray)).run Try.prog w1 = .ok () w1 := g1
  have q2' : ∀ w1 : World, (binOp .eql 24 (.agg #[.int .u64 (lim R 0 : Int), .int .u64 (lim R 1 : Int), .int .u64 (lim R 2 : Int), .int .u64 (lim R 3 : Int)]) (.agg #[.int .u64 (lim R 0 : Int), .int .u64 (lim R 1 : Int), .int .u64 (lim R 2 : Int), .int .u64 (lim R 3 : Int)])).run Try.prog w1 = .ok (.bool true) w1 := q2
  clear q1 g1 q2 g2
  have C1 := Lib.hid c1
  have C2 := Lib.hid c2
  clear c1 c2 hQ hR
  go_enter Try.func6, Try.ntmps6
  go_wp2_with (first
    | (refine wpList_loadA (o := ⟨some 10, _, _, _, _, _⟩) (by rfl) 24 (.tmp 2) (by rfl) (w.heap.size) (by rfl) aggWord hb0 (wcs_len _) ?_)
    | (refine wpList_loadA (o := ⟨some 11, _, _, _, _, _⟩) (by rfl) 24 (.tmp 3) (by rfl) (w.heap.size + 1) (by rfl) aggWord hd0 (wcs_len _) ?_)
    | (go_at_call 27; refine (C1.out _).mono ?_; rintro e w2 ⟨rfl, b2⟩; have hb2 := hb0.kept b2; have hd2 := hd0.kept b2; have hbel2 := hbel0.trans (b2.mono hbel0.size))
    | (refine wpList_storeA (by rfl) 24 (.tmp 5) (.tmp 13) (by rfl) (w2.heap.size) (wcs (Q)) (by rfl) (by rfl) aggWord ((Blk.new w2 24 z4).alloc (.cells z4.toArray 24)) (wcs_len _) (by first | exact wcs_len _ | rfl) (wcs_one _) (Below.refl _ _) (Nat.le_refl _) ?_; intro w3 o3 b3 g3; have x3 : Below w2.heap.size w2 w3 := (((Below.refl _ w2).alloc (Nat.le_refl _) (.cells z4.toArray 24)).alloc (by simp) (.cells z4.toArray 24)).trans b3; have hb3 := hb2.kept x3; have hd3 := hd2.kept x3; have hbel3 := hbel2.trans (x3.mono hbel2.size); have r3 := (Blk.new (w2.alloc (.cells z4.toArray 24)) 24 z4).grown g3 (by simp))
    | (refine wpList_storeA (by rfl) 24 (.tmp 6) (.tmp 14) (by rfl) (w2.heap.size + 1) (wcs (R)) (by rfl) (by rfl) aggWord (by simpa using r3) (wcs_len _) (by first | exact wcs_len _ | rfl) (wcs_one _) (Below.refl _ _) (Nat.le_refl _) ?_; intro w4 o4 b4 g4; have o34 := o3.grown g4 (by simp); have hb4 := hb3.grown g4 (by have := hbel2.size; simp; omega); have hd4 := hd3.grown g4 (by have := hd2.lt; simp; omega); have hbel4 := hbel3.trans (b4.mono (by have := hbel2.size; omega)))
    | (refine wpList_loadA (o := ⟨some 16, _, _, _, _, _⟩) (by rfl) 24 (.tmp 2) (by rfl) (w.heap.size) (by rfl) aggWord hb4 (wcs_len _) ?_)
    | (refine wpList_loadA (o := ⟨some 17, _, _, _, _, _⟩) (by rfl) 24 (.tmp 3) (by rfl) (w.heap.size + 1) (by rfl) aggWord hd4 (wcs_len _) ?_)
    | (go_at_call 28; refine (C2.out _).mono ?_; rintro e w5 ⟨rfl, b5⟩; have p5 := o34.kept b5; have r5 := o4.kept b5; have hbel5 := hbel4.trans (b5.mono hbel4.size); clear hb0 hd0 hbel0 hb2 hd2 hbel2 hb3 hd3 hbel3 x3 r3 o3 b3 g3 o34 o4 b4 g4 hb4 hd4)
    | (refine wpList_storeA (by rfl) 24 (.tmp 7) (.tmp 19) (by rfl) (w5.heap.size) (wcs (Q)) (by rfl) (by rfl) aggWord ((Blk.new w5 24 z4).alloc (.cells z4.toArray 24)) (wcs_len _) (by first | exact wcs_len _ | rfl) (wcs_one _) (Below.refl _ _) (Nat.le_refl _) ?_; intro w6 o6 b6 g6; have x6 : Below w5.heap.size w5 w6 := (((Below.refl _ w5).alloc (Nat.le_refl _) (.cells z4.toArray 24)).alloc (by simp) (.cells z4.toArray 24)).trans b6; have p6 := p5.kept x6; have r6 := r5.kept x6; have hbel6 := hbel5.trans (x6.mono hbel5.size); have z6 := (Blk.new (w5.alloc (.cells z4.toArray 24)) 24 z4).grown g6 (by simp))
    | (refine wpList_storeA (by rfl) 24 (.tmp 8) (.tmp 20) (by rfl) (w5.heap.size + 1) (wcs (R)) (by rfl) (by rfl) aggWord (by simpa using z6) (wcs_len _) (by first | exact wcs_len _ | rfl) (wcs_one _) (Below.refl _ _) (Nat.le_refl _) ?_; intro w7 o7 b7 g7; have o67 := o6.grown g7 (by simp); have p7 := p6.grown g7 (by have := p5.lt; simp; omega); have r7 := r6.grown g7 (by have := r5.lt; simp; omega); have hbel7 := hbel6.trans (b7.mono (by have := hbel5.size; omega)); have a0 := r7.wat 0 (by omega); have a1 := r7.wat 1 (by omega); have a2 := r7.wat 2 (by omega); have a3 := r7.wat 3 (by omega); have b0 := o7.wat 0 (by omega); have b1 := o7.wat 1 (by omega); have b2 := o7.wat 2 (by omega); have b3 := o7.wat 3 (by omega))
    | (refine wpList_loadA (o := ⟨some 21, _, _, _, _, _⟩) (by rfl) 24 (.tmp 5) (by rfl) (w2.heap.size) (by rfl) aggWord p7 (wcs_len _) ?_)
    | (refine wpList_loadA (o := ⟨some 22, _, _, _, _, _⟩) (by rfl) 24 (.tmp 7) (by rfl) (w5.heap.size) (by rfl) aggWord o67 (wcs_len _) ?_))
  go_ret
  exact ⟨rfl, hbel7⟩
end Go.Proofs.Ytbilninjiklpaaa
