/- The walk of the law HexNumbers. -/
import Derived.Test.YtgmdbleeagfhpaaHexN6
import Derived.Test.YtgmdbleeagfhpaaWordBytesW
set_option linter.unusedSimpArgs false
set_option linter.unusedVariables false
namespace Go.Proofs.Ytgmdbleeagfhpaa
open Go.RowKit
theorem nV_lt (L : List UInt8) : nV L < W256 := by
  cases h : nOk L with
  | false => rw [(n_no h).1]; unfold W256; omega
  | true =>
    rw [(n_yes h).1]
    unfold nOk at h
    rw [Bool.and_eq_true, decide_eq_true_eq] at h
    exact valD_small _ (halfR_small h.1) h.2.2.1
set_option maxHeartbeats 1000000 in
set_option maxRecDepth 100000 in
theorem hexNumbers_walk (A : List Int) (hA : A.length = 4) (wA : ∀ x ∈ A, (Lit.int .u64 x).wf = true) (s : ByteArray) (hs : s.size ≤ 140737488351232) (w : World) :
    Calls Try.prog 11 #[.agg (A.map (Value.int .u64)).toArray, .string s] w fun e w' => e = .returned (.bool true) ∧ Below w.heap.size w w' := by
  obtain ⟨N, hN, rfl⟩ := word_of A hA wA
  clear hA wA
  show Calls Try.prog 11 #[.agg (wcs N).toArray, .string s] w _
  have hb0 := boxW w N
  have hbel0 : Below w.heap.size w (w.alloc (.cells (wcs N).toArray 24)) := (Below.refl _ _).alloc (Nat.le_refl _) _
  obtain ⟨w1, hw1⟩ : ∃ w1, w1 = w.alloc (.cells (wcs N).toArray 24) := ⟨_, rfl⟩
  rw [← hw1] at hb0 hbel0
  obtain ⟨L, hL⟩ : ∃ L, L = s.data.toList := ⟨_, rfl⟩
  have hsL : s = ⟨L.toArray⟩ := ba_ext hL.symm
  have c1 := fun w => parseNumber_any s hs w
  rw [← hL] at c1
  have c2 := fun w => xparseNumber_any L (by rw [hL, Array.length_toList]; exact hs) w
  rw [← hsL] at c2
  have c3 := fun w => number_any N hN w
  have c4 := fun w => xnumber_any N hN w
  obtain ⟨X, hX⟩ : ∃ X, X = nV L := ⟨_, rfl⟩
  obtain ⟨E, hE⟩ : ∃ E, E = nE L := ⟨_, rfl⟩
  rw [← hX, ← hE] at c1 c2
  have c1' : ∀ w, Calls Try.prog 49 #[.string s] w fun e w' => e = .returned (.tuple #[.agg (wcs X).toArray, .int .i64 E]) ∧ Below w.heap.size w w' := c1
  have c2' : ∀ w, Calls Try.prog 50 #[.string s] w fun e w' => e = .returned (.tuple #[.agg (wcs X).toArray, .int .i64 E]) ∧ Below w.heap.size w w' := c2
  obtain ⟨sn, hsn⟩ : ∃ sn : ByteArray, sn = ⟨(numS N).toArray⟩ := ⟨_, rfl⟩
  have c3' : ∀ w, Calls Try.prog 51 #[wv N] w fun e w' => e = .returned (.string sn) ∧ Below w.heap.size w w' := fun w => by rw [hsn]; exact c3 w
  have c4' : ∀ w, Calls Try.prog 52 #[wv N] w fun e w' => e = .returned (.string sn) ∧ Below w.heap.size w w' := fun w => by rw [hsn]; exact c4 w
  have q1 := qW X
  have g1 := gW X X
  have C1 := Lib.hid c1'
  have C2 := Lib.hid c2'
  have C3 := Lib.hid c3'
  have C4 := Lib.hid c4'
  have Q1 := Lib.hid q1
  have G1 := Lib.hid g1
  have Hw1 := Lib.hid hw1
  clear c1 c2 c3 c4 c1' c2' c3' c4' q1 g1 hX hE hsn hsL hL hw1
  go_enter Try.func11, Try.ntmps11
  go_wp2_with (first
    | (rw [show w.alloc (.cells (wcs N).toArray 24) = w1 from Hw1.out.symm])
    | (go_at_call 49; (with_reducible refine (C1.out _).mono ?_); rintro e w2 ⟨rfl, b2⟩; have hb2 := hb0.kept b2; have hbel2 := Below.then hbel0 b2)
    | (refine wpList_storeA (by rfl) 24 (.tmp 5) (.tmp 12) (by rfl) (w2.heap.size) (wcs (X)) (by rfl) (by rfl) aggWord (Blk.new w2 24 z4) (wcs_len _) (by first | exact wcs_len _ | rfl) (wcs_one _) (Below.refl _ _) (Nat.le_refl _) ?_; intro w3 o3 b3 g3; have hb3 := (hb2.alloc (.cells z4.toArray 24)).grown g3 (by have := hb2.lt; simp; omega); have hbel3 := (hbel2.alloc hbel2.size (.cells z4.toArray 24)).trans (b3.mono (by have := hbel2.size; omega)))
    | (go_at_call 50; (with_reducible refine (C2.out _).mono ?_); rintro e w4 ⟨rfl, b4⟩; have hb4 := hb3.kept b4; have o4 := o3.kept b4; have hbel4 := Below.then hbel3 b4)
    | (refine wpList_storeA (by rfl) 24 (.tmp 7) (.tmp 17) (by rfl) (w4.heap.size) (wcs (X)) (by rfl) (by rfl) aggWord (Blk.new w4 24 z4) (wcs_len _) (by first | exact wcs_len _ | rfl) (wcs_one _) (Below.refl _ _) (Nat.le_refl _) ?_; intro w5 o5 b5 g5; have hb5 := (hb4.alloc (.cells z4.toArray 24)).grown g5 (by have := hb4.lt; simp; omega); have o45 := (o4.alloc (.cells z4.toArray 24)).grown g5 (by have := o4.lt; simp; omega); have hbel5 := (hbel4.alloc hbel4.size (.cells z4.toArray 24)).trans (b5.mono (by have := hbel4.size; omega))))
  have k0 := fun u : Ext w5 => u.cell (hb5.wat 0 (by omega))
  have k1 := fun u : Ext w5 => u.cell (hb5.wat 1 (by omega))
  have k2 := fun u : Ext w5 => u.cell (hb5.wat 2 (by omega))
  have k3 := fun u : Ext w5 => u.cell (hb5.wat 3 (by omega))
  have a0 := fun u : Ext w5 => u.cell (o45.wat 0 (by omega))
  have a1 := fun u : Ext w5 => u.cell (o45.wat 1 (by omega))
  have a2 := fun u : Ext w5 => u.cell (o45.wat 2 (by omega))
  have a3 := fun u : Ext w5 => u.cell (o45.wat 3 (by omega))
  have b0 := fun u : Ext w5 => u.cell (o5.wat 0 (by omega))
  have b1 := fun u : Ext w5 => u.cell (o5.wat 1 (by omega))
  have b2 := fun u : Ext w5 => u.cell (o5.wat 2 (by omega))
  have b3 := fun u : Ext w5 => u.cell (o5.wat 3 (by omega))
  clear hb0 hbel0 hb5 o45 o5
  refine wp_region_typed w5 16 (by kernel_rfl) (by kernel_rfl) (Below.refl _ _) ?_; simp only [List.take_succ_cons, List.take_zero, List.take_nil]
  iterate 1 (refine wpX_step (by rfl) (fun K hK => ?_); go_simp; first | (refine hK _ ?_; clear hK K) | (apply Exists.intro; refine ⟨fun _ => ?_, hK _ ?_⟩; fail; clear hK K))
  (refine wpX_step (by rfl) (fun K hK => ?_); go_simp; first | (refine hK _ ?_; clear hK K) | (apply Exists.intro; refine ⟨fun _ => ?_, hK _ ?_⟩; exact C3.out _; clear hK K))
  iterate 1 (refine wpX_step (by rfl) (fun K hK => ?_); go_simp; first | (refine hK _ ?_; clear hK K) | (apply Exists.intro; refine ⟨fun _ => ?_, hK _ ?_⟩; fail; clear hK K))
  (refine wpX_step (by rfl) (fun K hK => ?_); go_simp; first | (refine hK _ ?_; clear hK K) | (apply Exists.intro; refine ⟨fun _ => ?_, hK _ ?_⟩; exact C4.out _; clear hK K))
  iterate 9 (refine wpX_step (by rfl) (fun K hK => ?_); go_simp; first | (refine hK _ ?_; clear hK K) | (apply Exists.intro; refine ⟨fun _ => ?_, hK _ ?_⟩; fail; clear hK K))
  (refine wpX_step (by rfl) (fun K hK => ?_); rw [if_pos (by rfl)]; refine ⟨_, fun u => const_eql _ _ _ _ (by rfl) (by rfl) (by rfl) (fun o1 o2 w1 => G1.out o1 o2 w1) (fun w1 => Q1.out w1), hK _ ?_⟩; clear hK K; simp only [Act.put, List.setIfInBounds_toArray, List.set_cons_zero, List.set_cons_succ])
  iterate 2 (refine wpX_step (by rfl) (fun K hK => ?_); go_simp; first | (refine hK _ ?_; clear hK K) | (apply Exists.intro; refine ⟨fun _ => ?_, hK _ ?_⟩; fail; clear hK K))
  refine wpX_end rfl ?_
  rintro w8 hw8
  simp only [List.reverse_nil, forallRel]
  have hbel8 := hbel5.trans (hw8.mono hbel5.size)
  clear k0 k1 k2 k3 a0 a1 a2 a3 b0 b1 b2 b3
  go_wp2
  go_ret
  exact ⟨rfl, hbel8⟩
end Go.Proofs.Ytgmdbleeagfhpaa
