/- twos.Sar. -/
import Derived.Test.YtgmdbleeagfhpaaShift7
set_option linter.unusedSimpArgs false
set_option linter.unusedVariables false
namespace Go.Proofs.Ytgmdbleeagfhpaa
open Go.RowKit
theorem not_zero_l (w : World) : Calls Try.prog 37 #[.agg #[.int .u64 0, .int .u64 0, .int .u64 0, .int .u64 0]] w fun e w' => e = .returned (.agg (wcs onesN).toArray) ∧ Below w.heap.size w w' := by
  have h := tnot_any 0 (by unfold W256; omega) w
  have h2 : wv 0 = .agg #[.int .u64 0, .int .u64 0, .int .u64 0, .int .u64 0] := by
    show Value.agg (wcs 0).toArray = _
    rw [z4_zero]; rfl
  rw [h2] at h
  exact h
theorem shr_l (N A : Nat) (hN : N < W256) (hA : A < W256) (w : World) : Calls Try.prog 25 #[.agg (wcs N).toArray, .agg (wcs A).toArray] w fun e w' => e = .returned (.agg (wcs (A / 2 ^ N)).toArray) ∧ Below w.heap.size w w' := shr_any N A hN hA w
/-- The arguments, the result, the ones. -/
structure FrT (w : World) (N A g : Nat) (u : World) : Prop where
  b : Blk 24 u w.heap.size (wcs N)
  d : Blk 24 u (w.heap.size + 1) (wcs A)
  z : Blk 24 u (w.heap.size + 2) z4
  o : Blk 24 u g (wcs onesN)
  bel : Below w.heap.size w u
theorem FrT.kept {w u u' : World} {N A g : Nat} (h : FrT w N A g u) (hb : Below u.heap.size u u') : FrT w N A g u' := ⟨h.b.kept hb, h.d.kept hb, h.z.kept hb, h.o.kept hb, h.bel.trans (hb.mono h.bel.size)⟩
set_option maxHeartbeats 800000 in
set_option maxRecDepth 100000 in
theorem sar_any (N A : Nat) (hN : N < W256) (hA : A < W256) (w : World) : Calls Try.prog 27 #[wv N, wv A] w fun e w' => e = .returned (wv (sarN A N)) ∧ Below w.heap.size w w' := by
  obtain ⟨hb0, hd0, hz0, hbel0⟩ := box3 w N A
  obtain ⟨w1, hw1⟩ : ∃ w1, w1 = ((w.alloc (.cells (wcs N).toArray 24)).alloc (.cells (wcs A).toArray 24)).alloc (.cells z4.toArray 24) := ⟨_, rfl⟩
  rw [← hw1] at hb0 hd0 hz0 hbel0
  show Calls Try.prog 27 #[.agg (wcs N).toArray, .agg (wcs A).toArray] w _
  have Hw1 := Lib.hid hw1
  clear hw1
  have mk : ∀ (w2 w3 : World), Below w1.heap.size w1 w2 → Blk 24 w3 w2.heap.size (wcs onesN) → Below w2.heap.size (w2.alloc (.cells z4.toArray 24)) w3 → (w2.alloc (.cells z4.toArray 24)).grownBy w3 (some w2.heap.size) → FrT w N A w2.heap.size w3 := by
    intro w2 w3 b2 o3 b3 g3
    have q2 := (hz0.kept b2).lt
    refine ⟨((hb0.kept b2).alloc _).grown g3 (by simp; omega), ((hd0.kept b2).alloc _).grown g3 (by simp; omega), ((hz0.kept b2).alloc _).grown g3 (by simp; omega), o3, ?_⟩
    exact ((Below.then hbel0 b2).alloc (by omega) _).trans (b3.mono (by omega))
  have Mk := Lib.hid mk
  cases hsg : A.testBit 255 with
  | false =>
    have Hsg := Lib.hid hsg
    have hS : sarN A N = A / 2 ^ N := by unfold sarN; rw [hsg]; rfl
    have HS := Lib.hid hS
    clear mk hsg hS
    go_enter Try.func27, Try.ntmps27
    go_wp2_with (first
      | (rw [show ((w.alloc (.cells (wcs N).toArray 24)).alloc (.cells (wcs A).toArray 24)).alloc (.cells #[.int .u64 0, .int .u64 0, .int .u64 0, .int .u64 0] 24) = w1 from by rw [Hw1.out]; rfl])
      | (go_at_call 37; (with_reducible refine (not_zero_l _).mono ?_); rintro e w2 ⟨rfl, b2⟩)
      | (refine wpList_storeA (by rfl) 24 (.tmp 5) (.tmp 7) (by rfl) (w2.heap.size) (wcs (onesN)) (by rfl) (by rfl) aggWord (Blk.new w2 24 z4) (wcs_len _) (by first | exact wcs_len _ | rfl) (wcs_one _) (Below.refl _ _) (Nat.le_refl _) ?_; intro w3 o3 b3 g3; have hF3 := Mk.out w2 w3 b2 o3 b3 g3)
      | (refine wpList_loadA (o := ⟨some 9, _, _, _, _, _⟩) (by rfl) 24 (.tmp 3) (by rfl) (w.heap.size + 1) (by rfl) aggWord hF3.d (wcs_len _) ?_)
      | (go_at_call 66; (with_reducible refine (minus_l A false Hsg.out _).mono ?_); rintro e w4 ⟨rfl, b4⟩; have hF4 := hF3.kept b4)
      | (refine wpList_loadA (o := ⟨some 12, _, _, _, _, _⟩) (by rfl) 24 (.tmp 2) (by rfl) (w.heap.size) (by rfl) aggWord hF4.b (wcs_len _) ?_)
      | (refine wpList_loadA (o := ⟨some 13, _, _, _, _, _⟩) (by rfl) 24 (.tmp 3) (by rfl) (w.heap.size + 1) (by rfl) aggWord hF4.d (wcs_len _) ?_)
      | (go_at_call 25; (with_reducible refine (shr_l N A hN hA _).mono ?_); rintro e w5 ⟨rfl, b5⟩; have hF5 := hF4.kept b5)
      | (refine wpList_storeA (by rfl) 24 (.tmp 4) (.tmp 14) (by rfl) (w.heap.size + 2) (wcs (A / 2 ^ N)) (by rfl) (by rfl) aggWord hF5.z (wcs_len _) (by first | exact wcs_len _ | rfl) (wcs_one _) (Below.refl _ _) (Nat.le_refl _) ?_; intro w7 hb7 b7 g7; have hbel7 := hF5.bel.trans (b7.mono (by omega))))
    exact bodyPost_ret (results_blk rfl _ _ (w.heap.size + 2) aggWord hb7 (wcs_len _) rfl) rfl ⟨by rw [HS.out]; rfl, hbel7⟩
  | true =>
    have Hsg := Lib.hid hsg
    by_cases hfar : 256 ≤ N
    · have Hd := Lib.hid (decide_eq_true hfar)
      have hS : sarN A N = onesN := by unfold sarN; rw [hsg, if_pos rfl, if_pos hfar]
      have HS := Lib.hid hS
      clear mk hsg hS hfar
      go_enter Try.func27, Try.ntmps27
      go_wp2_with (first
        | (rw [show ((w.alloc (.cells (wcs N).toArray 24)).alloc (.cells (wcs A).toArray 24)).alloc (.cells #[.int .u64 0, .int .u64 0, .int .u64 0, .int .u64 0] 24) = w1 from by rw [Hw1.out]; rfl])
        | (go_at_call 37; (with_reducible refine (not_zero_l _).mono ?_); rintro e w2 ⟨rfl, b2⟩)
        | (refine wpList_storeA (by rfl) 24 (.tmp 5) (.tmp 7) (by rfl) (w2.heap.size) (wcs (onesN)) (by rfl) (by rfl) aggWord (Blk.new w2 24 z4) (wcs_len _) (by first | exact wcs_len _ | rfl) (wcs_one _) (Below.refl _ _) (Nat.le_refl _) ?_; intro w3 o3 b3 g3; have hF3 := Mk.out w2 w3 b2 o3 b3 g3)
        | (refine wpList_loadA (o := ⟨some 9, _, _, _, _, _⟩) (by rfl) 24 (.tmp 3) (by rfl) (w.heap.size + 1) (by rfl) aggWord hF3.d (wcs_len _) ?_)
        | (go_at_call 66; (with_reducible refine (minus_l A true Hsg.out _).mono ?_); rintro e w4 ⟨rfl, b4⟩; have hF4 := hF3.kept b4)
        | (refine wpList_loadA (o := ⟨some 16, _, _, _, _, _⟩) (by rfl) 24 (.tmp 2) (by rfl) (w.heap.size) (by rfl) aggWord hF4.b (wcs_len _) ?_)
        | (go_at_call 76; (with_reducible refine (far_l N hN true Hd.out _).mono ?_); rintro e w5 ⟨rfl, b5⟩; have hF5 := hF4.kept b5)
        | (refine wpList_loadA (o := ⟨some 18, _, _, _, _, _⟩) (by rfl) 24 (.tmp 5) (by rfl) (w2.heap.size) (by rfl) aggWord hF5.o (wcs_len _) ?_)
        | (refine wpList_storeA (by rfl) 24 (.tmp 4) (.tmp 18) (by rfl) (w.heap.size + 2) (wcs (onesN)) (by rfl) (by rfl) aggWord hF5.z (wcs_len _) (by first | exact wcs_len _ | rfl) (wcs_one _) (Below.refl _ _) (Nat.le_refl _) ?_; intro w7 hb7 b7 g7; have hbel7 := hF5.bel.trans (b7.mono (by omega))))
      exact bodyPost_ret (results_blk rfl _ _ (w.heap.size + 2) aggWord hb7 (wcs_len _) rfl) rfl ⟨by rw [HS.out]; rfl, hbel7⟩
    · have Hd := Lib.hid (decide_eq_false hfar)
      obtain ⟨M, hM⟩ : ∃ M : Nat, M = 256 := ⟨_, rfl⟩
      have hMW : M < W256 := by rw [hM]; unfold W256; omega
      obtain ⟨D, hD⟩ : ∃ D, D = 256 - N := ⟨_, rfl⟩
      have hsub : subN M N = D := by
        rw [hM, hD]; unfold subN
        rw [show 256 + W256 - N = (256 - N) + W256 from by unfold W256; omega, Nat.add_mod_right, Nat.mod_eq_of_lt (by unfold W256; omega)]
      obtain ⟨X1, hX1⟩ : ∃ X, X = A / 2 ^ N := ⟨_, rfl⟩
      obtain ⟨X2, hX2⟩ : ∃ X, X = shlN onesN D := ⟨_, rfl⟩
      obtain ⟨X, hX⟩ : ∃ X, X = orN X1 X2 := ⟨_, rfl⟩
      have hS : sarN A N = X := by unfold sarN; rw [hsg, if_pos rfl, if_neg hfar, ← hD, ← hX1, ← hX2, ← hX]
      have c1 := fun w => shr_any N A hN hA w
      rw [← hX1] at c1
      have c2 : ∀ w, Calls Try.prog 81 #[.int .u64 256] w fun e w' => e = .returned (wv M) ∧ Below w.heap.size w w' := fun w => by rw [hM]; exact int_any 256 (by omega) w
      have c3 := fun w => sub_any M N hN w
      rw [hsub] at c3
      have c4 := fun w => shl_any D onesN (by rw [hD]; unfold W256; omega) w
      rw [← hX2] at c4
      have c5 := fun w => tor_any X1 X2 w
      rw [← hX] at c5
      have C1 := Lib.hid c1
      have C2 := Lib.hid c2
      have C3 := Lib.hid c3
      have C4 := Lib.hid c4
      have C5 := Lib.hid c5
      have HS := Lib.hid hS
      clear mk hsg hS hfar c1 c2 c3 c4 c5 hX hX1 hX2 hsub hD hM
      go_enter Try.func27, Try.ntmps27
      go_wp2_with (first
        | (rw [show ((w.alloc (.cells (wcs N).toArray 24)).alloc (.cells (wcs A).toArray 24)).alloc (.cells #[.int .u64 0, .int .u64 0, .int .u64 0, .int .u64 0] 24) = w1 from by rw [Hw1.out]; rfl])
        | (go_at_call 37; (with_reducible refine (not_zero_l _).mono ?_); rintro e w2 ⟨rfl, b2⟩)
        | (refine wpList_storeA (by rfl) 24 (.tmp 5) (.tmp 7) (by rfl) (w2.heap.size) (wcs (onesN)) (by rfl) (by rfl) aggWord (Blk.new w2 24 z4) (wcs_len _) (by first | exact wcs_len _ | rfl) (wcs_one _) (Below.refl _ _) (Nat.le_refl _) ?_; intro w3 o3 b3 g3; have hF3 := Mk.out w2 w3 b2 o3 b3 g3)
        | (refine wpList_loadA (o := ⟨some 9, _, _, _, _, _⟩) (by rfl) 24 (.tmp 3) (by rfl) (w.heap.size + 1) (by rfl) aggWord hF3.d (wcs_len _) ?_)
        | (go_at_call 66; (with_reducible refine (minus_l A true Hsg.out _).mono ?_); rintro e w4 ⟨rfl, b4⟩; have hF4 := hF3.kept b4)
        | (refine wpList_loadA (o := ⟨some 16, _, _, _, _, _⟩) (by rfl) 24 (.tmp 2) (by rfl) (w.heap.size) (by rfl) aggWord hF4.b (wcs_len _) ?_)
        | (go_at_call 76; (with_reducible refine (far_l N hN false Hd.out _).mono ?_); rintro e w5 ⟨rfl, b5⟩; have hF5 := hF4.kept b5))
      have k0 := fun u : Ext w5 => u.cell (hF5.b.wat 0 (by omega))
      have k1 := fun u : Ext w5 => u.cell (hF5.b.wat 1 (by omega))
      have k2 := fun u : Ext w5 => u.cell (hF5.b.wat 2 (by omega))
      have k3 := fun u : Ext w5 => u.cell (hF5.b.wat 3 (by omega))
      have m0 := fun u : Ext w5 => u.cell (hF5.d.wat 0 (by omega))
      have m1 := fun u : Ext w5 => u.cell (hF5.d.wat 1 (by omega))
      have m2 := fun u : Ext w5 => u.cell (hF5.d.wat 2 (by omega))
      have m3 := fun u : Ext w5 => u.cell (hF5.d.wat 3 (by omega))
      have n0 := fun u : Ext w5 => u.cell (hF5.o.wat 0 (by omega))
      have n1 := fun u : Ext w5 => u.cell (hF5.o.wat 1 (by omega))
      have n2 := fun u : Ext w5 => u.cell (hF5.o.wat 2 (by omega))
      have n3 := fun u : Ext w5 => u.cell (hF5.o.wat 3 (by omega))
      clear b2 b3 g3 o3 hF3 hF4 b4 b5
      refine wp_region_typed w5 9 (by kernel_rfl) (by kernel_rfl) (Below.refl _ _) ?_; simp only [List.take_succ_cons, List.take_zero, List.take_nil]
      iterate 2 (refine wpX_step (by rfl) (fun K hK => ?_); go_simp; first | (refine hK _ ?_; clear hK K) | (apply Exists.intro; refine ⟨fun _ => ?_, hK _ ?_⟩; fail; clear hK K))
      (refine wpX_step (by rfl) (fun K hK => ?_); go_simp; first | (refine hK _ ?_; clear hK K) | (apply Exists.intro; refine ⟨fun _ => ?_, hK _ ?_⟩; exact C1.out _; clear hK K))
      (refine wpX_step (by rfl) (fun K hK => ?_); go_simp; first | (refine hK _ ?_; clear hK K) | (apply Exists.intro; refine ⟨fun _ => ?_, hK _ ?_⟩; exact C2.out _; clear hK K))
      iterate 1 (refine wpX_step (by rfl) (fun K hK => ?_); go_simp; first | (refine hK _ ?_; clear hK K) | (apply Exists.intro; refine ⟨fun _ => ?_, hK _ ?_⟩; fail; clear hK K))
      (refine wpX_step (by rfl) (fun K hK => ?_); go_simp; first | (refine hK _ ?_; clear hK K) | (apply Exists.intro; refine ⟨fun _ => ?_, hK _ ?_⟩; exact C3.out _; clear hK K))
      iterate 1 (refine wpX_step (by rfl) (fun K hK => ?_); go_simp; first | (refine hK _ ?_; clear hK K) | (apply Exists.intro; refine ⟨fun _ => ?_, hK _ ?_⟩; fail; clear hK K))
      (refine wpX_step (by rfl) (fun K hK => ?_); go_simp; first | (refine hK _ ?_; clear hK K) | (apply Exists.intro; refine ⟨fun _ => ?_, hK _ ?_⟩; exact C4.out _; clear hK K))
      (refine wpX_step (by rfl) (fun K hK => ?_); go_simp; first | (refine hK _ ?_; clear hK K) | (apply Exists.intro; refine ⟨fun _ => ?_, hK _ ?_⟩; exact C5.out _; clear hK K))
      refine wpX_nil ?_
      intro w6 hw6
      change wpList _ _ _ [_] _ _
      have hF6 := hF5.kept hw6
      clear k0 k1 k2 k3 m0 m1 m2 m3 n0 n1 n2 n3
      go_wp2_with (refine wpList_storeA (by rfl) 24 (.tmp 4) (.tmp 27) (by rfl) (w.heap.size + 2) (wcs (X)) (by rfl) (by rfl) aggWord hF6.z (wcs_len _) (by first | exact wcs_len _ | rfl) (wcs_one _) (Below.refl _ _) (Nat.le_refl _) ?_; intro w7 hb7 b7 g7; have hbel7 := hF6.bel.trans (b7.mono (by omega)))
      exact bodyPost_ret (results_blk rfl _ _ (w.heap.size + 2) aggWord hb7 (wcs_len _) rfl) rfl ⟨by rw [HS.out]; rfl, hbel7⟩
end Go.Proofs.Ytgmdbleeagfhpaa
