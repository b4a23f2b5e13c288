/- twos.SDivMod, the reference's TSDivMod. Printed by gen_twosq3.py. -/
import Derived.Test.YtgmdbleeagfhpaaTwosQ2
set_option linter.unusedSimpArgs false
set_option linter.unusedVariables false
namespace Go.Proofs.Ytgmdbleeagfhpaa
open Go.RowKit
theorem size_l (N : Nat) (hN : N < W256) (w : World) : Calls Try.prog 65 #[.agg (wcs N).toArray] w fun e w' => e = .returned (.agg (wcs (sizeN N)).toArray) ∧ Below w.heap.size w w' := size_any N hN w
theorem FrX.below' {w u u' : World} {N M Q R : Nat} (h : FrX w N M Q R u) (hb : Below u.heap.size u u') : FrX w N M Q R u' := h.kept hb
/-- A store far from all of these. -/
theorem FrX.far {w u u' : World} {N M Q R g : Nat} (h : FrX w N M Q R u) (hr : u.grownBy u' (some g)) (hb : Below g u u') (hg : w.heap.size + 4 ≤ g) : FrX w N M Q R u' :=
  ⟨h.b.grown hr (by simp; omega), h.d.grown hr (by simp; omega), ⟨h.f.q.grown hr (by simp; omega), h.f.r.grown hr (by simp; omega), h.f.bel.trans (hb.mono (by omega)), h.f.ne, h.f.le4, h.f.le5⟩⟩
set_option linter.unusedSimpArgs false in
set_option maxHeartbeats 1000000 in
set_option maxRecDepth 100000 in
theorem sdivmod_any (N M : Nat) (hN : N < W256) (hM : M < W256) (w : World) :
    Calls Try.prog 15 #[wv N, wv M] w fun e w' => e = .returned (.tuple #[wv (sdq N M), wv (sdr N M)]) ∧ Below w.heap.size w w' := by
  obtain ⟨hb0, hd0, hr0⟩ := box4 w N M
  obtain ⟨w1, hw1⟩ : ∃ w1, w1 = (((w.alloc (.cells (wcs N).toArray 24)).alloc (.cells (wcs M).toArray 24)).alloc (.cells z4.toArray 24)).alloc (.cells z4.toArray 24) := ⟨_, rfl⟩
  rw [← hw1] at hb0 hd0 hr0
  have hF : FrX w N M 0 0 w1 := ⟨hb0, hd0, hr0⟩
  have hs1 : w1.heap.size = w.heap.size + 4 := by rw [hw1]; simp
  have Hs1 := Lib.hid hs1
  show Calls Try.prog 15 #[.agg (wcs N).toArray, .agg (wcs M).toArray] w _
  have Hw1 := Lib.hid hw1
  have hsN := sizeN_lt N hN
  have hsM := sizeN_lt M hM
  have hQ : sizeN N / sizeN M < W256 := Nat.lt_of_le_of_lt (Nat.div_le_self _ _) hsN
  have hR : modN (sizeN N) (sizeN M) < W256 := by
    unfold modN; split
    · unfold W256; omega
    · exact Nat.lt_of_le_of_lt (Nat.mod_le _ _) hsN
  have cD := fun w => divmod_any (sizeN N) (sizeN M) hsN hsM w
  have hq : sdq N M = if (N.testBit 255 != M.testBit 255) = true then negN (sizeN N / sizeN M) else sizeN N / sizeN M := rfl
  have hr : sdr N M = if N.testBit 255 = true then negN (modN (sizeN N) (sizeN M)) else modN (sizeN N) (sizeN M) := rfl
  obtain ⟨Q, eQ⟩ : ∃ Q, Q = sizeN N / sizeN M := ⟨_, rfl⟩
  obtain ⟨R, eR⟩ : ∃ R, R = modN (sizeN N) (sizeN M) := ⟨_, rfl⟩
  rw [← eQ] at hQ cD hq
  rw [← eR] at hR cD hr
  clear hw1 hs1 hb0 hd0 hr0 eQ eR
  cases hbN : N.testBit 255 with
  | true =>
    cases hbM : M.testBit 255 with
    | true =>
      have cD' := cD
      have hq' := hq
      have hr' := hr
      rw [hbN, hbM] at hq'
      rw [hbN] at hr'
      rw [if_neg (by decide)] at hq'
      rw [if_pos (by decide)] at hr'
      have HD := Lib.hid cD'
      have HQ := Lib.hid hq'
      have HR := Lib.hid hr'
      have HmN := Lib.hid (fun w => minus_any N w)
      have HmM := Lib.hid (fun w => minus_any M w)
      rw [hbN] at HmN
      rw [hbM] at HmM
      have HN := Lib.hid hbN
      have HM := Lib.hid hbM
      clear cD cD' hq hq' hr hr' hbN hbM
      go_enter Try.func15, Try.ntmps15
      go_wp2
      (rw [show (((w.alloc (.cells (wcs N).toArray 24)).alloc (.cells (wcs M).toArray 24)).alloc (.cells #[.int .u64 0, .int .u64 0, .int .u64 0, .int .u64 0] 24)).alloc (.cells #[.int .u64 0, .int .u64 0, .int .u64 0, .int .u64 0] 24) = w1 from by rw [Hw1.out]; rfl])
      clear Hw1
      refine wp_region_h ((fun u => Blk 24 u w.heap.size (wcs N) ∧ Blk 24 u (w.heap.size + 1) (wcs M))) (by kernel_rfl) ?_; intro u0 hu0; simp only [List.length_cons, List.length_nil, Nat.reduceAdd, List.replicate_succ, List.replicate_zero]
      have hU0 : FrX w N M 0 0 u0 := (by rw [hu0]; exact FrX.drew hF)
      have hS : (fun u => Blk 24 u w.heap.size (wcs N) ∧ Blk 24 u (w.heap.size + 1) (wcs M)) u0 := ⟨hU0.b, hU0.d⟩
      clear hu0
      (refine wpH_take 0 (by rfl) (by kernel_rfl) (by intro _ _ _ h; first | exact h | (cases h.1)) (by intro _ _ _ _ h; first | exact h | (cases h.1)) (by assumption) (fun K hK => ?_); simp only [List.setIfInBounds_toArray, List.set_cons_zero, List.set_cons_succ] at hK; refine take_loadA (by rfl) 24 (.tmp 2) (by rfl) (w.heap.size) (by rfl) aggWord (fun u hu => And.left hu) (wcs_len _) (hK _ ?_); clear hK K; simp only [Act.put, List.getElem_toArray, List.getElem_cons_zero, List.getElem_cons_succ, List.setIfInBounds_toArray, List.set_cons_zero, List.set_cons_succ])
      (refine wpH_take 2 (by rfl) (by kernel_rfl) (by intro _ _ _ h; first | exact h | (cases h.1)) (by intro _ _ _ _ h; first | exact h | (cases h.1)) (by assumption) (fun K hK => ?_); simp only [List.setIfInBounds_toArray, List.set_cons_zero, List.set_cons_succ] at hK; refine take_loadA (by rfl) 24 (.tmp 3) (by rfl) (w.heap.size + 1) (by rfl) aggWord (fun u hu => And.right hu) (wcs_len _) (hK _ ?_); clear hK K; simp only [Act.put, List.getElem_toArray, List.getElem_cons_zero, List.getElem_cons_succ, List.setIfInBounds_toArray, List.set_cons_zero, List.set_cons_succ])
      (refine wpH_only 1 (by rfl) (by kernel_rfl) (fun K hK => ?_); simp only [List.setIfInBounds_toArray, List.set_cons_zero, List.set_cons_succ] at hK; go_simp)
      (with_reducible refine (size_l N hN _).mono ?_)
      rintro e u1 ⟨rfl, d1⟩
      have hU1 := hU0.kept d1
      have hS1 : (fun u => Blk 24 u w.heap.size (wcs N) ∧ Blk 24 u (w.heap.size + 1) (wcs M)) u1 := ⟨hU1.b, hU1.d⟩
      refine hK _ _ hS1 ?_; clear hK K
      (refine wpH_only 3 (by rfl) (by kernel_rfl) (fun K hK => ?_); simp only [List.setIfInBounds_toArray, List.set_cons_zero, List.set_cons_succ] at hK; go_simp)
      (with_reducible refine (size_l M hM _).mono ?_)
      rintro e u2 ⟨rfl, d2⟩
      have hU2 := hU1.kept d2
      have hS2 : (fun u => Blk 24 u w.heap.size (wcs N) ∧ Blk 24 u (w.heap.size + 1) (wcs M)) u2 := ⟨hU2.b, hU2.d⟩
      refine hK _ _ hS2 ?_; clear hK K
      (refine wpH_only 4 (by rfl) (by kernel_rfl) (fun K hK => ?_); simp only [List.setIfInBounds_toArray, List.set_cons_zero, List.set_cons_succ] at hK; go_simp)
      refine (HD.out _).mono ?_
      rintro e u3 ⟨rfl, d3⟩
      have hU3 := hU2.kept d3
      have hS3 : (fun u => Blk 24 u w.heap.size (wcs N) ∧ Blk 24 u (w.heap.size + 1) (wcs M)) u3 := ⟨hU3.b, hU3.d⟩
      refine hK _ _ hS3 ?_; clear hK K
      (refine wpH_take 5 (by rfl) (by kernel_rfl) (by intro _ _ _ h; first | exact h | (cases h.1)) (by intro _ _ _ _ h; first | exact h | (cases h.1)) (by assumption) (fun K hK => ?_); simp only [List.setIfInBounds_toArray, List.set_cons_zero, List.set_cons_succ] at hK; go_simp; first | (refine hK _ ?_; clear hK K) | (apply Exists.intro; refine ⟨fun _ => rfl, hK _ ?_⟩; clear hK K)); (refine wpH_take 6 (by rfl) (by kernel_rfl) (by intro _ _ _ h; first | exact h | (cases h.1)) (by intro _ _ _ _ h; first | exact h | (cases h.1)) (by assumption) (fun K hK => ?_); simp only [List.setIfInBounds_toArray, List.set_cons_zero, List.set_cons_succ] at hK; go_simp; first | (refine hK _ ?_; clear hK K) | (apply Exists.intro; refine ⟨fun _ => rfl, hK _ ?_⟩; clear hK K)); (refine wpH_take 7 (by rfl) (by kernel_rfl) (by intro _ _ _ h; first | exact h | (cases h.1)) (by intro _ _ _ _ h; first | exact h | (cases h.1)) (by assumption) (fun K hK => ?_); simp only [List.setIfInBounds_toArray, List.set_cons_zero, List.set_cons_succ] at hK; go_simp; first | (refine hK _ ?_; clear hK K) | (apply Exists.intro; refine ⟨fun _ => rfl, hK _ ?_⟩; clear hK K))
      (refine wpH_only 8 (by rfl) (by kernel_rfl) (fun K hK => ?_); simp only [List.setIfInBounds_toArray, List.set_cons_zero, List.set_cons_succ] at hK; refine step_storeA (by rfl) 24 (.tmp 4) (.tmp 12) (by rfl) (w.heap.size + 2) (wcs (Q)) (by rfl) (by rfl) aggWord hU3.f.q (wcs_len _) (by first | exact wcs_len _ | rfl) (wcs_one _) ?_; intro u4 o4 d4 g4; simp only [Act.put, List.getElem_toArray, List.getElem_cons_zero, List.getElem_cons_succ, List.setIfInBounds_toArray, List.set_cons_zero, List.set_cons_succ])
      have hU4 := hU3.st4 o4 d4 g4
      have hS4 : (fun u => Blk 24 u w.heap.size (wcs N) ∧ Blk 24 u (w.heap.size + 1) (wcs M)) u4 := ⟨hU4.b, hU4.d⟩
      refine hK _ _ hS4 ?_; clear hK K
      (refine wpH_only 9 (by rfl) (by kernel_rfl) (fun K hK => ?_); simp only [List.setIfInBounds_toArray, List.set_cons_zero, List.set_cons_succ] at hK; refine step_storeA (by rfl) 24 (.tmp 5) (.tmp 13) (by rfl) (w.heap.size + 3) (wcs (R)) (by rfl) (by rfl) aggWord hU4.f.r (wcs_len _) (by first | exact wcs_len _ | rfl) (wcs_one _) ?_; intro u5 o5' d5 g5'; simp only [Act.put, List.getElem_toArray, List.getElem_cons_zero, List.getElem_cons_succ, List.setIfInBounds_toArray, List.set_cons_zero, List.set_cons_succ])
      have hU5 := hU4.st5 o5' d5 g5'
      have hS5 : (fun u => Blk 24 u w.heap.size (wcs N) ∧ Blk 24 u (w.heap.size + 1) (wcs M)) u5 := ⟨hU5.b, hU5.d⟩
      refine hK _ _ hS5 ?_; clear hK K
      refine wpH_done (by kernel_rfl) ?_
      clear hS hS1 hS2 hS3 hS4 hS5
      go_wp2
      have k0 := fun u : Ext u5 => u.cell (hU5.b.wat 0 (by omega))
      have k1 := fun u : Ext u5 => u.cell (hU5.b.wat 1 (by omega))
      have k2 := fun u : Ext u5 => u.cell (hU5.b.wat 2 (by omega))
      have k3 := fun u : Ext u5 => u.cell (hU5.b.wat 3 (by omega))
      have m0 := fun u : Ext u5 => u.cell (hU5.d.wat 0 (by omega))
      have m1 := fun u : Ext u5 => u.cell (hU5.d.wat 1 (by omega))
      have m2 := fun u : Ext u5 => u.cell (hU5.d.wat 2 (by omega))
      have m3 := fun u : Ext u5 => u.cell (hU5.d.wat 3 (by omega))
      refine wp_region_typed u5 5 (by kernel_rfl) (by kernel_rfl) (Below.refl _ _) ?_; simp only [List.take_succ_cons, List.take_zero, List.take_nil]
      iterate 1 (refine wpX_step (by rfl) (fun K hK => ?_); go_simp; first | (refine hK _ ?_; clear hK K) | (apply Exists.intro; refine ⟨fun _ => ?_, hK _ ?_⟩; fail; clear hK K))
      (refine wpX_step (by rfl) (fun K hK => ?_); go_simp; first | (refine hK _ ?_; clear hK K) | (apply Exists.intro; refine ⟨fun _ => ?_, hK _ ?_⟩; exact HmN.out _; clear hK K))
      iterate 1 (refine wpX_step (by rfl) (fun K hK => ?_); go_simp; first | (refine hK _ ?_; clear hK K) | (apply Exists.intro; refine ⟨fun _ => ?_, hK _ ?_⟩; fail; clear hK K))
      (refine wpX_step (by rfl) (fun K hK => ?_); go_simp; first | (refine hK _ ?_; clear hK K) | (apply Exists.intro; refine ⟨fun _ => ?_, hK _ ?_⟩; exact HmM.out _; clear hK K))
      iterate 1 (refine wpX_step (by rfl) (fun K hK => ?_); go_simp; first | (refine hK _ ?_; clear hK K) | (apply Exists.intro; refine ⟨fun _ => ?_, hK _ ?_⟩; fail; clear hK K))
      refine wpX_end rfl ?_
      rintro u6 hu6
      simp only [List.reverse_nil, forallRel]
      have hU6 := hU5.kept hu6
      clear k0 k1 k2 k3 m0 m1 m2 m3
      go_wp2_with (first
        | (refine wpList_loadA (o := ⟨some 21, _, _, _, _, _⟩) (by rfl) 24 (.tmp 2) (by rfl) (w.heap.size) (by rfl) aggWord hU6.b (wcs_len _) ?_)
        | (go_at_call 66; (with_reducible refine (minus_l N true HN.out _).mono ?_); rintro e v3 ⟨rfl, c3⟩; have G3 := hU6.kept c3)
        | (refine wpList_loadA (o := ⟨some 23, _, _, _, _, _⟩) (by rfl) 24 (.tmp 5) (by rfl) (w.heap.size + 3) (by rfl) aggWord G3.f.r (wcs_len _) ?_)
        | (go_at_call 38; (with_reducible refine (neg_l R hR _).mono ?_); rintro e v4 ⟨rfl, c4⟩; have G4 := G3.kept c4)
        | (refine wpList_storeA (by rfl) 24 (.tmp 5) (.tmp 24) (by rfl) (w.heap.size + 3) (wcs (negN R)) (by rfl) (by rfl) aggWord G4.f.r (wcs_len _) (by first | exact wcs_len _ | rfl) (wcs_one _) (Below.refl _ _) (Nat.le_refl _) ?_; intro v5 o5 c5 g5; have G5 := G4.st5 o5 c5 g5))
      (refine wp_region_h (Fr2 (w) (w.heap.size + 2) (w.heap.size + 3) (Q) (negN R)) (by kernel_rfl) ?_; intro u0 hu0; simp only [List.length_cons, List.length_nil, Nat.reduceAdd, List.replicate_succ, List.replicate_zero]; have hR0 : Fr2 (w) (w.heap.size + 2) (w.heap.size + 3) (Q) (negN R) u0 := (by rw [hu0]; exact Fr2.drew G5.f); clear hu0; (refine wpH_take 0 (by rfl) (by kernel_rfl) (by intro _ _ _ h; first | exact h | (cases h.1)) (by intro _ _ _ _ h; first | exact h | (cases h.1)) (by assumption) (fun K hK => ?_); simp only [List.setIfInBounds_toArray, List.set_cons_zero, List.set_cons_succ] at hK; refine take_loadA (by rfl) 24 (.tmp 4) (by rfl) (w.heap.size + 2) (by rfl) aggWord (fun u hu => Fr2.q hu) (wcs_len _) (hK _ ?_); clear hK K; simp only [Act.put, List.getElem_toArray, List.getElem_cons_zero, List.getElem_cons_succ, List.setIfInBounds_toArray, List.set_cons_zero, List.set_cons_succ]); (refine wpH_take 1 (by rfl) (by kernel_rfl) (by intro _ _ _ h; first | exact h | (cases h.1)) (by intro _ _ _ _ h; first | exact h | (cases h.1)) (by assumption) (fun K hK => ?_); simp only [List.setIfInBounds_toArray, List.set_cons_zero, List.set_cons_succ] at hK; refine take_loadA (by rfl) 24 (.tmp 5) (by rfl) (w.heap.size + 3) (by rfl) aggWord (fun u hu => Fr2.r hu) (wcs_len _) (hK _ ?_); clear hK K; simp only [Act.put, List.getElem_toArray, List.getElem_cons_zero, List.getElem_cons_succ, List.setIfInBounds_toArray, List.set_cons_zero, List.set_cons_succ]); (refine wpH_only 2 (by rfl) (by kernel_rfl) (fun K hK => ?_); simp only [List.setIfInBounds_toArray, List.set_cons_zero, List.set_cons_succ] at hK; refine step_storeA (by rfl) 24 (.tmp 4) (.tmp 25) (by rfl) (w.heap.size + 2) (wcs (Q)) (by rfl) (by rfl) aggWord hR0.q (wcs_len _) (by first | exact wcs_len _ | rfl) (wcs_one _) ?_; intro u1 o1 b1 g1; simp only [Act.put, List.getElem_toArray, List.getElem_cons_zero, List.getElem_cons_succ, List.setIfInBounds_toArray, List.set_cons_zero, List.set_cons_succ]); have hR1 := Fr2.st4 hR0 o1 b1 g1; refine hK _ _ hR1 ?_; clear hK K; (refine wpH_only 3 (by rfl) (by kernel_rfl) (fun K hK => ?_); simp only [List.setIfInBounds_toArray, List.set_cons_zero, List.set_cons_succ] at hK; refine step_storeA (by rfl) 24 (.tmp 5) (.tmp 26) (by rfl) (w.heap.size + 3) (wcs (negN R)) (by rfl) (by rfl) aggWord hR1.r (wcs_len _) (by first | exact wcs_len _ | rfl) (wcs_one _) ?_; intro u2 o2 b2 g2; simp only [Act.put, List.getElem_toArray, List.getElem_cons_zero, List.getElem_cons_succ, List.setIfInBounds_toArray, List.set_cons_zero, List.set_cons_succ]); have hR := Fr2.st5 hR1 o2 b2 g2; refine hK _ _ hR ?_; clear hK K; refine wpH_done (by kernel_rfl) ?_)
      go_wp2
      exact bodyPost_ret (results_blk2 rfl _ _ aggWord aggWord hR.q hR.r (wcs_len _) (wcs_len _) (by rfl) (by rfl)) rfl ⟨by rw [HQ.out, HR.out]; rfl, hR.bel⟩
    | false =>
      have cD' := cD
      have hq' := hq
      have hr' := hr
      rw [hbN, hbM] at hq'
      rw [hbN] at hr'
      rw [if_pos (by decide)] at hq'
      rw [if_pos (by decide)] at hr'
      have HD := Lib.hid cD'
      have HQ := Lib.hid hq'
      have HR := Lib.hid hr'
      have HmN := Lib.hid (fun w => minus_any N w)
      have HmM := Lib.hid (fun w => minus_any M w)
      rw [hbN] at HmN
      rw [hbM] at HmM
      have HN := Lib.hid hbN
      have HM := Lib.hid hbM
      clear cD cD' hq hq' hr hr' hbN hbM
      go_enter Try.func15, Try.ntmps15
      go_wp2
      (rw [show (((w.alloc (.cells (wcs N).toArray 24)).alloc (.cells (wcs M).toArray 24)).alloc (.cells #[.int .u64 0, .int .u64 0, .int .u64 0, .int .u64 0] 24)).alloc (.cells #[.int .u64 0, .int .u64 0, .int .u64 0, .int .u64 0] 24) = w1 from by rw [Hw1.out]; rfl])
      clear Hw1
      refine wp_region_h ((fun u => Blk 24 u w.heap.size (wcs N) ∧ Blk 24 u (w.heap.size + 1) (wcs M))) (by kernel_rfl) ?_; intro u0 hu0; simp only [List.length_cons, List.length_nil, Nat.reduceAdd, List.replicate_succ, List.replicate_zero]
      have hU0 : FrX w N M 0 0 u0 := (by rw [hu0]; exact FrX.drew hF)
      have hS : (fun u => Blk 24 u w.heap.size (wcs N) ∧ Blk 24 u (w.heap.size + 1) (wcs M)) u0 := ⟨hU0.b, hU0.d⟩
      clear hu0
      (refine wpH_take 0 (by rfl) (by kernel_rfl) (by intro _ _ _ h; first | exact h | (cases h.1)) (by intro _ _ _ _ h; first | exact h | (cases h.1)) (by assumption) (fun K hK => ?_); simp only [List.setIfInBounds_toArray, List.set_cons_zero, List.set_cons_succ] at hK; refine take_loadA (by rfl) 24 (.tmp 2) (by rfl) (w.heap.size) (by rfl) aggWord (fun u hu => And.left hu) (wcs_len _) (hK _ ?_); clear hK K; simp only [Act.put, List.getElem_toArray, List.getElem_cons_zero, List.getElem_cons_succ, List.setIfInBounds_toArray, List.set_cons_zero, List.set_cons_succ])
      (refine wpH_take 2 (by rfl) (by kernel_rfl) (by intro _ _ _ h; first | exact h | (cases h.1)) (by intro _ _ _ _ h; first | exact h | (cases h.1)) (by assumption) (fun K hK => ?_); simp only [List.setIfInBounds_toArray, List.set_cons_zero, List.set_cons_succ] at hK; refine take_loadA (by rfl) 24 (.tmp 3) (by rfl) (w.heap.size + 1) (by rfl) aggWord (fun u hu => And.right hu) (wcs_len _) (hK _ ?_); clear hK K; simp only [Act.put, List.getElem_toArray, List.getElem_cons_zero, List.getElem_cons_succ, List.setIfInBounds_toArray, List.set_cons_zero, List.set_cons_succ])
      (refine wpH_only 1 (by rfl) (by kernel_rfl) (fun K hK => ?_); simp only [List.setIfInBounds_toArray, List.set_cons_zero, List.set_cons_succ] at hK; go_simp)
      (with_reducible refine (size_l N hN _).mono ?_)
      rintro e u1 ⟨rfl, d1⟩
      have hU1 := hU0.kept d1
      have hS1 : (fun u => Blk 24 u w.heap.size (wcs N) ∧ Blk 24 u (w.heap.size + 1) (wcs M)) u1 := ⟨hU1.b, hU1.d⟩
      refine hK _ _ hS1 ?_; clear hK K
      (refine wpH_only 3 (by rfl) (by kernel_rfl) (fun K hK => ?_); simp only [List.setIfInBounds_toArray, List.set_cons_zero, List.set_cons_succ] at hK; go_simp)
      (with_reducible refine (size_l M hM _).mono ?_)
      rintro e u2 ⟨rfl, d2⟩
      have hU2 := hU1.kept d2
      have hS2 : (fun u => Blk 24 u w.heap.size (wcs N) ∧ Blk 24 u (w.heap.size + 1) (wcs M)) u2 := ⟨hU2.b, hU2.d⟩
      refine hK _ _ hS2 ?_; clear hK K
      (refine wpH_only 4 (by rfl) (by kernel_rfl) (fun K hK => ?_); simp only [List.setIfInBounds_toArray, List.set_cons_zero, List.set_cons_succ] at hK; go_simp)
      refine (HD.out _).mono ?_
      rintro e u3 ⟨rfl, d3⟩
      have hU3 := hU2.kept d3
      have hS3 : (fun u => Blk 24 u w.heap.size (wcs N) ∧ Blk 24 u (w.heap.size + 1) (wcs M)) u3 := ⟨hU3.b, hU3.d⟩
      refine hK _ _ hS3 ?_; clear hK K
      (refine wpH_take 5 (by rfl) (by kernel_rfl) (by intro _ _ _ h; first | exact h | (cases h.1)) (by intro _ _ _ _ h; first | exact h | (cases h.1)) (by assumption) (fun K hK => ?_); simp only [List.setIfInBounds_toArray, List.set_cons_zero, List.set_cons_succ] at hK; go_simp; first | (refine hK _ ?_; clear hK K) | (apply Exists.intro; refine ⟨fun _ => rfl, hK _ ?_⟩; clear hK K)); (refine wpH_take 6 (by rfl) (by kernel_rfl) (by intro _ _ _ h; first | exact h | (cases h.1)) (by intro _ _ _ _ h; first | exact h | (cases h.1)) (by assumption) (fun K hK => ?_); simp only [List.setIfInBounds_toArray, List.set_cons_zero, List.set_cons_succ] at hK; go_simp; first | (refine hK _ ?_; clear hK K) | (apply Exists.intro; refine ⟨fun _ => rfl, hK _ ?_⟩; clear hK K)); (refine wpH_take 7 (by rfl) (by kernel_rfl) (by intro _ _ _ h; first | exact h | (cases h.1)) (by intro _ _ _ _ h; first | exact h | (cases h.1)) (by assumption) (fun K hK => ?_); simp only [List.setIfInBounds_toArray, List.set_cons_zero, List.set_cons_succ] at hK; go_simp; first | (refine hK _ ?_; clear hK K) | (apply Exists.intro; refine ⟨fun _ => rfl, hK _ ?_⟩; clear hK K))
      (refine wpH_only 8 (by rfl) (by kernel_rfl) (fun K hK => ?_); simp only [List.setIfInBounds_toArray, List.set_cons_zero, List.set_cons_succ] at hK; refine step_storeA (by rfl) 24 (.tmp 4) (.tmp 12) (by rfl) (w.heap.size + 2) (wcs (Q)) (by rfl) (by rfl) aggWord hU3.f.q (wcs_len _) (by first | exact wcs_len _ | rfl) (wcs_one _) ?_; intro u4 o4 d4 g4; simp only [Act.put, List.getElem_toArray, List.getElem_cons_zero, List.getElem_cons_succ, List.setIfInBounds_toArray, List.set_cons_zero, List.set_cons_succ])
      have hU4 := hU3.st4 o4 d4 g4
      have hS4 : (fun u => Blk 24 u w.heap.size (wcs N) ∧ Blk 24 u (w.heap.size + 1) (wcs M)) u4 := ⟨hU4.b, hU4.d⟩
      refine hK _ _ hS4 ?_; clear hK K
      (refine wpH_only 9 (by rfl) (by kernel_rfl) (fun K hK => ?_); simp only [List.setIfInBounds_toArray, List.set_cons_zero, List.set_cons_succ] at hK; refine step_storeA (by rfl) 24 (.tmp 5) (.tmp 13) (by rfl) (w.heap.size + 3) (wcs (R)) (by rfl) (by rfl) aggWord hU4.f.r (wcs_len _) (by first | exact wcs_len _ | rfl) (wcs_one _) ?_; intro u5 o5' d5 g5'; simp only [Act.put, List.getElem_toArray, List.getElem_cons_zero, List.getElem_cons_succ, List.setIfInBounds_toArray, List.set_cons_zero, List.set_cons_succ])
      have hU5 := hU4.st5 o5' d5 g5'
      have hS5 : (fun u => Blk 24 u w.heap.size (wcs N) ∧ Blk 24 u (w.heap.size + 1) (wcs M)) u5 := ⟨hU5.b, hU5.d⟩
      refine hK _ _ hS5 ?_; clear hK K
      refine wpH_done (by kernel_rfl) ?_
      clear hS hS1 hS2 hS3 hS4 hS5
      go_wp2
      have k0 := fun u : Ext u5 => u.cell (hU5.b.wat 0 (by omega))
      have k1 := fun u : Ext u5 => u.cell (hU5.b.wat 1 (by omega))
      have k2 := fun u : Ext u5 => u.cell (hU5.b.wat 2 (by omega))
      have k3 := fun u : Ext u5 => u.cell (hU5.b.wat 3 (by omega))
      have m0 := fun u : Ext u5 => u.cell (hU5.d.wat 0 (by omega))
      have m1 := fun u : Ext u5 => u.cell (hU5.d.wat 1 (by omega))
      have m2 := fun u : Ext u5 => u.cell (hU5.d.wat 2 (by omega))
      have m3 := fun u : Ext u5 => u.cell (hU5.d.wat 3 (by omega))
      refine wp_region_typed u5 5 (by kernel_rfl) (by kernel_rfl) (Below.refl _ _) ?_; simp only [List.take_succ_cons, List.take_zero, List.take_nil]
      iterate 1 (refine wpX_step (by rfl) (fun K hK => ?_); go_simp; first | (refine hK _ ?_; clear hK K) | (apply Exists.intro; refine ⟨fun _ => ?_, hK _ ?_⟩; fail; clear hK K))
      (refine wpX_step (by rfl) (fun K hK => ?_); go_simp; first | (refine hK _ ?_; clear hK K) | (apply Exists.intro; refine ⟨fun _ => ?_, hK _ ?_⟩; exact HmN.out _; clear hK K))
      iterate 1 (refine wpX_step (by rfl) (fun K hK => ?_); go_simp; first | (refine hK _ ?_; clear hK K) | (apply Exists.intro; refine ⟨fun _ => ?_, hK _ ?_⟩; fail; clear hK K))
      (refine wpX_step (by rfl) (fun K hK => ?_); go_simp; first | (refine hK _ ?_; clear hK K) | (apply Exists.intro; refine ⟨fun _ => ?_, hK _ ?_⟩; exact HmM.out _; clear hK K))
      iterate 1 (refine wpX_step (by rfl) (fun K hK => ?_); go_simp; first | (refine hK _ ?_; clear hK K) | (apply Exists.intro; refine ⟨fun _ => ?_, hK _ ?_⟩; fail; clear hK K))
      refine wpX_end rfl ?_
      rintro u6 hu6
      simp only [List.reverse_nil, forallRel]
      have hU6 := hU5.kept hu6
      clear k0 k1 k2 k3 m0 m1 m2 m3
      go_wp2_with (first
        | (refine wpList_loadA (o := ⟨some 19, _, _, _, _, _⟩) (by rfl) 24 (.tmp 4) (by rfl) (w.heap.size + 2) (by rfl) aggWord hU6.f.q (wcs_len _) ?_)
        | (go_at_call 38; (with_reducible refine (neg_l Q hQ _).mono ?_); rintro e v1 ⟨rfl, c1⟩; have G1 := hU6.kept c1)
        | (refine wpList_storeA (by rfl) 24 (.tmp 4) (.tmp 20) (by rfl) (w.heap.size + 2) (wcs (negN Q)) (by rfl) (by rfl) aggWord G1.f.q (wcs_len _) (by first | exact wcs_len _ | rfl) (wcs_one _) (Below.refl _ _) (Nat.le_refl _) ?_; intro v2 o2 c2 g2; have G2 := G1.st4 o2 c2 g2)
        | (refine wpList_loadA (o := ⟨some 21, _, _, _, _, _⟩) (by rfl) 24 (.tmp 2) (by rfl) (w.heap.size) (by rfl) aggWord G2.b (wcs_len _) ?_)
        | (go_at_call 66; (with_reducible refine (minus_l N true HN.out _).mono ?_); rintro e v3 ⟨rfl, c3⟩; have G3 := G2.kept c3)
        | (refine wpList_loadA (o := ⟨some 23, _, _, _, _, _⟩) (by rfl) 24 (.tmp 5) (by rfl) (w.heap.size + 3) (by rfl) aggWord G3.f.r (wcs_len _) ?_)
        | (go_at_call 38; (with_reducible refine (neg_l R hR _).mono ?_); rintro e v4 ⟨rfl, c4⟩; have G4 := G3.kept c4)
        | (refine wpList_storeA (by rfl) 24 (.tmp 5) (.tmp 24) (by rfl) (w.heap.size + 3) (wcs (negN R)) (by rfl) (by rfl) aggWord G4.f.r (wcs_len _) (by first | exact wcs_len _ | rfl) (wcs_one _) (Below.refl _ _) (Nat.le_refl _) ?_; intro v5 o5 c5 g5; have G5 := G4.st5 o5 c5 g5))
      (refine wp_region_h (Fr2 (w) (w.heap.size + 2) (w.heap.size + 3) (negN Q) (negN R)) (by kernel_rfl) ?_; intro u0 hu0; simp only [List.length_cons, List.length_nil, Nat.reduceAdd, List.replicate_succ, List.replicate_zero]; have hR0 : Fr2 (w) (w.heap.size + 2) (w.heap.size + 3) (negN Q) (negN R) u0 := (by rw [hu0]; exact Fr2.drew G5.f); clear hu0; (refine wpH_take 0 (by rfl) (by kernel_rfl) (by intro _ _ _ h; first | exact h | (cases h.1)) (by intro _ _ _ _ h; first | exact h | (cases h.1)) (by assumption) (fun K hK => ?_); simp only [List.setIfInBounds_toArray, List.set_cons_zero, List.set_cons_succ] at hK; refine take_loadA (by rfl) 24 (.tmp 4) (by rfl) (w.heap.size + 2) (by rfl) aggWord (fun u hu => Fr2.q hu) (wcs_len _) (hK _ ?_); clear hK K; simp only [Act.put, List.getElem_toArray, List.getElem_cons_zero, List.getElem_cons_succ, List.setIfInBounds_toArray, List.set_cons_zero, List.set_cons_succ]); (refine wpH_take 1 (by rfl) (by kernel_rfl) (by intro _ _ _ h; first | exact h | (cases h.1)) (by intro _ _ _ _ h; first | exact h | (cases h.1)) (by assumption) (fun K hK => ?_); simp only [List.setIfInBounds_toArray, List.set_cons_zero, List.set_cons_succ] at hK; refine take_loadA (by rfl) 24 (.tmp 5) (by rfl) (w.heap.size + 3) (by rfl) aggWord (fun u hu => Fr2.r hu) (wcs_len _) (hK _ ?_); clear hK K; simp only [Act.put, List.getElem_toArray, List.getElem_cons_zero, List.getElem_cons_succ, List.setIfInBounds_toArray, List.set_cons_zero, List.set_cons_succ]); (refine wpH_only 2 (by rfl) (by kernel_rfl) (fun K hK => ?_); simp only [List.setIfInBounds_toArray, List.set_cons_zero, List.set_cons_succ] at hK; refine step_storeA (by rfl) 24 (.tmp 4) (.tmp 25) (by rfl) (w.heap.size + 2) (wcs (negN Q)) (by rfl) (by rfl) aggWord hR0.q (wcs_len _) (by first | exact wcs_len _ | rfl) (wcs_one _) ?_; intro u1 o1 b1 g1; simp only [Act.put, List.getElem_toArray, List.getElem_cons_zero, List.getElem_cons_succ, List.setIfInBounds_toArray, List.set_cons_zero, List.set_cons_succ]); have hR1 := Fr2.st4 hR0 o1 b1 g1; refine hK _ _ hR1 ?_; clear hK K; (refine wpH_only 3 (by rfl) (by kernel_rfl) (fun K hK => ?_); simp only [List.setIfInBounds_toArray, List.set_cons_zero, List.set_cons_succ] at hK; refine step_storeA (by rfl) 24 (.tmp 5) (.tmp 26) (by rfl) (w.heap.size + 3) (wcs (negN R)) (by rfl) (by rfl) aggWord hR1.r (wcs_len _) (by first | exact wcs_len _ | rfl) (wcs_one _) ?_; intro u2 o2 b2 g2; simp only [Act.put, List.getElem_toArray, List.getElem_cons_zero, List.getElem_cons_succ, List.setIfInBounds_toArray, List.set_cons_zero, List.set_cons_succ]); have hR := Fr2.st5 hR1 o2 b2 g2; refine hK _ _ hR ?_; clear hK K; refine wpH_done (by kernel_rfl) ?_)
      go_wp2
      exact bodyPost_ret (results_blk2 rfl _ _ aggWord aggWord hR.q hR.r (wcs_len _) (wcs_len _) (by rfl) (by rfl)) rfl ⟨by rw [HQ.out, HR.out]; rfl, hR.bel⟩
  | false =>
    cases hbM : M.testBit 255 with
    | true =>
      have cD' := cD
      have hq' := hq
      have hr' := hr
      rw [hbN, hbM] at hq'
      rw [hbN] at hr'
      rw [if_pos (by decide)] at hq'
      rw [if_neg (by decide)] at hr'
      have HD := Lib.hid cD'
      have HQ := Lib.hid hq'
      have HR := Lib.hid hr'
      have HmN := Lib.hid (fun w => minus_any N w)
      have HmM := Lib.hid (fun w => minus_any M w)
      rw [hbN] at HmN
      rw [hbM] at HmM
      have HN := Lib.hid hbN
      have HM := Lib.hid hbM
      clear cD cD' hq hq' hr hr' hbN hbM
      go_enter Try.func15, Try.ntmps15
      go_wp2
      (rw [show (((w.alloc (.cells (wcs N).toArray 24)).alloc (.cells (wcs M).toArray 24)).alloc (.cells #[.int .u64 0, .int .u64 0, .int .u64 0, .int .u64 0] 24)).alloc (.cells #[.int .u64 0, .int .u64 0, .int .u64 0, .int .u64 0] 24) = w1 from by rw [Hw1.out]; rfl])
      clear Hw1
      refine wp_region_h ((fun u => Blk 24 u w.heap.size (wcs N) ∧ Blk 24 u (w.heap.size + 1) (wcs M))) (by kernel_rfl) ?_; intro u0 hu0; simp only [List.length_cons, List.length_nil, Nat.reduceAdd, List.replicate_succ, List.replicate_zero]
      have hU0 : FrX w N M 0 0 u0 := (by rw [hu0]; exact FrX.drew hF)
      have hS : (fun u => Blk 24 u w.heap.size (wcs N) ∧ Blk 24 u (w.heap.size + 1) (wcs M)) u0 := ⟨hU0.b, hU0.d⟩
      clear hu0
      (refine wpH_take 0 (by rfl) (by kernel_rfl) (by intro _ _ _ h; first | exact h | (cases h.1)) (by intro _ _ _ _ h; first | exact h | (cases h.1)) (by assumption) (fun K hK => ?_); simp only [List.setIfInBounds_toArray, List.set_cons_zero, List.set_cons_succ] at hK; refine take_loadA (by rfl) 24 (.tmp 2) (by rfl) (w.heap.size) (by rfl) aggWord (fun u hu => And.left hu) (wcs_len _) (hK _ ?_); clear hK K; simp only [Act.put, List.getElem_toArray, List.getElem_cons_zero, List.getElem_cons_succ, List.setIfInBounds_toArray, List.set_cons_zero, List.set_cons_succ])
      (refine wpH_take 2 (by rfl) (by kernel_rfl) (by intro _ _ _ h; first | exact h | (cases h.1)) (by intro _ _ _ _ h; first | exact h | (cases h.1)) (by assumption) (fun K hK => ?_); simp only [List.setIfInBounds_toArray, List.set_cons_zero, List.set_cons_succ] at hK; refine take_loadA (by rfl) 24 (.tmp 3) (by rfl) (w.heap.size + 1) (by rfl) aggWord (fun u hu => And.right hu) (wcs_len _) (hK _ ?_); clear hK K; simp only [Act.put, List.getElem_toArray, List.getElem_cons_zero, List.getElem_cons_succ, List.setIfInBounds_toArray, List.set_cons_zero, List.set_cons_succ])
      (refine wpH_only 1 (by rfl) (by kernel_rfl) (fun K hK => ?_); simp only [List.setIfInBounds_toArray, List.set_cons_zero, List.set_cons_succ] at hK; go_simp)
      (with_reducible refine (size_l N hN _).mono ?_)
      rintro e u1 ⟨rfl, d1⟩
      have hU1 := hU0.kept d1
      have hS1 : (fun u => Blk 24 u w.heap.size (wcs N) ∧ Blk 24 u (w.heap.size + 1) (wcs M)) u1 := ⟨hU1.b, hU1.d⟩
      refine hK _ _ hS1 ?_; clear hK K
      (refine wpH_only 3 (by rfl) (by kernel_rfl) (fun K hK => ?_); simp only [List.setIfInBounds_toArray, List.set_cons_zero, List.set_cons_succ] at hK; go_simp)
      (with_reducible refine (size_l M hM _).mono ?_)
      rintro e u2 ⟨rfl, d2⟩
      have hU2 := hU1.kept d2
      have hS2 : (fun u => Blk 24 u w.heap.size (wcs N) ∧ Blk 24 u (w.heap.size + 1) (wcs M)) u2 := ⟨hU2.b, hU2.d⟩
      refine hK _ _ hS2 ?_; clear hK K
      (refine wpH_only 4 (by rfl) (by kernel_rfl) (fun K hK => ?_); simp only [List.setIfInBounds_toArray, List.set_cons_zero, List.set_cons_succ] at hK; go_simp)
      refine (HD.out _).mono ?_
      rintro e u3 ⟨rfl, d3⟩
      have hU3 := hU2.kept d3
      have hS3 : (fun u => Blk 24 u w.heap.size (wcs N) ∧ Blk 24 u (w.heap.size + 1) (wcs M)) u3 := ⟨hU3.b, hU3.d⟩
      refine hK _ _ hS3 ?_; clear hK K
      (refine wpH_take 5 (by rfl) (by kernel_rfl) (by intro _ _ _ h; first | exact h | (cases h.1)) (by intro _ _ _ _ h; first | exact h | (cases h.1)) (by assumption) (fun K hK => ?_); simp only [List.setIfInBounds_toArray, List.set_cons_zero, List.set_cons_succ] at hK; go_simp; first | (refine hK _ ?_; clear hK K) | (apply Exists.intro; refine ⟨fun _ => rfl, hK _ ?_⟩; clear hK K)); (refine wpH_take 6 (by rfl) (by kernel_rfl) (by intro _ _ _ h; first | exact h | (cases h.1)) (by intro _ _ _ _ h; first | exact h | (cases h.1)) (by assumption) (fun K hK => ?_); simp only [List.setIfInBounds_toArray, List.set_cons_zero, List.set_cons_succ] at hK; go_simp; first | (refine hK _ ?_; clear hK K) | (apply Exists.intro; refine ⟨fun _ => rfl, hK _ ?_⟩; clear hK K)); (refine wpH_take 7 (by rfl) (by kernel_rfl) (by intro _ _ _ h; first | exact h | (cases h.1)) (by intro _ _ _ _ h; first | exact h | (cases h.1)) (by assumption) (fun K hK => ?_); simp only [List.setIfInBounds_toArray, List.set_cons_zero, List.set_cons_succ] at hK; go_simp; first | (refine hK _ ?_; clear hK K) | (apply Exists.intro; refine ⟨fun _ => rfl, hK _ ?_⟩; clear hK K))
      (refine wpH_only 8 (by rfl) (by kernel_rfl) (fun K hK => ?_); simp only [List.setIfInBounds_toArray, List.set_cons_zero, List.set_cons_succ] at hK; refine step_storeA (by rfl) 24 (.tmp 4) (.tmp 12) (by rfl) (w.heap.size + 2) (wcs (Q)) (by rfl) (by rfl) aggWord hU3.f.q (wcs_len _) (by first | exact wcs_len _ | rfl) (wcs_one _) ?_; intro u4 o4 d4 g4; simp only [Act.put, List.getElem_toArray, List.getElem_cons_zero, List.getElem_cons_succ, List.setIfInBounds_toArray, List.set_cons_zero, List.set_cons_succ])
      have hU4 := hU3.st4 o4 d4 g4
      have hS4 : (fun u => Blk 24 u w.heap.size (wcs N) ∧ Blk 24 u (w.heap.size + 1) (wcs M)) u4 := ⟨hU4.b, hU4.d⟩
      refine hK _ _ hS4 ?_; clear hK K
      (refine wpH_only 9 (by rfl) (by kernel_rfl) (fun K hK => ?_); simp only [List.setIfInBounds_toArray, List.set_cons_zero, List.set_cons_succ] at hK; refine step_storeA (by rfl) 24 (.tmp 5) (.tmp 13) (by rfl) (w.heap.size + 3) (wcs (R)) (by rfl) (by rfl) aggWord hU4.f.r (wcs_len _) (by first | exact wcs_len _ | rfl) (wcs_one _) ?_; intro u5 o5' d5 g5'; simp only [Act.put, List.getElem_toArray, List.getElem_cons_zero, List.getElem_cons_succ, List.setIfInBounds_toArray, List.set_cons_zero, List.set_cons_succ])
      have hU5 := hU4.st5 o5' d5 g5'
      have hS5 : (fun u => Blk 24 u w.heap.size (wcs N) ∧ Blk 24 u (w.heap.size + 1) (wcs M)) u5 := ⟨hU5.b, hU5.d⟩
      refine hK _ _ hS5 ?_; clear hK K
      refine wpH_done (by kernel_rfl) ?_
      clear hS hS1 hS2 hS3 hS4 hS5
      go_wp2
      have k0 := fun u : Ext u5 => u.cell (hU5.b.wat 0 (by omega))
      have k1 := fun u : Ext u5 => u.cell (hU5.b.wat 1 (by omega))
      have k2 := fun u : Ext u5 => u.cell (hU5.b.wat 2 (by omega))
      have k3 := fun u : Ext u5 => u.cell (hU5.b.wat 3 (by omega))
      have m0 := fun u : Ext u5 => u.cell (hU5.d.wat 0 (by omega))
      have m1 := fun u : Ext u5 => u.cell (hU5.d.wat 1 (by omega))
      have m2 := fun u : Ext u5 => u.cell (hU5.d.wat 2 (by omega))
      have m3 := fun u : Ext u5 => u.cell (hU5.d.wat 3 (by omega))
      refine wp_region_typed u5 5 (by kernel_rfl) (by kernel_rfl) (Below.refl _ _) ?_; simp only [List.take_succ_cons, List.take_zero, List.take_nil]
      iterate 1 (refine wpX_step (by rfl) (fun K hK => ?_); go_simp; first | (refine hK _ ?_; clear hK K) | (apply Exists.intro; refine ⟨fun _ => ?_, hK _ ?_⟩; fail; clear hK K))
      (refine wpX_step (by rfl) (fun K hK => ?_); go_simp; first | (refine hK _ ?_; clear hK K) | (apply Exists.intro; refine ⟨fun _ => ?_, hK _ ?_⟩; exact HmN.out _; clear hK K))
      iterate 1 (refine wpX_step (by rfl) (fun K hK => ?_); go_simp; first | (refine hK _ ?_; clear hK K) | (apply Exists.intro; refine ⟨fun _ => ?_, hK _ ?_⟩; fail; clear hK K))
      (refine wpX_step (by rfl) (fun K hK => ?_); go_simp; first | (refine hK _ ?_; clear hK K) | (apply Exists.intro; refine ⟨fun _ => ?_, hK _ ?_⟩; exact HmM.out _; clear hK K))
      iterate 1 (refine wpX_step (by rfl) (fun K hK => ?_); go_simp; first | (refine hK _ ?_; clear hK K) | (apply Exists.intro; refine ⟨fun _ => ?_, hK _ ?_⟩; fail; clear hK K))
      refine wpX_end rfl ?_
      rintro u6 hu6
      simp only [List.reverse_nil, forallRel]
      have hU6 := hU5.kept hu6
      clear k0 k1 k2 k3 m0 m1 m2 m3
      go_wp2_with (first
        | (refine wpList_loadA (o := ⟨some 19, _, _, _, _, _⟩) (by rfl) 24 (.tmp 4) (by rfl) (w.heap.size + 2) (by rfl) aggWord hU6.f.q (wcs_len _) ?_)
        | (go_at_call 38; (with_reducible refine (neg_l Q hQ _).mono ?_); rintro e v1 ⟨rfl, c1⟩; have G1 := hU6.kept c1)
        | (refine wpList_storeA (by rfl) 24 (.tmp 4) (.tmp 20) (by rfl) (w.heap.size + 2) (wcs (negN Q)) (by rfl) (by rfl) aggWord G1.f.q (wcs_len _) (by first | exact wcs_len _ | rfl) (wcs_one _) (Below.refl _ _) (Nat.le_refl _) ?_; intro v2 o2 c2 g2; have G2 := G1.st4 o2 c2 g2)
        | (refine wpList_loadA (o := ⟨some 21, _, _, _, _, _⟩) (by rfl) 24 (.tmp 2) (by rfl) (w.heap.size) (by rfl) aggWord G2.b (wcs_len _) ?_)
        | (go_at_call 66; (with_reducible refine (minus_l N false HN.out _).mono ?_); rintro e v3 ⟨rfl, c3⟩; have G3 := G2.kept c3))
      (refine wp_region_h (Fr2 (w) (w.heap.size + 2) (w.heap.size + 3) (negN Q) (R)) (by kernel_rfl) ?_; intro u0 hu0; simp only [List.length_cons, List.length_nil, Nat.reduceAdd, List.replicate_succ, List.replicate_zero]; have hR0 : Fr2 (w) (w.heap.size + 2) (w.heap.size + 3) (negN Q) (R) u0 := (by rw [hu0]; exact Fr2.drew G3.f); clear hu0; (refine wpH_take 0 (by rfl) (by kernel_rfl) (by intro _ _ _ h; first | exact h | (cases h.1)) (by intro _ _ _ _ h; first | exact h | (cases h.1)) (by assumption) (fun K hK => ?_); simp only [List.setIfInBounds_toArray, List.set_cons_zero, List.set_cons_succ] at hK; refine take_loadA (by rfl) 24 (.tmp 4) (by rfl) (w.heap.size + 2) (by rfl) aggWord (fun u hu => Fr2.q hu) (wcs_len _) (hK _ ?_); clear hK K; simp only [Act.put, List.getElem_toArray, List.getElem_cons_zero, List.getElem_cons_succ, List.setIfInBounds_toArray, List.set_cons_zero, List.set_cons_succ]); (refine wpH_take 1 (by rfl) (by kernel_rfl) (by intro _ _ _ h; first | exact h | (cases h.1)) (by intro _ _ _ _ h; first | exact h | (cases h.1)) (by assumption) (fun K hK => ?_); simp only [List.setIfInBounds_toArray, List.set_cons_zero, List.set_cons_succ] at hK; refine take_loadA (by rfl) 24 (.tmp 5) (by rfl) (w.heap.size + 3) (by rfl) aggWord (fun u hu => Fr2.r hu) (wcs_len _) (hK _ ?_); clear hK K; simp only [Act.put, List.getElem_toArray, List.getElem_cons_zero, List.getElem_cons_succ, List.setIfInBounds_toArray, List.set_cons_zero, List.set_cons_succ]); (refine wpH_only 2 (by rfl) (by kernel_rfl) (fun K hK => ?_); simp only [List.setIfInBounds_toArray, List.set_cons_zero, List.set_cons_succ] at hK; refine step_storeA (by rfl) 24 (.tmp 4) (.tmp 25) (by rfl) (w.heap.size + 2) (wcs (negN Q)) (by rfl) (by rfl) aggWord hR0.q (wcs_len _) (by first | exact wcs_len _ | rfl) (wcs_one _) ?_; intro u1 o1 b1 g1; simp only [Act.put, List.getElem_toArray, List.getElem_cons_zero, List.getElem_cons_succ, List.setIfInBounds_toArray, List.set_cons_zero, List.set_cons_succ]); have hR1 := Fr2.st4 hR0 o1 b1 g1; refine hK _ _ hR1 ?_; clear hK K; (refine wpH_only 3 (by rfl) (by kernel_rfl) (fun K hK => ?_); simp only [List.setIfInBounds_toArray, List.set_cons_zero, List.set_cons_succ] at hK; refine step_storeA (by rfl) 24 (.tmp 5) (.tmp 26) (by rfl) (w.heap.size + 3) (wcs (R)) (by rfl) (by rfl) aggWord hR1.r (wcs_len _) (by first | exact wcs_len _ | rfl) (wcs_one _) ?_; intro u2 o2 b2 g2; simp only [Act.put, List.getElem_toArray, List.getElem_cons_zero, List.getElem_cons_succ, List.setIfInBounds_toArray, List.set_cons_zero, List.set_cons_succ]); have hR := Fr2.st5 hR1 o2 b2 g2; refine hK _ _ hR ?_; clear hK K; refine wpH_done (by kernel_rfl) ?_)
      go_wp2
      exact bodyPost_ret (results_blk2 rfl _ _ aggWord aggWord hR.q hR.r (wcs_len _) (wcs_len _) (by rfl) (by rfl)) rfl ⟨by rw [HQ.out, HR.out]; rfl, hR.bel⟩
    | false =>
      have cD' := cD
      have hq' := hq
      have hr' := hr
      rw [hbN, hbM] at hq'
      rw [hbN] at hr'
      rw [if_neg (by decide)] at hq'
      rw [if_neg (by decide)] at hr'
      have HD := Lib.hid cD'
      have HQ := Lib.hid hq'
      have HR := Lib.hid hr'
      have HmN := Lib.hid (fun w => minus_any N w)
      have HmM := Lib.hid (fun w => minus_any M w)
      rw [hbN] at HmN
      rw [hbM] at HmM
      have HN := Lib.hid hbN
      have HM := Lib.hid hbM
      clear cD cD' hq hq' hr hr' hbN hbM
      go_enter Try.func15, Try.ntmps15
      go_wp2
      (rw [show (((w.alloc (.cells (wcs N).toArray 24)).alloc (.cells (wcs M).toArray 24)).alloc (.cells #[.int .u64 0, .int .u64 0, .int .u64 0, .int .u64 0] 24)).alloc (.cells #[.int .u64 0, .int .u64 0, .int .u64 0, .int .u64 0] 24) = w1 from by rw [Hw1.out]; rfl])
      clear Hw1
      refine wp_region_h ((fun u => Blk 24 u w.heap.size (wcs N) ∧ Blk 24 u (w.heap.size + 1) (wcs M))) (by kernel_rfl) ?_; intro u0 hu0; simp only [List.length_cons, List.length_nil, Nat.reduceAdd, List.replicate_succ, List.replicate_zero]
      have hU0 : FrX w N M 0 0 u0 := (by rw [hu0]; exact FrX.drew hF)
      have hS : (fun u => Blk 24 u w.heap.size (wcs N) ∧ Blk 24 u (w.heap.size + 1) (wcs M)) u0 := ⟨hU0.b, hU0.d⟩
      clear hu0
      (refine wpH_take 0 (by rfl) (by kernel_rfl) (by intro _ _ _ h; first | exact h | (cases h.1)) (by intro _ _ _ _ h; first | exact h | (cases h.1)) (by assumption) (fun K hK => ?_); simp only [List.setIfInBounds_toArray, List.set_cons_zero, List.set_cons_succ] at hK; refine take_loadA (by rfl) 24 (.tmp 2) (by rfl) (w.heap.size) (by rfl) aggWord (fun u hu => And.left hu) (wcs_len _) (hK _ ?_); clear hK K; simp only [Act.put, List.getElem_toArray, List.getElem_cons_zero, List.getElem_cons_succ, List.setIfInBounds_toArray, List.set_cons_zero, List.set_cons_succ])
      (refine wpH_take 2 (by rfl) (by kernel_rfl) (by intro _ _ _ h; first | exact h | (cases h.1)) (by intro _ _ _ _ h; first | exact h | (cases h.1)) (by assumption) (fun K hK => ?_); simp only [List.setIfInBounds_toArray, List.set_cons_zero, List.set_cons_succ] at hK; refine take_loadA (by rfl) 24 (.tmp 3) (by rfl) (w.heap.size + 1) (by rfl) aggWord (fun u hu => And.right hu) (wcs_len _) (hK _ ?_); clear hK K; simp only [Act.put, List.getElem_toArray, List.getElem_cons_zero, List.getElem_cons_succ, List.setIfInBounds_toArray, List.set_cons_zero, List.set_cons_succ])
      (refine wpH_only 1 (by rfl) (by kernel_rfl) (fun K hK => ?_); simp only [List.setIfInBounds_toArray, List.set_cons_zero, List.set_cons_succ] at hK; go_simp)
      (with_reducible refine (size_l N hN _).mono ?_)
      rintro e u1 ⟨rfl, d1⟩
      have hU1 := hU0.kept d1
      have hS1 : (fun u => Blk 24 u w.heap.size (wcs N) ∧ Blk 24 u (w.heap.size + 1) (wcs M)) u1 := ⟨hU1.b, hU1.d⟩
      refine hK _ _ hS1 ?_; clear hK K
      (refine wpH_only 3 (by rfl) (by kernel_rfl) (fun K hK => ?_); simp only [List.setIfInBounds_toArray, List.set_cons_zero, List.set_cons_succ] at hK; go_simp)
      (with_reducible refine (size_l M hM _).mono ?_)
      rintro e u2 ⟨rfl, d2⟩
      have hU2 := hU1.kept d2
      have hS2 : (fun u => Blk 24 u w.heap.size (wcs N) ∧ Blk 24 u (w.heap.size + 1) (wcs M)) u2 := ⟨hU2.b, hU2.d⟩
      refine hK _ _ hS2 ?_; clear hK K
      (refine wpH_only 4 (by rfl) (by kernel_rfl) (fun K hK => ?_); simp only [List.setIfInBounds_toArray, List.set_cons_zero, List.set_cons_succ] at hK; go_simp)
      refine (HD.out _).mono ?_
      rintro e u3 ⟨rfl, d3⟩
      have hU3 := hU2.kept d3
      have hS3 : (fun u => Blk 24 u w.heap.size (wcs N) ∧ Blk 24 u (w.heap.size + 1) (wcs M)) u3 := ⟨hU3.b, hU3.d⟩
      refine hK _ _ hS3 ?_; clear hK K
      (refine wpH_take 5 (by rfl) (by kernel_rfl) (by intro _ _ _ h; first | exact h | (cases h.1)) (by intro _ _ _ _ h; first | exact h | (cases h.1)) (by assumption) (fun K hK => ?_); simp only [List.setIfInBounds_toArray, List.set_cons_zero, List.set_cons_succ] at hK; go_simp; first | (refine hK _ ?_; clear hK K) | (apply Exists.intro; refine ⟨fun _ => rfl, hK _ ?_⟩; clear hK K)); (refine wpH_take 6 (by rfl) (by kernel_rfl) (by intro _ _ _ h; first | exact h | (cases h.1)) (by intro _ _ _ _ h; first | exact h | (cases h.1)) (by assumption) (fun K hK => ?_); simp only [List.setIfInBounds_toArray, List.set_cons_zero, List.set_cons_succ] at hK; go_simp; first | (refine hK _ ?_; clear hK K) | (apply Exists.intro; refine ⟨fun _ => rfl, hK _ ?_⟩; clear hK K)); (refine wpH_take 7 (by rfl) (by kernel_rfl) (by intro _ _ _ h; first | exact h | (cases h.1)) (by intro _ _ _ _ h; first | exact h | (cases h.1)) (by assumption) (fun K hK => ?_); simp only [List.setIfInBounds_toArray, List.set_cons_zero, List.set_cons_succ] at hK; go_simp; first | (refine hK _ ?_; clear hK K) | (apply Exists.intro; refine ⟨fun _ => rfl, hK _ ?_⟩; clear hK K))
      (refine wpH_only 8 (by rfl) (by kernel_rfl) (fun K hK => ?_); simp only [List.setIfInBounds_toArray, List.set_cons_zero, List.set_cons_succ] at hK; refine step_storeA (by rfl) 24 (.tmp 4) (.tmp 12) (by rfl) (w.heap.size + 2) (wcs (Q)) (by rfl) (by rfl) aggWord hU3.f.q (wcs_len _) (by first | exact wcs_len _ | rfl) (wcs_one _) ?_; intro u4 o4 d4 g4; simp only [Act.put, List.getElem_toArray, List.getElem_cons_zero, List.getElem_cons_succ, List.setIfInBounds_toArray, List.set_cons_zero, List.set_cons_succ])
      have hU4 := hU3.st4 o4 d4 g4
      have hS4 : (fun u => Blk 24 u w.heap.size (wcs N) ∧ Blk 24 u (w.heap.size + 1) (wcs M)) u4 := ⟨hU4.b, hU4.d⟩
      refine hK _ _ hS4 ?_; clear hK K
      (refine wpH_only 9 (by rfl) (by kernel_rfl) (fun K hK => ?_); simp only [List.setIfInBounds_toArray, List.set_cons_zero, List.set_cons_succ] at hK; refine step_storeA (by rfl) 24 (.tmp 5) (.tmp 13) (by rfl) (w.heap.size + 3) (wcs (R)) (by rfl) (by rfl) aggWord hU4.f.r (wcs_len _) (by first | exact wcs_len _ | rfl) (wcs_one _) ?_; intro u5 o5' d5 g5'; simp only [Act.put, List.getElem_toArray, List.getElem_cons_zero, List.getElem_cons_succ, List.setIfInBounds_toArray, List.set_cons_zero, List.set_cons_succ])
      have hU5 := hU4.st5 o5' d5 g5'
      have hS5 : (fun u => Blk 24 u w.heap.size (wcs N) ∧ Blk 24 u (w.heap.size + 1) (wcs M)) u5 := ⟨hU5.b, hU5.d⟩
      refine hK _ _ hS5 ?_; clear hK K
      refine wpH_done (by kernel_rfl) ?_
      clear hS hS1 hS2 hS3 hS4 hS5
      go_wp2
      have k0 := fun u : Ext u5 => u.cell (hU5.b.wat 0 (by omega))
      have k1 := fun u : Ext u5 => u.cell (hU5.b.wat 1 (by omega))
      have k2 := fun u : Ext u5 => u.cell (hU5.b.wat 2 (by omega))
      have k3 := fun u : Ext u5 => u.cell (hU5.b.wat 3 (by omega))
      have m0 := fun u : Ext u5 => u.cell (hU5.d.wat 0 (by omega))
      have m1 := fun u : Ext u5 => u.cell (hU5.d.wat 1 (by omega))
      have m2 := fun u : Ext u5 => u.cell (hU5.d.wat 2 (by omega))
      have m3 := fun u : Ext u5 => u.cell (hU5.d.wat 3 (by omega))
      refine wp_region_typed u5 5 (by kernel_rfl) (by kernel_rfl) (Below.refl _ _) ?_; simp only [List.take_succ_cons, List.take_zero, List.take_nil]
      iterate 1 (refine wpX_step (by rfl) (fun K hK => ?_); go_simp; first | (refine hK _ ?_; clear hK K) | (apply Exists.intro; refine ⟨fun _ => ?_, hK _ ?_⟩; fail; clear hK K))
      (refine wpX_step (by rfl) (fun K hK => ?_); go_simp; first | (refine hK _ ?_; clear hK K) | (apply Exists.intro; refine ⟨fun _ => ?_, hK _ ?_⟩; exact HmN.out _; clear hK K))
      iterate 1 (refine wpX_step (by rfl) (fun K hK => ?_); go_simp; first | (refine hK _ ?_; clear hK K) | (apply Exists.intro; refine ⟨fun _ => ?_, hK _ ?_⟩; fail; clear hK K))
      (refine wpX_step (by rfl) (fun K hK => ?_); go_simp; first | (refine hK _ ?_; clear hK K) | (apply Exists.intro; refine ⟨fun _ => ?_, hK _ ?_⟩; exact HmM.out _; clear hK K))
      iterate 1 (refine wpX_step (by rfl) (fun K hK => ?_); go_simp; first | (refine hK _ ?_; clear hK K) | (apply Exists.intro; refine ⟨fun _ => ?_, hK _ ?_⟩; fail; clear hK K))
      refine wpX_end rfl ?_
      rintro u6 hu6
      simp only [List.reverse_nil, forallRel]
      have hU6 := hU5.kept hu6
      clear k0 k1 k2 k3 m0 m1 m2 m3
      go_wp2_with (first
        | (refine wpList_loadA (o := ⟨some 21, _, _, _, _, _⟩) (by rfl) 24 (.tmp 2) (by rfl) (w.heap.size) (by rfl) aggWord hU6.b (wcs_len _) ?_)
        | (go_at_call 66; (with_reducible refine (minus_l N false HN.out _).mono ?_); rintro e v3 ⟨rfl, c3⟩; have G3 := hU6.kept c3))
      (refine wp_region_h (Fr2 (w) (w.heap.size + 2) (w.heap.size + 3) (Q) (R)) (by kernel_rfl) ?_; intro u0 hu0; simp only [List.length_cons, List.length_nil, Nat.reduceAdd, List.replicate_succ, List.replicate_zero]; have hR0 : Fr2 (w) (w.heap.size + 2) (w.heap.size + 3) (Q) (R) u0 := (by rw [hu0]; exact Fr2.drew G3.f); clear hu0; (refine wpH_take 0 (by rfl) (by kernel_rfl) (by intro _ _ _ h; first | exact h | (cases h.1)) (by intro _ _ _ _ h; first | exact h | (cases h.1)) (by assumption) (fun K hK => ?_); simp only [List.setIfInBounds_toArray, List.set_cons_zero, List.set_cons_succ] at hK; refine take_loadA (by rfl) 24 (.tmp 4) (by rfl) (w.heap.size + 2) (by rfl) aggWord (fun u hu => Fr2.q hu) (wcs_len _) (hK _ ?_); clear hK K; simp only [Act.put, List.getElem_toArray, List.getElem_cons_zero, List.getElem_cons_succ, List.setIfInBounds_toArray, List.set_cons_zero, List.set_cons_succ]); (refine wpH_take 1 (by rfl) (by kernel_rfl) (by intro _ _ _ h; first | exact h | (cases h.1)) (by intro _ _ _ _ h; first | exact h | (cases h.1)) (by assumption) (fun K hK => ?_); simp only [List.setIfInBounds_toArray, List.set_cons_zero, List.set_cons_succ] at hK; refine take_loadA (by rfl) 24 (.tmp 5) (by rfl) (w.heap.size + 3) (by rfl) aggWord (fun u hu => Fr2.r hu) (wcs_len _) (hK _ ?_); clear hK K; simp only [Act.put, List.getElem_toArray, List.getElem_cons_zero, List.getElem_cons_succ, List.setIfInBounds_toArray, List.set_cons_zero, List.set_cons_succ]); (refine wpH_only 2 (by rfl) (by kernel_rfl) (fun K hK => ?_); simp only [List.setIfInBounds_toArray, List.set_cons_zero, List.set_cons_succ] at hK; refine step_storeA (by rfl) 24 (.tmp 4) (.tmp 25) (by rfl) (w.heap.size + 2) (wcs (Q)) (by rfl) (by rfl) aggWord hR0.q (wcs_len _) (by first | exact wcs_len _ | rfl) (wcs_one _) ?_; intro u1 o1 b1 g1; simp only [Act.put, List.getElem_toArray, List.getElem_cons_zero, List.getElem_cons_succ, List.setIfInBounds_toArray, List.set_cons_zero, List.set_cons_succ]); have hR1 := Fr2.st4 hR0 o1 b1 g1; refine hK _ _ hR1 ?_; clear hK K; (refine wpH_only 3 (by rfl) (by kernel_rfl) (fun K hK => ?_); simp only [List.setIfInBounds_toArray, List.set_cons_zero, List.set_cons_succ] at hK; refine step_storeA (by rfl) 24 (.tmp 5) (.tmp 26) (by rfl) (w.heap.size + 3) (wcs (R)) (by rfl) (by rfl) aggWord hR1.r (wcs_len _) (by first | exact wcs_len _ | rfl) (wcs_one _) ?_; intro u2 o2 b2 g2; simp only [Act.put, List.getElem_toArray, List.getElem_cons_zero, List.getElem_cons_succ, List.setIfInBounds_toArray, List.set_cons_zero, List.set_cons_succ]); have hR := Fr2.st5 hR1 o2 b2 g2; refine hK _ _ hR ?_; clear hK K; refine wpH_done (by kernel_rfl) ?_)
      go_wp2
      exact bodyPost_ret (results_blk2 rfl _ _ aggWord aggWord hR.q hR.r (wcs_len _) (wcs_len _) (by rfl) (by rfl)) rfl ⟨by rw [HQ.out, HR.out]; rfl, hR.bel⟩
set_option linter.unusedSimpArgs false in
set_option maxHeartbeats 1000000 in
set_option maxRecDepth 100000 in
theorem tsdivmod_any (N M : Nat) (hN : N < W256) (hM : M < W256) (w : World) :
    Calls Try.prog 16 #[wv N, wv M] w fun e w' => e = .returned (.tuple #[wv (sdq N M), wv (sdr N M)]) ∧ Below w.heap.size w w' := by
  obtain ⟨hb0, hd0, hr0⟩ := box4 w N M
  obtain ⟨w1, hw1⟩ : ∃ w1, w1 = (((w.alloc (.cells (wcs N).toArray 24)).alloc (.cells (wcs M).toArray 24)).alloc (.cells z4.toArray 24)).alloc (.cells z4.toArray 24) := ⟨_, rfl⟩
  rw [← hw1] at hb0 hd0 hr0
  have hF : FrX w N M 0 0 w1 := ⟨hb0, hd0, hr0⟩
  have hs1 : w1.heap.size = w.heap.size + 4 := by rw [hw1]; simp
  have Hs1 := Lib.hid hs1
  show Calls Try.prog 16 #[.agg (wcs N).toArray, .agg (wcs M).toArray] w _
  have Hw1 := Lib.hid hw1
  have hsN := sizeN_lt N hN
  have hsM := sizeN_lt M hM
  have hQ : sizeN N / sizeN M < W256 := Nat.lt_of_le_of_lt (Nat.div_le_self _ _) hsN
  have hR : modN (sizeN N) (sizeN M) < W256 := by
    unfold modN; split
    · unfold W256; omega
    · exact Nat.lt_of_le_of_lt (Nat.mod_le _ _) hsN
  have cD := fun w => wdivmod_any (sizeN N) (sizeN M) hsN hsM w
  have hq : sdq N M = if (N.testBit 255 != M.testBit 255) = true then negN (sizeN N / sizeN M) else sizeN N / sizeN M := rfl
  have hr : sdr N M = if N.testBit 255 = true then negN (modN (sizeN N) (sizeN M)) else modN (sizeN N) (sizeN M) := rfl
  obtain ⟨Q, eQ⟩ : ∃ Q, Q = sizeN N / sizeN M := ⟨_, rfl⟩
  obtain ⟨R, eR⟩ : ∃ R, R = modN (sizeN N) (sizeN M) := ⟨_, rfl⟩
  rw [← eQ] at hQ cD hq
  rw [← eR] at hR cD hr
  have hx0 : True := trivial
  clear hw1 hs1 hb0 hd0 hr0 eQ eR
  cases hbN : N.testBit 255 with
  | true =>
    cases hbM : M.testBit 255 with
    | true =>
      have cD' := cD
      have hq' := hq
      have hr' := hr
      rw [hbN, hbM] at hq'
      rw [hbN] at hr'
      rw [if_neg (by decide)] at hq'
      rw [if_pos (by decide)] at hr'
      rw [show sizeN N = negN N from by unfold sizeN; rw [hbN]; rfl, show sizeN M = negN M from by unfold sizeN; rw [hbM]; rfl] at cD'
      have HD := Lib.hid cD'
      have HQ := Lib.hid hq'
      have HR := Lib.hid hr'
      have HmN := Lib.hid (fun w => tbelow_any N w)
      have HmM := Lib.hid (fun w => tbelow_any M w)
      rw [hbN] at HmN
      rw [hbM] at HmM
      have HN := Lib.hid hbN
      have HM := Lib.hid hbM
      clear cD cD' hq hq' hr hr' hbN hbM
      go_enter Try.func16, Try.ntmps16
      go_wp2
      (rw [show (((w.alloc (.cells (wcs N).toArray 24)).alloc (.cells (wcs M).toArray 24)).alloc (.cells #[.int .u64 0, .int .u64 0, .int .u64 0, .int .u64 0] 24)).alloc (.cells #[.int .u64 0, .int .u64 0, .int .u64 0, .int .u64 0] 24) = w1 from by rw [Hw1.out]; rfl])
      clear Hw1
      refine wp_region_via (fun a b w' => ∃ g6 g7, b = (((a.put (some 8) (.agg (wcs (N)).toArray)).put (some 9) (.agg (wcs (M)).toArray)).put (some 6) (.pointer (some ⟨g6, 0, none⟩))).put (some 7) (.pointer (some ⟨g7, 0, none⟩)) ∧ g6 ≠ g7 ∧ w1.heap.size ≤ g6 ∧ w1.heap.size ≤ g7 ∧ Blk 24 w' g6 (wcs (N)) ∧ Blk 24 w' g7 (wcs (M)) ∧ Below w1.heap.size w1 w') ?_ ?_
      · refine wp_region_h ((fun u => Below w1.heap.size w1 u)) (by kernel_rfl) ?_; intro u0 hu0; simp only [List.length_cons, List.length_nil, Nat.reduceAdd, List.replicate_succ, List.replicate_zero]
        have hS0 : Below w1.heap.size w1 u0 := (by rw [hu0]; exact (Below.refl _ _).drew)
        clear hu0
        (refine wpH_take 0 (by rfl) (by kernel_rfl) (by intro _ _ _ h; first | exact h | (cases h.1)) (by intro _ _ _ _ h; first | exact h | (cases h.1)) (by assumption) (fun K hK => ?_); simp only [List.setIfInBounds_toArray, List.set_cons_zero, List.set_cons_succ] at hK; refine take_loadA (by rfl) 24 (.tmp 2) (by rfl) (w.heap.size) (by rfl) aggWord (fun u hu => Blk.below hF.b hu (Blk.lt hF.b)) (wcs_len _) (hK _ ?_); clear hK K; simp only [Act.put, List.getElem_toArray, List.getElem_cons_zero, List.getElem_cons_succ, List.setIfInBounds_toArray, List.set_cons_zero, List.set_cons_succ])
        (refine wpH_take 1 (by rfl) (by kernel_rfl) (by intro _ _ _ h; first | exact h | (cases h.1)) (by intro _ _ _ _ h; first | exact h | (cases h.1)) (by assumption) (fun K hK => ?_); simp only [List.setIfInBounds_toArray, List.set_cons_zero, List.set_cons_succ] at hK; refine take_loadA (by rfl) 24 (.tmp 3) (by rfl) (w.heap.size + 1) (by rfl) aggWord (fun u hu => Blk.below hF.d hu (Blk.lt hF.d)) (wcs_len _) (hK _ ?_); clear hK K; simp only [Act.put, List.getElem_toArray, List.getElem_cons_zero, List.getElem_cons_succ, List.setIfInBounds_toArray, List.set_cons_zero, List.set_cons_succ])
        refine wpH_all [2, 3] (by kernel_rfl) (by simp) ?_
        intro i hi
        simp only [List.mem_cons, List.not_mem_nil, or_false] at hi
        rcases hi with rfl | rfl
        · (refine brH_of (i := 2) (by rfl) (fun K hK => ?_); simp only [List.setIfInBounds_toArray, List.set_cons_zero, List.set_cons_succ] at hK; go_simp)
          have h6 := Blk.new u0 24 z4
          have q6 : w1.heap.size ≤ u0.heap.size := Below.size hS0
          have hS1 : Below w1.heap.size w1 (u0.alloc (.cells z4.toArray 24)) := Below.alloc hS0 (Below.size hS0) _
          refine hK _ _ hS1 ?_; clear hK K
          obtain ⟨u1, hu1⟩ : ∃ x, x = u0.alloc (.cells z4.toArray 24) := ⟨_, rfl⟩
          try rw [← hu1] at h6
          try rw [← hu1] at h7
          rw [← hu1] at hS1
          rw [show u0.alloc (.cells #[.int .u64 0, .int .u64 0, .int .u64 0, .int .u64 0] 24) = u1 from hu1.symm]
          clear hu1
          (refine wpH_only 3 (by rfl) (by kernel_rfl) (fun K hK => ?_); simp only [List.setIfInBounds_toArray, List.set_cons_zero, List.set_cons_succ] at hK; go_simp)
          have h7 := Blk.new u1 24 z4
          have q7 : w1.heap.size ≤ u1.heap.size := Below.size hS1
          have hS2 : Below w1.heap.size w1 (u1.alloc (.cells z4.toArray 24)) := Below.alloc hS1 (Below.size hS1) _
          have hne : u0.heap.size ≠ u1.heap.size := by have := h6.lt; omega
          replace h6 := h6.alloc (.cells z4.toArray 24)
          refine hK _ _ hS2 ?_; clear hK K
          obtain ⟨u2, hu2⟩ : ∃ x, x = u1.alloc (.cells z4.toArray 24) := ⟨_, rfl⟩
          try rw [← hu2] at h6
          try rw [← hu2] at h7
          rw [← hu2] at hS2
          rw [show u1.alloc (.cells #[.int .u64 0, .int .u64 0, .int .u64 0, .int .u64 0] 24) = u2 from hu2.symm]
          clear hu2
          refine wpH_only 4 (by rfl) (by kernel_rfl) (fun K hK => ?_)
          refine step_storeA (by rfl) 24 (.tmp 6) (.tmp 8) (by rfl) u0.heap.size (wcs (N)) (by rfl) (by rfl) aggWord h6 (wcs_len _) (by rfl) (wcs_one _) (fun v1 o6 c6 r6 => ?_)
          have T1 : Below w1.heap.size w1 v1 := Below.trans hS2 (c6.mono q6)
          refine hK _ _ T1 ?_; clear hK K
          refine wpH_only 5 (by rfl) (by kernel_rfl) (fun K hK => ?_)
          refine step_storeA (by rfl) 24 (.tmp 7) (.tmp 9) (by rfl) u1.heap.size (wcs (M)) (by rfl) (by rfl) aggWord (h7.grown r6 (by simpa using hne)) (wcs_len _) (by rfl) (wcs_one _) (fun v2 o7 c7 r7 => ?_)
          have T2 : Below w1.heap.size w1 v2 := Below.trans T1 (c7.mono q7)
          refine hK _ _ T2 ?_; clear hK K
          exact wpH_done (by kernel_rfl) ⟨rfl, u0.heap.size, u1.heap.size, rfl, hne, q6, q7, o6.grown r7 (by simpa using Ne.symm hne), o7, T2⟩
        · (refine brH_of (i := 3) (by rfl) (fun K hK => ?_); simp only [List.setIfInBounds_toArray, List.set_cons_zero, List.set_cons_succ] at hK; go_simp)
          have h7 := Blk.new u0 24 z4
          have q7 : w1.heap.size ≤ u0.heap.size := Below.size hS0
          have hS1 : Below w1.heap.size w1 (u0.alloc (.cells z4.toArray 24)) := Below.alloc hS0 (Below.size hS0) _
          refine hK _ _ hS1 ?_; clear hK K
          obtain ⟨u1, hu1⟩ : ∃ x, x = u0.alloc (.cells z4.toArray 24) := ⟨_, rfl⟩
          try rw [← hu1] at h6
          try rw [← hu1] at h7
          rw [← hu1] at hS1
          rw [show u0.alloc (.cells #[.int .u64 0, .int .u64 0, .int .u64 0, .int .u64 0] 24) = u1 from hu1.symm]
          clear hu1
          (refine wpH_only 2 (by rfl) (by kernel_rfl) (fun K hK => ?_); simp only [List.setIfInBounds_toArray, List.set_cons_zero, List.set_cons_succ] at hK; go_simp)
          have h6 := Blk.new u1 24 z4
          have q6 : w1.heap.size ≤ u1.heap.size := Below.size hS1
          have hS2 : Below w1.heap.size w1 (u1.alloc (.cells z4.toArray 24)) := Below.alloc hS1 (Below.size hS1) _
          have hne : u1.heap.size ≠ u0.heap.size := by have := h7.lt; omega
          replace h7 := h7.alloc (.cells z4.toArray 24)
          refine hK _ _ hS2 ?_; clear hK K
          obtain ⟨u2, hu2⟩ : ∃ x, x = u1.alloc (.cells z4.toArray 24) := ⟨_, rfl⟩
          try rw [← hu2] at h6
          try rw [← hu2] at h7
          rw [← hu2] at hS2
          rw [show u1.alloc (.cells #[.int .u64 0, .int .u64 0, .int .u64 0, .int .u64 0] 24) = u2 from hu2.symm]
          clear hu2
          refine wpH_only 4 (by rfl) (by kernel_rfl) (fun K hK => ?_)
          refine step_storeA (by rfl) 24 (.tmp 6) (.tmp 8) (by rfl) u1.heap.size (wcs (N)) (by rfl) (by rfl) aggWord h6 (wcs_len _) (by rfl) (wcs_one _) (fun v1 o6 c6 r6 => ?_)
          have T1 : Below w1.heap.size w1 v1 := Below.trans hS2 (c6.mono q6)
          refine hK _ _ T1 ?_; clear hK K
          refine wpH_only 5 (by rfl) (by kernel_rfl) (fun K hK => ?_)
          refine step_storeA (by rfl) 24 (.tmp 7) (.tmp 9) (by rfl) u0.heap.size (wcs (M)) (by rfl) (by rfl) aggWord (h7.grown r6 (by simpa using hne)) (wcs_len _) (by rfl) (wcs_one _) (fun v2 o7 c7 r7 => ?_)
          have T2 : Below w1.heap.size w1 v2 := Below.trans T1 (c7.mono q7)
          refine hK _ _ T2 ?_; clear hK K
          exact wpH_done (by kernel_rfl) ⟨rfl, u1.heap.size, u0.heap.size, rfl, hne, q6, q7, o6.grown r7 (by simpa using Ne.symm hne), o7, T2⟩
      rintro b w' ⟨g6, g7, rfl, hne, q6, q7, h6, h7, hb6⟩
      simp only [Act.put, List.setIfInBounds_toArray, List.set_cons_zero, List.set_cons_succ]
      have hG0 := hF.below' hb6
      have q6' : w.heap.size + 4 ≤ g6 := by have := Hs1.out; omega
      have q7' : w.heap.size + 4 ≤ g7 := by have := Hs1.out; omega
      clear q6 q7 hb6
      go_wp2_with (first
        | (refine wpList_loadA (o := ⟨some 10, _, _, _, _, _⟩) (by rfl) 24 (.tmp 2) (by rfl) (w.heap.size) (by rfl) aggWord hG0.b (wcs_len _) ?_)
        | (go_at_call 67; (with_reducible refine (tbelow_l N true HN.out _).mono ?_); rintro e a1 ⟨rfl, e1⟩; have A1 := hG0.kept e1; have x1 := h6.kept e1; have y1 := h7.kept e1)
        | (refine wpList_loadA (o := ⟨some 12, _, _, _, _, _⟩) (by rfl) 24 (.tmp 2) (by rfl) (w.heap.size) (by rfl) aggWord A1.b (wcs_len _) ?_)
        | (go_at_call 39; (with_reducible refine (tneg_l N hN _).mono ?_); rintro e a2 ⟨rfl, e2⟩; have A2 := A1.kept e2; have x2 := x1.kept e2; have y2 := y1.kept e2)
        | (refine wpList_storeA (by rfl) 24 (.tmp 6) (.tmp 13) (by rfl) (g6) (wcs (negN N)) (by rfl) (by rfl) aggWord x2 (wcs_len _) (by first | exact wcs_len _ | rfl) (wcs_one _) (Below.refl _ _) (Nat.le_refl _) ?_; intro a3 x3 e3 f3; have A3 := A2.far f3 e3 (by omega); have y3 := y2.grown f3 (by simpa using hne))
        | (refine wpList_loadA (o := ⟨some 14, _, _, _, _, _⟩) (by rfl) 24 (.tmp 3) (by rfl) (w.heap.size + 1) (by rfl) aggWord A3.d (wcs_len _) ?_)
        | (go_at_call 67; (with_reducible refine (tbelow_l M true HM.out _).mono ?_); rintro e a4 ⟨rfl, e4⟩; have A4 := A3.kept e4; have x4 := x3.kept e4; have y4 := y3.kept e4)
        | (refine wpList_loadA (o := ⟨some 16, _, _, _, _, _⟩) (by rfl) 24 (.tmp 3) (by rfl) (w.heap.size + 1) (by rfl) aggWord A4.d (wcs_len _) ?_)
        | (go_at_call 39; (with_reducible refine (tneg_l M hM _).mono ?_); rintro e a5 ⟨rfl, e5⟩; have A5 := A4.kept e5; have x5 := x4.kept e5; have y5 := y4.kept e5)
        | (refine wpList_storeA (by rfl) 24 (.tmp 7) (.tmp 17) (by rfl) (g7) (wcs (negN M)) (by rfl) (by rfl) aggWord y5 (wcs_len _) (by first | exact wcs_len _ | rfl) (wcs_one _) (Below.refl _ _) (Nat.le_refl _) ?_; intro a6 y6 e6 f6; have A6 := A5.far f6 e6 (by omega); have x6 := x5.grown f6 (by simpa using Ne.symm hne))
        | (refine wpList_loadA (o := ⟨some 19, _, _, _, _, _⟩) (by rfl) 24 (.tmp 6) (by rfl) (g6) (by rfl) aggWord x6 (wcs_len _) ?_)
        | (refine wpList_loadA (o := ⟨some 20, _, _, _, _, _⟩) (by rfl) 24 (.tmp 7) (by rfl) (g7) (by rfl) aggWord y6 (wcs_len _) ?_)
        | (go_at_call 68; refine (HD.out _).mono ?_; rintro e a7 ⟨rfl, e7⟩; have A7 := A6.kept e7)
        | (refine wpList_storeA (by rfl) 24 (.tmp 4) (.tmp 22) (by rfl) (w.heap.size + 2) (wcs (Q)) (by rfl) (by rfl) aggWord A7.f.q (wcs_len _) (by first | exact wcs_len _ | rfl) (wcs_one _) (Below.refl _ _) (Nat.le_refl _) ?_; intro a8 o8 e8 f8; have A8 := A7.st4 o8 e8 f8)
        | (refine wpList_storeA (by rfl) 24 (.tmp 5) (.tmp 23) (by rfl) (w.heap.size + 3) (wcs (R)) (by rfl) (by rfl) aggWord A8.f.r (wcs_len _) (by first | exact wcs_len _ | rfl) (wcs_one _) (Below.refl _ _) (Nat.le_refl _) ?_; intro a9 o9 e9 f9; have A9 := A8.st5 o9 e9 f9))
      have k0 := fun u : Ext a9 => u.cell (A9.b.wat 0 (by omega))
      have k1 := fun u : Ext a9 => u.cell (A9.b.wat 1 (by omega))
      have k2 := fun u : Ext a9 => u.cell (A9.b.wat 2 (by omega))
      have k3 := fun u : Ext a9 => u.cell (A9.b.wat 3 (by omega))
      have m0 := fun u : Ext a9 => u.cell (A9.d.wat 0 (by omega))
      have m1 := fun u : Ext a9 => u.cell (A9.d.wat 1 (by omega))
      have m2 := fun u : Ext a9 => u.cell (A9.d.wat 2 (by omega))
      have m3 := fun u : Ext a9 => u.cell (A9.d.wat 3 (by omega))
      refine wp_region_typed a9 5 (by kernel_rfl) (by kernel_rfl) (Below.refl _ _) ?_; simp only [List.take_succ_cons, List.take_zero, List.take_nil]
      iterate 1 (refine wpX_step (by rfl) (fun K hK => ?_); go_simp; first | (refine hK _ ?_; clear hK K) | (apply Exists.intro; refine ⟨fun _ => ?_, hK _ ?_⟩; fail; clear hK K))
      (refine wpX_step (by rfl) (fun K hK => ?_); go_simp; first | (refine hK _ ?_; clear hK K) | (apply Exists.intro; refine ⟨fun _ => ?_, hK _ ?_⟩; exact HmN.out _; clear hK K))
      iterate 1 (refine wpX_step (by rfl) (fun K hK => ?_); go_simp; first | (refine hK _ ?_; clear hK K) | (apply Exists.intro; refine ⟨fun _ => ?_, hK _ ?_⟩; fail; clear hK K))
      (refine wpX_step (by rfl) (fun K hK => ?_); go_simp; first | (refine hK _ ?_; clear hK K) | (apply Exists.intro; refine ⟨fun _ => ?_, hK _ ?_⟩; exact HmM.out _; clear hK K))
      iterate 1 (refine wpX_step (by rfl) (fun K hK => ?_); go_simp; first | (refine hK _ ?_; clear hK K) | (apply Exists.intro; refine ⟨fun _ => ?_, hK _ ?_⟩; fail; clear hK K))
      refine wpX_end rfl ?_
      rintro u6 hu6
      simp only [List.reverse_nil, forallRel]
      have hU6 := A9.kept hu6
      clear k0 k1 k2 k3 m0 m1 m2 m3
      go_wp2_with (first
        | (refine wpList_loadA (o := ⟨some 31, _, _, _, _, _⟩) (by rfl) 24 (.tmp 2) (by rfl) (w.heap.size) (by rfl) aggWord hU6.b (wcs_len _) ?_)
        | (go_at_call 67; (with_reducible refine (tbelow_l N true HN.out _).mono ?_); rintro e v3 ⟨rfl, c3⟩; have G3 := hU6.kept c3)
        | (refine wpList_loadA (o := ⟨some 33, _, _, _, _, _⟩) (by rfl) 24 (.tmp 5) (by rfl) (w.heap.size + 3) (by rfl) aggWord G3.f.r (wcs_len _) ?_)
        | (go_at_call 39; (with_reducible refine (tneg_l R hR _).mono ?_); rintro e v4 ⟨rfl, c4⟩; have G4 := G3.kept c4)
        | (refine wpList_storeA (by rfl) 24 (.tmp 5) (.tmp 34) (by rfl) (w.heap.size + 3) (wcs (negN R)) (by rfl) (by rfl) aggWord G4.f.r (wcs_len _) (by first | exact wcs_len _ | rfl) (wcs_one _) (Below.refl _ _) (Nat.le_refl _) ?_; intro v5 o5 c5 g5; have G5 := G4.st5 o5 c5 g5))
      (refine wp_region_h (Fr2 (w) (w.heap.size + 2) (w.heap.size + 3) (Q) (negN R)) (by kernel_rfl) ?_; intro u0 hu0; simp only [List.length_cons, List.length_nil, Nat.reduceAdd, List.replicate_succ, List.replicate_zero]; have hR0 : Fr2 (w) (w.heap.size + 2) (w.heap.size + 3) (Q) (negN R) u0 := (by rw [hu0]; exact Fr2.drew G5.f); clear hu0; (refine wpH_take 0 (by rfl) (by kernel_rfl) (by intro _ _ _ h; first | exact h | (cases h.1)) (by intro _ _ _ _ h; first | exact h | (cases h.1)) (by assumption) (fun K hK => ?_); simp only [List.setIfInBounds_toArray, List.set_cons_zero, List.set_cons_succ] at hK; refine take_loadA (by rfl) 24 (.tmp 4) (by rfl) (w.heap.size + 2) (by rfl) aggWord (fun u hu => Fr2.q hu) (wcs_len _) (hK _ ?_); clear hK K; simp only [Act.put, List.getElem_toArray, List.getElem_cons_zero, List.getElem_cons_succ, List.setIfInBounds_toArray, List.set_cons_zero, List.set_cons_succ]); (refine wpH_take 1 (by rfl) (by kernel_rfl) (by intro _ _ _ h; first | exact h | (cases h.1)) (by intro _ _ _ _ h; first | exact h | (cases h.1)) (by assumption) (fun K hK => ?_); simp only [List.setIfInBounds_toArray, List.set_cons_zero, List.set_cons_succ] at hK; refine take_loadA (by rfl) 24 (.tmp 5) (by rfl) (w.heap.size + 3) (by rfl) aggWord (fun u hu => Fr2.r hu) (wcs_len _) (hK _ ?_); clear hK K; simp only [Act.put, List.getElem_toArray, List.getElem_cons_zero, List.getElem_cons_succ, List.setIfInBounds_toArray, List.set_cons_zero, List.set_cons_succ]); (refine wpH_only 2 (by rfl) (by kernel_rfl) (fun K hK => ?_); simp only [List.setIfInBounds_toArray, List.set_cons_zero, List.set_cons_succ] at hK; refine step_storeA (by rfl) 24 (.tmp 4) (.tmp 35) (by rfl) (w.heap.size + 2) (wcs (Q)) (by rfl) (by rfl) aggWord hR0.q (wcs_len _) (by first | exact wcs_len _ | rfl) (wcs_one _) ?_; intro u1 o1 b1 g1; simp only [Act.put, List.getElem_toArray, List.getElem_cons_zero, List.getElem_cons_succ, List.setIfInBounds_toArray, List.set_cons_zero, List.set_cons_succ]); have hR1 := Fr2.st4 hR0 o1 b1 g1; refine hK _ _ hR1 ?_; clear hK K; (refine wpH_only 3 (by rfl) (by kernel_rfl) (fun K hK => ?_); simp only [List.setIfInBounds_toArray, List.set_cons_zero, List.set_cons_succ] at hK; refine step_storeA (by rfl) 24 (.tmp 5) (.tmp 36) (by rfl) (w.heap.size + 3) (wcs (negN R)) (by rfl) (by rfl) aggWord hR1.r (wcs_len _) (by first | exact wcs_len _ | rfl) (wcs_one _) ?_; intro u2 o2 b2 g2; simp only [Act.put, List.getElem_toArray, List.getElem_cons_zero, List.getElem_cons_succ, List.setIfInBounds_toArray, List.set_cons_zero, List.set_cons_succ]); have hR := Fr2.st5 hR1 o2 b2 g2; refine hK _ _ hR ?_; clear hK K; refine wpH_done (by kernel_rfl) ?_)
      go_wp2
      exact bodyPost_ret (results_blk2 rfl _ _ aggWord aggWord hR.q hR.r (wcs_len _) (wcs_len _) (by rfl) (by rfl)) rfl ⟨by rw [HQ.out, HR.out]; rfl, hR.bel⟩
    | false =>
      have cD' := cD
      have hq' := hq
      have hr' := hr
      rw [hbN, hbM] at hq'
      rw [hbN] at hr'
      rw [if_pos (by decide)] at hq'
      rw [if_pos (by decide)] at hr'
      rw [show sizeN N = negN N from by unfold sizeN; rw [hbN]; rfl, show sizeN M = M from by unfold sizeN; rw [hbM]; rfl] at cD'
      have HD := Lib.hid cD'
      have HQ := Lib.hid hq'
      have HR := Lib.hid hr'
      have HmN := Lib.hid (fun w => tbelow_any N w)
      have HmM := Lib.hid (fun w => tbelow_any M w)
      rw [hbN] at HmN
      rw [hbM] at HmM
      have HN := Lib.hid hbN
      have HM := Lib.hid hbM
      clear cD cD' hq hq' hr hr' hbN hbM
      go_enter Try.func16, Try.ntmps16
      go_wp2
      (rw [show (((w.alloc (.cells (wcs N).toArray 24)).alloc (.cells (wcs M).toArray 24)).alloc (.cells #[.int .u64 0, .int .u64 0, .int .u64 0, .int .u64 0] 24)).alloc (.cells #[.int .u64 0, .int .u64 0, .int .u64 0, .int .u64 0] 24) = w1 from by rw [Hw1.out]; rfl])
      clear Hw1
      refine wp_region_via (fun a b w' => ∃ g6 g7, b = (((a.put (some 8) (.agg (wcs (N)).toArray)).put (some 9) (.agg (wcs (M)).toArray)).put (some 6) (.pointer (some ⟨g6, 0, none⟩))).put (some 7) (.pointer (some ⟨g7, 0, none⟩)) ∧ g6 ≠ g7 ∧ w1.heap.size ≤ g6 ∧ w1.heap.size ≤ g7 ∧ Blk 24 w' g6 (wcs (N)) ∧ Blk 24 w' g7 (wcs (M)) ∧ Below w1.heap.size w1 w') ?_ ?_
      · refine wp_region_h ((fun u => Below w1.heap.size w1 u)) (by kernel_rfl) ?_; intro u0 hu0; simp only [List.length_cons, List.length_nil, Nat.reduceAdd, List.replicate_succ, List.replicate_zero]
        have hS0 : Below w1.heap.size w1 u0 := (by rw [hu0]; exact (Below.refl _ _).drew)
        clear hu0
        (refine wpH_take 0 (by rfl) (by kernel_rfl) (by intro _ _ _ h; first | exact h | (cases h.1)) (by intro _ _ _ _ h; first | exact h | (cases h.1)) (by assumption) (fun K hK => ?_); simp only [List.setIfInBounds_toArray, List.set_cons_zero, List.set_cons_succ] at hK; refine take_loadA (by rfl) 24 (.tmp 2) (by rfl) (w.heap.size) (by rfl) aggWord (fun u hu => Blk.below hF.b hu (Blk.lt hF.b)) (wcs_len _) (hK _ ?_); clear hK K; simp only [Act.put, List.getElem_toArray, List.getElem_cons_zero, List.getElem_cons_succ, List.setIfInBounds_toArray, List.set_cons_zero, List.set_cons_succ])
        (refine wpH_take 1 (by rfl) (by kernel_rfl) (by intro _ _ _ h; first | exact h | (cases h.1)) (by intro _ _ _ _ h; first | exact h | (cases h.1)) (by assumption) (fun K hK => ?_); simp only [List.setIfInBounds_toArray, List.set_cons_zero, List.set_cons_succ] at hK; refine take_loadA (by rfl) 24 (.tmp 3) (by rfl) (w.heap.size + 1) (by rfl) aggWord (fun u hu => Blk.below hF.d hu (Blk.lt hF.d)) (wcs_len _) (hK _ ?_); clear hK K; simp only [Act.put, List.getElem_toArray, List.getElem_cons_zero, List.getElem_cons_succ, List.setIfInBounds_toArray, List.set_cons_zero, List.set_cons_succ])
        refine wpH_all [2, 3] (by kernel_rfl) (by simp) ?_
        intro i hi
        simp only [List.mem_cons, List.not_mem_nil, or_false] at hi
        rcases hi with rfl | rfl
        · (refine brH_of (i := 2) (by rfl) (fun K hK => ?_); simp only [List.setIfInBounds_toArray, List.set_cons_zero, List.set_cons_succ] at hK; go_simp)
          have h6 := Blk.new u0 24 z4
          have q6 : w1.heap.size ≤ u0.heap.size := Below.size hS0
          have hS1 : Below w1.heap.size w1 (u0.alloc (.cells z4.toArray 24)) := Below.alloc hS0 (Below.size hS0) _
          refine hK _ _ hS1 ?_; clear hK K
          obtain ⟨u1, hu1⟩ : ∃ x, x = u0.alloc (.cells z4.toArray 24) := ⟨_, rfl⟩
          try rw [← hu1] at h6
          try rw [← hu1] at h7
          rw [← hu1] at hS1
          rw [show u0.alloc (.cells #[.int .u64 0, .int .u64 0, .int .u64 0, .int .u64 0] 24) = u1 from hu1.symm]
          clear hu1
          (refine wpH_only 3 (by rfl) (by kernel_rfl) (fun K hK => ?_); simp only [List.setIfInBounds_toArray, List.set_cons_zero, List.set_cons_succ] at hK; go_simp)
          have h7 := Blk.new u1 24 z4
          have q7 : w1.heap.size ≤ u1.heap.size := Below.size hS1
          have hS2 : Below w1.heap.size w1 (u1.alloc (.cells z4.toArray 24)) := Below.alloc hS1 (Below.size hS1) _
          have hne : u0.heap.size ≠ u1.heap.size := by have := h6.lt; omega
          replace h6 := h6.alloc (.cells z4.toArray 24)
          refine hK _ _ hS2 ?_; clear hK K
          obtain ⟨u2, hu2⟩ : ∃ x, x = u1.alloc (.cells z4.toArray 24) := ⟨_, rfl⟩
          try rw [← hu2] at h6
          try rw [← hu2] at h7
          rw [← hu2] at hS2
          rw [show u1.alloc (.cells #[.int .u64 0, .int .u64 0, .int .u64 0, .int .u64 0] 24) = u2 from hu2.symm]
          clear hu2
          refine wpH_only 4 (by rfl) (by kernel_rfl) (fun K hK => ?_)
          refine step_storeA (by rfl) 24 (.tmp 6) (.tmp 8) (by rfl) u0.heap.size (wcs (N)) (by rfl) (by rfl) aggWord h6 (wcs_len _) (by rfl) (wcs_one _) (fun v1 o6 c6 r6 => ?_)
          have T1 : Below w1.heap.size w1 v1 := Below.trans hS2 (c6.mono q6)
          refine hK _ _ T1 ?_; clear hK K
          refine wpH_only 5 (by rfl) (by kernel_rfl) (fun K hK => ?_)
          refine step_storeA (by rfl) 24 (.tmp 7) (.tmp 9) (by rfl) u1.heap.size (wcs (M)) (by rfl) (by rfl) aggWord (h7.grown r6 (by simpa using hne)) (wcs_len _) (by rfl) (wcs_one _) (fun v2 o7 c7 r7 => ?_)
          have T2 : Below w1.heap.size w1 v2 := Below.trans T1 (c7.mono q7)
          refine hK _ _ T2 ?_; clear hK K
          exact wpH_done (by kernel_rfl) ⟨rfl, u0.heap.size, u1.heap.size, rfl, hne, q6, q7, o6.grown r7 (by simpa using Ne.symm hne), o7, T2⟩
        · (refine brH_of (i := 3) (by rfl) (fun K hK => ?_); simp only [List.setIfInBounds_toArray, List.set_cons_zero, List.set_cons_succ] at hK; go_simp)
          have h7 := Blk.new u0 24 z4
          have q7 : w1.heap.size ≤ u0.heap.size := Below.size hS0
          have hS1 : Below w1.heap.size w1 (u0.alloc (.cells z4.toArray 24)) := Below.alloc hS0 (Below.size hS0) _
          refine hK _ _ hS1 ?_; clear hK K
          obtain ⟨u1, hu1⟩ : ∃ x, x = u0.alloc (.cells z4.toArray 24) := ⟨_, rfl⟩
          try rw [← hu1] at h6
          try rw [← hu1] at h7
          rw [← hu1] at hS1
          rw [show u0.alloc (.cells #[.int .u64 0, .int .u64 0, .int .u64 0, .int .u64 0] 24) = u1 from hu1.symm]
          clear hu1
          (refine wpH_only 2 (by rfl) (by kernel_rfl) (fun K hK => ?_); simp only [List.setIfInBounds_toArray, List.set_cons_zero, List.set_cons_succ] at hK; go_simp)
          have h6 := Blk.new u1 24 z4
          have q6 : w1.heap.size ≤ u1.heap.size := Below.size hS1
          have hS2 : Below w1.heap.size w1 (u1.alloc (.cells z4.toArray 24)) := Below.alloc hS1 (Below.size hS1) _
          have hne : u1.heap.size ≠ u0.heap.size := by have := h7.lt; omega
          replace h7 := h7.alloc (.cells z4.toArray 24)
          refine hK _ _ hS2 ?_; clear hK K
          obtain ⟨u2, hu2⟩ : ∃ x, x = u1.alloc (.cells z4.toArray 24) := ⟨_, rfl⟩
          try rw [← hu2] at h6
          try rw [← hu2] at h7
          rw [← hu2] at hS2
          rw [show u1.alloc (.cells #[.int .u64 0, .int .u64 0, .int .u64 0, .int .u64 0] 24) = u2 from hu2.symm]
          clear hu2
          refine wpH_only 4 (by rfl) (by kernel_rfl) (fun K hK => ?_)
          refine step_storeA (by rfl) 24 (.tmp 6) (.tmp 8) (by rfl) u1.heap.size (wcs (N)) (by rfl) (by rfl) aggWord h6 (wcs_len _) (by rfl) (wcs_one _) (fun v1 o6 c6 r6 => ?_)
          have T1 : Below w1.heap.size w1 v1 := Below.trans hS2 (c6.mono q6)
          refine hK _ _ T1 ?_; clear hK K
          refine wpH_only 5 (by rfl) (by kernel_rfl) (fun K hK => ?_)
          refine step_storeA (by rfl) 24 (.tmp 7) (.tmp 9) (by rfl) u0.heap.size (wcs (M)) (by rfl) (by rfl) aggWord (h7.grown r6 (by simpa using hne)) (wcs_len _) (by rfl) (wcs_one _) (fun v2 o7 c7 r7 => ?_)
          have T2 : Below w1.heap.size w1 v2 := Below.trans T1 (c7.mono q7)
          refine hK _ _ T2 ?_; clear hK K
          exact wpH_done (by kernel_rfl) ⟨rfl, u1.heap.size, u0.heap.size, rfl, hne, q6, q7, o6.grown r7 (by simpa using Ne.symm hne), o7, T2⟩
      rintro b w' ⟨g6, g7, rfl, hne, q6, q7, h6, h7, hb6⟩
      simp only [Act.put, List.setIfInBounds_toArray, List.set_cons_zero, List.set_cons_succ]
      have hG0 := hF.below' hb6
      have q6' : w.heap.size + 4 ≤ g6 := by have := Hs1.out; omega
      have q7' : w.heap.size + 4 ≤ g7 := by have := Hs1.out; omega
      clear q6 q7 hb6
      go_wp2_with (first
        | (refine wpList_loadA (o := ⟨some 10, _, _, _, _, _⟩) (by rfl) 24 (.tmp 2) (by rfl) (w.heap.size) (by rfl) aggWord hG0.b (wcs_len _) ?_)
        | (go_at_call 67; (with_reducible refine (tbelow_l N true HN.out _).mono ?_); rintro e a1 ⟨rfl, e1⟩; have A1 := hG0.kept e1; have x1 := h6.kept e1; have y1 := h7.kept e1)
        | (refine wpList_loadA (o := ⟨some 12, _, _, _, _, _⟩) (by rfl) 24 (.tmp 2) (by rfl) (w.heap.size) (by rfl) aggWord A1.b (wcs_len _) ?_)
        | (go_at_call 39; (with_reducible refine (tneg_l N hN _).mono ?_); rintro e a2 ⟨rfl, e2⟩; have A2 := A1.kept e2; have x2 := x1.kept e2; have y2 := y1.kept e2)
        | (refine wpList_storeA (by rfl) 24 (.tmp 6) (.tmp 13) (by rfl) (g6) (wcs (negN N)) (by rfl) (by rfl) aggWord x2 (wcs_len _) (by first | exact wcs_len _ | rfl) (wcs_one _) (Below.refl _ _) (Nat.le_refl _) ?_; intro a3 x3 e3 f3; have A3 := A2.far f3 e3 (by omega); have y3 := y2.grown f3 (by simpa using hne))
        | (refine wpList_loadA (o := ⟨some 14, _, _, _, _, _⟩) (by rfl) 24 (.tmp 3) (by rfl) (w.heap.size + 1) (by rfl) aggWord A3.d (wcs_len _) ?_)
        | (go_at_call 67; (with_reducible refine (tbelow_l M false HM.out _).mono ?_); rintro e a4 ⟨rfl, e4⟩; have A4 := A3.kept e4; have x4 := x3.kept e4; have y4 := y3.kept e4)
        | (refine wpList_loadA (o := ⟨some 19, _, _, _, _, _⟩) (by rfl) 24 (.tmp 6) (by rfl) (g6) (by rfl) aggWord x4 (wcs_len _) ?_)
        | (refine wpList_loadA (o := ⟨some 20, _, _, _, _, _⟩) (by rfl) 24 (.tmp 7) (by rfl) (g7) (by rfl) aggWord y4 (wcs_len _) ?_)
        | (go_at_call 68; refine (HD.out _).mono ?_; rintro e a7 ⟨rfl, e7⟩; have A7 := A4.kept e7)
        | (refine wpList_storeA (by rfl) 24 (.tmp 4) (.tmp 22) (by rfl) (w.heap.size + 2) (wcs (Q)) (by rfl) (by rfl) aggWord A7.f.q (wcs_len _) (by first | exact wcs_len _ | rfl) (wcs_one _) (Below.refl _ _) (Nat.le_refl _) ?_; intro a8 o8 e8 f8; have A8 := A7.st4 o8 e8 f8)
        | (refine wpList_storeA (by rfl) 24 (.tmp 5) (.tmp 23) (by rfl) (w.heap.size + 3) (wcs (R)) (by rfl) (by rfl) aggWord A8.f.r (wcs_len _) (by first | exact wcs_len _ | rfl) (wcs_one _) (Below.refl _ _) (Nat.le_refl _) ?_; intro a9 o9 e9 f9; have A9 := A8.st5 o9 e9 f9))
      have k0 := fun u : Ext a9 => u.cell (A9.b.wat 0 (by omega))
      have k1 := fun u : Ext a9 => u.cell (A9.b.wat 1 (by omega))
      have k2 := fun u : Ext a9 => u.cell (A9.b.wat 2 (by omega))
      have k3 := fun u : Ext a9 => u.cell (A9.b.wat 3 (by omega))
      have m0 := fun u : Ext a9 => u.cell (A9.d.wat 0 (by omega))
      have m1 := fun u : Ext a9 => u.cell (A9.d.wat 1 (by omega))
      have m2 := fun u : Ext a9 => u.cell (A9.d.wat 2 (by omega))
      have m3 := fun u : Ext a9 => u.cell (A9.d.wat 3 (by omega))
      refine wp_region_typed a9 5 (by kernel_rfl) (by kernel_rfl) (Below.refl _ _) ?_; simp only [List.take_succ_cons, List.take_zero, List.take_nil]
      iterate 1 (refine wpX_step (by rfl) (fun K hK => ?_); go_simp; first | (refine hK _ ?_; clear hK K) | (apply Exists.intro; refine ⟨fun _ => ?_, hK _ ?_⟩; fail; clear hK K))
      (refine wpX_step (by rfl) (fun K hK => ?_); go_simp; first | (refine hK _ ?_; clear hK K) | (apply Exists.intro; refine ⟨fun _ => ?_, hK _ ?_⟩; exact HmN.out _; clear hK K))
      iterate 1 (refine wpX_step (by rfl) (fun K hK => ?_); go_simp; first | (refine hK _ ?_; clear hK K) | (apply Exists.intro; refine ⟨fun _ => ?_, hK _ ?_⟩; fail; clear hK K))
      (refine wpX_step (by rfl) (fun K hK => ?_); go_simp; first | (refine hK _ ?_; clear hK K) | (apply Exists.intro; refine ⟨fun _ => ?_, hK _ ?_⟩; exact HmM.out _; clear hK K))
      iterate 1 (refine wpX_step (by rfl) (fun K hK => ?_); go_simp; first | (refine hK _ ?_; clear hK K) | (apply Exists.intro; refine ⟨fun _ => ?_, hK _ ?_⟩; fail; clear hK K))
      refine wpX_end rfl ?_
      rintro u6 hu6
      simp only [List.reverse_nil, forallRel]
      have hU6 := A9.kept hu6
      clear k0 k1 k2 k3 m0 m1 m2 m3
      go_wp2_with (first
        | (refine wpList_loadA (o := ⟨some 29, _, _, _, _, _⟩) (by rfl) 24 (.tmp 4) (by rfl) (w.heap.size + 2) (by rfl) aggWord hU6.f.q (wcs_len _) ?_)
        | (go_at_call 39; (with_reducible refine (tneg_l Q hQ _).mono ?_); rintro e v1 ⟨rfl, c1⟩; have G1 := hU6.kept c1)
        | (refine wpList_storeA (by rfl) 24 (.tmp 4) (.tmp 30) (by rfl) (w.heap.size + 2) (wcs (negN Q)) (by rfl) (by rfl) aggWord G1.f.q (wcs_len _) (by first | exact wcs_len _ | rfl) (wcs_one _) (Below.refl _ _) (Nat.le_refl _) ?_; intro v2 o2 c2 g2; have G2 := G1.st4 o2 c2 g2)
        | (refine wpList_loadA (o := ⟨some 31, _, _, _, _, _⟩) (by rfl) 24 (.tmp 2) (by rfl) (w.heap.size) (by rfl) aggWord G2.b (wcs_len _) ?_)
        | (go_at_call 67; (with_reducible refine (tbelow_l N true HN.out _).mono ?_); rintro e v3 ⟨rfl, c3⟩; have G3 := G2.kept c3)
        | (refine wpList_loadA (o := ⟨some 33, _, _, _, _, _⟩) (by rfl) 24 (.tmp 5) (by rfl) (w.heap.size + 3) (by rfl) aggWord G3.f.r (wcs_len _) ?_)
        | (go_at_call 39; (with_reducible refine (tneg_l R hR _).mono ?_); rintro e v4 ⟨rfl, c4⟩; have G4 := G3.kept c4)
        | (refine wpList_storeA (by rfl) 24 (.tmp 5) (.tmp 34) (by rfl) (w.heap.size + 3) (wcs (negN R)) (by rfl) (by rfl) aggWord G4.f.r (wcs_len _) (by first | exact wcs_len _ | rfl) (wcs_one _) (Below.refl _ _) (Nat.le_refl _) ?_; intro v5 o5 c5 g5; have G5 := G4.st5 o5 c5 g5))
      (refine wp_region_h (Fr2 (w) (w.heap.size + 2) (w.heap.size + 3) (negN Q) (negN R)) (by kernel_rfl) ?_; intro u0 hu0; simp only [List.length_cons, List.length_nil, Nat.reduceAdd, List.replicate_succ, List.replicate_zero]; have hR0 : Fr2 (w) (w.heap.size + 2) (w.heap.size + 3) (negN Q) (negN R) u0 := (by rw [hu0]; exact Fr2.drew G5.f); clear hu0; (refine wpH_take 0 (by rfl) (by kernel_rfl) (by intro _ _ _ h; first | exact h | (cases h.1)) (by intro _ _ _ _ h; first | exact h | (cases h.1)) (by assumption) (fun K hK => ?_); simp only [List.setIfInBounds_toArray, List.set_cons_zero, List.set_cons_succ] at hK; refine take_loadA (by rfl) 24 (.tmp 4) (by rfl) (w.heap.size + 2) (by rfl) aggWord (fun u hu => Fr2.q hu) (wcs_len _) (hK _ ?_); clear hK K; simp only [Act.put, List.getElem_toArray, List.getElem_cons_zero, List.getElem_cons_succ, List.setIfInBounds_toArray, List.set_cons_zero, List.set_cons_succ]); (refine wpH_take 1 (by rfl) (by kernel_rfl) (by intro _ _ _ h; first | exact h | (cases h.1)) (by intro _ _ _ _ h; first | exact h | (cases h.1)) (by assumption) (fun K hK => ?_); simp only [List.setIfInBounds_toArray, List.set_cons_zero, List.set_cons_succ] at hK; refine take_loadA (by rfl) 24 (.tmp 5) (by rfl) (w.heap.size + 3) (by rfl) aggWord (fun u hu => Fr2.r hu) (wcs_len _) (hK _ ?_); clear hK K; simp only [Act.put, List.getElem_toArray, List.getElem_cons_zero, List.getElem_cons_succ, List.setIfInBounds_toArray, List.set_cons_zero, List.set_cons_succ]); (refine wpH_only 2 (by rfl) (by kernel_rfl) (fun K hK => ?_); simp only [List.setIfInBounds_toArray, List.set_cons_zero, List.set_cons_succ] at hK; refine step_storeA (by rfl) 24 (.tmp 4) (.tmp 35) (by rfl) (w.heap.size + 2) (wcs (negN Q)) (by rfl) (by rfl) aggWord hR0.q (wcs_len _) (by first | exact wcs_len _ | rfl) (wcs_one _) ?_; intro u1 o1 b1 g1; simp only [Act.put, List.getElem_toArray, List.getElem_cons_zero, List.getElem_cons_succ, List.setIfInBounds_toArray, List.set_cons_zero, List.set_cons_succ]); have hR1 := Fr2.st4 hR0 o1 b1 g1; refine hK _ _ hR1 ?_; clear hK K; (refine wpH_only 3 (by rfl) (by kernel_rfl) (fun K hK => ?_); simp only [List.setIfInBounds_toArray, List.set_cons_zero, List.set_cons_succ] at hK; refine step_storeA (by rfl) 24 (.tmp 5) (.tmp 36) (by rfl) (w.heap.size + 3) (wcs (negN R)) (by rfl) (by rfl) aggWord hR1.r (wcs_len _) (by first | exact wcs_len _ | rfl) (wcs_one _) ?_; intro u2 o2 b2 g2; simp only [Act.put, List.getElem_toArray, List.getElem_cons_zero, List.getElem_cons_succ, List.setIfInBounds_toArray, List.set_cons_zero, List.set_cons_succ]); have hR := Fr2.st5 hR1 o2 b2 g2; refine hK _ _ hR ?_; clear hK K; refine wpH_done (by kernel_rfl) ?_)
      go_wp2
      exact bodyPost_ret (results_blk2 rfl _ _ aggWord aggWord hR.q hR.r (wcs_len _) (wcs_len _) (by rfl) (by rfl)) rfl ⟨by rw [HQ.out, HR.out]; rfl, hR.bel⟩
  | false =>
    cases hbM : M.testBit 255 with
    | true =>
      have cD' := cD
      have hq' := hq
      have hr' := hr
      rw [hbN, hbM] at hq'
      rw [hbN] at hr'
      rw [if_pos (by decide)] at hq'
      rw [if_neg (by decide)] at hr'
      rw [show sizeN N = N from by unfold sizeN; rw [hbN]; rfl, show sizeN M = negN M from by unfold sizeN; rw [hbM]; rfl] at cD'
      have HD := Lib.hid cD'
      have HQ := Lib.hid hq'
      have HR := Lib.hid hr'
      have HmN := Lib.hid (fun w => tbelow_any N w)
      have HmM := Lib.hid (fun w => tbelow_any M w)
      rw [hbN] at HmN
      rw [hbM] at HmM
      have HN := Lib.hid hbN
      have HM := Lib.hid hbM
      clear cD cD' hq hq' hr hr' hbN hbM
      go_enter Try.func16, Try.ntmps16
      go_wp2
      (rw [show (((w.alloc (.cells (wcs N).toArray 24)).alloc (.cells (wcs M).toArray 24)).alloc (.cells #[.int .u64 0, .int .u64 0, .int .u64 0, .int .u64 0] 24)).alloc (.cells #[.int .u64 0, .int .u64 0, .int .u64 0, .int .u64 0] 24) = w1 from by rw [Hw1.out]; rfl])
      clear Hw1
      refine wp_region_via (fun a b w' => ∃ g6 g7, b = (((a.put (some 8) (.agg (wcs (N)).toArray)).put (some 9) (.agg (wcs (M)).toArray)).put (some 6) (.pointer (some ⟨g6, 0, none⟩))).put (some 7) (.pointer (some ⟨g7, 0, none⟩)) ∧ g6 ≠ g7 ∧ w1.heap.size ≤ g6 ∧ w1.heap.size ≤ g7 ∧ Blk 24 w' g6 (wcs (N)) ∧ Blk 24 w' g7 (wcs (M)) ∧ Below w1.heap.size w1 w') ?_ ?_
      · refine wp_region_h ((fun u => Below w1.heap.size w1 u)) (by kernel_rfl) ?_; intro u0 hu0; simp only [List.length_cons, List.length_nil, Nat.reduceAdd, List.replicate_succ, List.replicate_zero]
        have hS0 : Below w1.heap.size w1 u0 := (by rw [hu0]; exact (Below.refl _ _).drew)
        clear hu0
        (refine wpH_take 0 (by rfl) (by kernel_rfl) (by intro _ _ _ h; first | exact h | (cases h.1)) (by intro _ _ _ _ h; first | exact h | (cases h.1)) (by assumption) (fun K hK => ?_); simp only [List.setIfInBounds_toArray, List.set_cons_zero, List.set_cons_succ] at hK; refine take_loadA (by rfl) 24 (.tmp 2) (by rfl) (w.heap.size) (by rfl) aggWord (fun u hu => Blk.below hF.b hu (Blk.lt hF.b)) (wcs_len _) (hK _ ?_); clear hK K; simp only [Act.put, List.getElem_toArray, List.getElem_cons_zero, List.getElem_cons_succ, List.setIfInBounds_toArray, List.set_cons_zero, List.set_cons_succ])
        (refine wpH_take 1 (by rfl) (by kernel_rfl) (by intro _ _ _ h; first | exact h | (cases h.1)) (by intro _ _ _ _ h; first | exact h | (cases h.1)) (by assumption) (fun K hK => ?_); simp only [List.setIfInBounds_toArray, List.set_cons_zero, List.set_cons_succ] at hK; refine take_loadA (by rfl) 24 (.tmp 3) (by rfl) (w.heap.size + 1) (by rfl) aggWord (fun u hu => Blk.below hF.d hu (Blk.lt hF.d)) (wcs_len _) (hK _ ?_); clear hK K; simp only [Act.put, List.getElem_toArray, List.getElem_cons_zero, List.getElem_cons_succ, List.setIfInBounds_toArray, List.set_cons_zero, List.set_cons_succ])
        refine wpH_all [2, 3] (by kernel_rfl) (by simp) ?_
        intro i hi
        simp only [List.mem_cons, List.not_mem_nil, or_false] at hi
        rcases hi with rfl | rfl
        · (refine brH_of (i := 2) (by rfl) (fun K hK => ?_); simp only [List.setIfInBounds_toArray, List.set_cons_zero, List.set_cons_succ] at hK; go_simp)
          have h6 := Blk.new u0 24 z4
          have q6 : w1.heap.size ≤ u0.heap.size := Below.size hS0
          have hS1 : Below w1.heap.size w1 (u0.alloc (.cells z4.toArray 24)) := Below.alloc hS0 (Below.size hS0) _
          refine hK _ _ hS1 ?_; clear hK K
          obtain ⟨u1, hu1⟩ : ∃ x, x = u0.alloc (.cells z4.toArray 24) := ⟨_, rfl⟩
          try rw [← hu1] at h6
          try rw [← hu1] at h7
          rw [← hu1] at hS1
          rw [show u0.alloc (.cells #[.int .u64 0, .int .u64 0, .int .u64 0, .int .u64 0] 24) = u1 from hu1.symm]
          clear hu1
          (refine wpH_only 3 (by rfl) (by kernel_rfl) (fun K hK => ?_); simp only [List.setIfInBounds_toArray, List.set_cons_zero, List.set_cons_succ] at hK; go_simp)
          have h7 := Blk.new u1 24 z4
          have q7 : w1.heap.size ≤ u1.heap.size := Below.size hS1
          have hS2 : Below w1.heap.size w1 (u1.alloc (.cells z4.toArray 24)) := Below.alloc hS1 (Below.size hS1) _
          have hne : u0.heap.size ≠ u1.heap.size := by have := h6.lt; omega
          replace h6 := h6.alloc (.cells z4.toArray 24)
          refine hK _ _ hS2 ?_; clear hK K
          obtain ⟨u2, hu2⟩ : ∃ x, x = u1.alloc (.cells z4.toArray 24) := ⟨_, rfl⟩
          try rw [← hu2] at h6
          try rw [← hu2] at h7
          rw [← hu2] at hS2
          rw [show u1.alloc (.cells #[.int .u64 0, .int .u64 0, .int .u64 0, .int .u64 0] 24) = u2 from hu2.symm]
          clear hu2
          refine wpH_only 4 (by rfl) (by kernel_rfl) (fun K hK => ?_)
          refine step_storeA (by rfl) 24 (.tmp 6) (.tmp 8) (by rfl) u0.heap.size (wcs (N)) (by rfl) (by rfl) aggWord h6 (wcs_len _) (by rfl) (wcs_one _) (fun v1 o6 c6 r6 => ?_)
          have T1 : Below w1.heap.size w1 v1 := Below.trans hS2 (c6.mono q6)
          refine hK _ _ T1 ?_; clear hK K
          refine wpH_only 5 (by rfl) (by kernel_rfl) (fun K hK => ?_)
          refine step_storeA (by rfl) 24 (.tmp 7) (.tmp 9) (by rfl) u1.heap.size (wcs (M)) (by rfl) (by rfl) aggWord (h7.grown r6 (by simpa using hne)) (wcs_len _) (by rfl) (wcs_one _) (fun v2 o7 c7 r7 => ?_)
          have T2 : Below w1.heap.size w1 v2 := Below.trans T1 (c7.mono q7)
          refine hK _ _ T2 ?_; clear hK K
          exact wpH_done (by kernel_rfl) ⟨rfl, u0.heap.size, u1.heap.size, rfl, hne, q6, q7, o6.grown r7 (by simpa using Ne.symm hne), o7, T2⟩
        · (refine brH_of (i := 3) (by rfl) (fun K hK => ?_); simp only [List.setIfInBounds_toArray, List.set_cons_zero, List.set_cons_succ] at hK; go_simp)
          have h7 := Blk.new u0 24 z4
          have q7 : w1.heap.size ≤ u0.heap.size := Below.size hS0
          have hS1 : Below w1.heap.size w1 (u0.alloc (.cells z4.toArray 24)) := Below.alloc hS0 (Below.size hS0) _
          refine hK _ _ hS1 ?_; clear hK K
          obtain ⟨u1, hu1⟩ : ∃ x, x = u0.alloc (.cells z4.toArray 24) := ⟨_, rfl⟩
          try rw [← hu1] at h6
          try rw [← hu1] at h7
          rw [← hu1] at hS1
          rw [show u0.alloc (.cells #[.int .u64 0, .int .u64 0, .int .u64 0, .int .u64 0] 24) = u1 from hu1.symm]
          clear hu1
          (refine wpH_only 2 (by rfl) (by kernel_rfl) (fun K hK => ?_); simp only [List.setIfInBounds_toArray, List.set_cons_zero, List.set_cons_succ] at hK; go_simp)
          have h6 := Blk.new u1 24 z4
          have q6 : w1.heap.size ≤ u1.heap.size := Below.size hS1
          have hS2 : Below w1.heap.size w1 (u1.alloc (.cells z4.toArray 24)) := Below.alloc hS1 (Below.size hS1) _
          have hne : u1.heap.size ≠ u0.heap.size := by have := h7.lt; omega
          replace h7 := h7.alloc (.cells z4.toArray 24)
          refine hK _ _ hS2 ?_; clear hK K
          obtain ⟨u2, hu2⟩ : ∃ x, x = u1.alloc (.cells z4.toArray 24) := ⟨_, rfl⟩
          try rw [← hu2] at h6
          try rw [← hu2] at h7
          rw [← hu2] at hS2
          rw [show u1.alloc (.cells #[.int .u64 0, .int .u64 0, .int .u64 0, .int .u64 0] 24) = u2 from hu2.symm]
          clear hu2
          refine wpH_only 4 (by rfl) (by kernel_rfl) (fun K hK => ?_)
          refine step_storeA (by rfl) 24 (.tmp 6) (.tmp 8) (by rfl) u1.heap.size (wcs (N)) (by rfl) (by rfl) aggWord h6 (wcs_len _) (by rfl) (wcs_one _) (fun v1 o6 c6 r6 => ?_)
          have T1 : Below w1.heap.size w1 v1 := Below.trans hS2 (c6.mono q6)
          refine hK _ _ T1 ?_; clear hK K
          refine wpH_only 5 (by rfl) (by kernel_rfl) (fun K hK => ?_)
          refine step_storeA (by rfl) 24 (.tmp 7) (.tmp 9) (by rfl) u0.heap.size (wcs (M)) (by rfl) (by rfl) aggWord (h7.grown r6 (by simpa using hne)) (wcs_len _) (by rfl) (wcs_one _) (fun v2 o7 c7 r7 => ?_)
          have T2 : Below w1.heap.size w1 v2 := Below.trans T1 (c7.mono q7)
          refine hK _ _ T2 ?_; clear hK K
          exact wpH_done (by kernel_rfl) ⟨rfl, u1.heap.size, u0.heap.size, rfl, hne, q6, q7, o6.grown r7 (by simpa using Ne.symm hne), o7, T2⟩
      rintro b w' ⟨g6, g7, rfl, hne, q6, q7, h6, h7, hb6⟩
      simp only [Act.put, List.setIfInBounds_toArray, List.set_cons_zero, List.set_cons_succ]
      have hG0 := hF.below' hb6
      have q6' : w.heap.size + 4 ≤ g6 := by have := Hs1.out; omega
      have q7' : w.heap.size + 4 ≤ g7 := by have := Hs1.out; omega
      clear q6 q7 hb6
      go_wp2_with (first
        | (refine wpList_loadA (o := ⟨some 10, _, _, _, _, _⟩) (by rfl) 24 (.tmp 2) (by rfl) (w.heap.size) (by rfl) aggWord hG0.b (wcs_len _) ?_)
        | (go_at_call 67; (with_reducible refine (tbelow_l N false HN.out _).mono ?_); rintro e a1 ⟨rfl, e1⟩; have A1 := hG0.kept e1; have x1 := h6.kept e1; have y1 := h7.kept e1)
        | (refine wpList_loadA (o := ⟨some 14, _, _, _, _, _⟩) (by rfl) 24 (.tmp 3) (by rfl) (w.heap.size + 1) (by rfl) aggWord A1.d (wcs_len _) ?_)
        | (go_at_call 67; (with_reducible refine (tbelow_l M true HM.out _).mono ?_); rintro e a4 ⟨rfl, e4⟩; have A4 := A1.kept e4; have x4 := x1.kept e4; have y4 := y1.kept e4)
        | (refine wpList_loadA (o := ⟨some 16, _, _, _, _, _⟩) (by rfl) 24 (.tmp 3) (by rfl) (w.heap.size + 1) (by rfl) aggWord A4.d (wcs_len _) ?_)
        | (go_at_call 39; (with_reducible refine (tneg_l M hM _).mono ?_); rintro e a5 ⟨rfl, e5⟩; have A5 := A4.kept e5; have x5 := x4.kept e5; have y5 := y4.kept e5)
        | (refine wpList_storeA (by rfl) 24 (.tmp 7) (.tmp 17) (by rfl) (g7) (wcs (negN M)) (by rfl) (by rfl) aggWord y5 (wcs_len _) (by first | exact wcs_len _ | rfl) (wcs_one _) (Below.refl _ _) (Nat.le_refl _) ?_; intro a6 y6 e6 f6; have A6 := A5.far f6 e6 (by omega); have x6 := x5.grown f6 (by simpa using Ne.symm hne))
        | (refine wpList_loadA (o := ⟨some 19, _, _, _, _, _⟩) (by rfl) 24 (.tmp 6) (by rfl) (g6) (by rfl) aggWord x6 (wcs_len _) ?_)
        | (refine wpList_loadA (o := ⟨some 20, _, _, _, _, _⟩) (by rfl) 24 (.tmp 7) (by rfl) (g7) (by rfl) aggWord y6 (wcs_len _) ?_)
        | (go_at_call 68; refine (HD.out _).mono ?_; rintro e a7 ⟨rfl, e7⟩; have A7 := A6.kept e7)
        | (refine wpList_storeA (by rfl) 24 (.tmp 4) (.tmp 22) (by rfl) (w.heap.size + 2) (wcs (Q)) (by rfl) (by rfl) aggWord A7.f.q (wcs_len _) (by first | exact wcs_len _ | rfl) (wcs_one _) (Below.refl _ _) (Nat.le_refl _) ?_; intro a8 o8 e8 f8; have A8 := A7.st4 o8 e8 f8)
        | (refine wpList_storeA (by rfl) 24 (.tmp 5) (.tmp 23) (by rfl) (w.heap.size + 3) (wcs (R)) (by rfl) (by rfl) aggWord A8.f.r (wcs_len _) (by first | exact wcs_len _ | rfl) (wcs_one _) (Below.refl _ _) (Nat.le_refl _) ?_; intro a9 o9 e9 f9; have A9 := A8.st5 o9 e9 f9))
      have k0 := fun u : Ext a9 => u.cell (A9.b.wat 0 (by omega))
      have k1 := fun u : Ext a9 => u.cell (A9.b.wat 1 (by omega))
      have k2 := fun u : Ext a9 => u.cell (A9.b.wat 2 (by omega))
      have k3 := fun u : Ext a9 => u.cell (A9.b.wat 3 (by omega))
      have m0 := fun u : Ext a9 => u.cell (A9.d.wat 0 (by omega))
      have m1 := fun u : Ext a9 => u.cell (A9.d.wat 1 (by omega))
      have m2 := fun u : Ext a9 => u.cell (A9.d.wat 2 (by omega))
      have m3 := fun u : Ext a9 => u.cell (A9.d.wat 3 (by omega))
      refine wp_region_typed a9 5 (by kernel_rfl) (by kernel_rfl) (Below.refl _ _) ?_; simp only [List.take_succ_cons, List.take_zero, List.take_nil]
      iterate 1 (refine wpX_step (by rfl) (fun K hK => ?_); go_simp; first | (refine hK _ ?_; clear hK K) | (apply Exists.intro; refine ⟨fun _ => ?_, hK _ ?_⟩; fail; clear hK K))
      (refine wpX_step (by rfl) (fun K hK => ?_); go_simp; first | (refine hK _ ?_; clear hK K) | (apply Exists.intro; refine ⟨fun _ => ?_, hK _ ?_⟩; exact HmN.out _; clear hK K))
      iterate 1 (refine wpX_step (by rfl) (fun K hK => ?_); go_simp; first | (refine hK _ ?_; clear hK K) | (apply Exists.intro; refine ⟨fun _ => ?_, hK _ ?_⟩; fail; clear hK K))
      (refine wpX_step (by rfl) (fun K hK => ?_); go_simp; first | (refine hK _ ?_; clear hK K) | (apply Exists.intro; refine ⟨fun _ => ?_, hK _ ?_⟩; exact HmM.out _; clear hK K))
      iterate 1 (refine wpX_step (by rfl) (fun K hK => ?_); go_simp; first | (refine hK _ ?_; clear hK K) | (apply Exists.intro; refine ⟨fun _ => ?_, hK _ ?_⟩; fail; clear hK K))
      refine wpX_end rfl ?_
      rintro u6 hu6
      simp only [List.reverse_nil, forallRel]
      have hU6 := A9.kept hu6
      clear k0 k1 k2 k3 m0 m1 m2 m3
      go_wp2_with (first
        | (refine wpList_loadA (o := ⟨some 29, _, _, _, _, _⟩) (by rfl) 24 (.tmp 4) (by rfl) (w.heap.size + 2) (by rfl) aggWord hU6.f.q (wcs_len _) ?_)
        | (go_at_call 39; (with_reducible refine (tneg_l Q hQ _).mono ?_); rintro e v1 ⟨rfl, c1⟩; have G1 := hU6.kept c1)
        | (refine wpList_storeA (by rfl) 24 (.tmp 4) (.tmp 30) (by rfl) (w.heap.size + 2) (wcs (negN Q)) (by rfl) (by rfl) aggWord G1.f.q (wcs_len _) (by first | exact wcs_len _ | rfl) (wcs_one _) (Below.refl _ _) (Nat.le_refl _) ?_; intro v2 o2 c2 g2; have G2 := G1.st4 o2 c2 g2)
        | (refine wpList_loadA (o := ⟨some 31, _, _, _, _, _⟩) (by rfl) 24 (.tmp 2) (by rfl) (w.heap.size) (by rfl) aggWord G2.b (wcs_len _) ?_)
        | (go_at_call 67; (with_reducible refine (tbelow_l N false HN.out _).mono ?_); rintro e v3 ⟨rfl, c3⟩; have G3 := G2.kept c3))
      (refine wp_region_h (Fr2 (w) (w.heap.size + 2) (w.heap.size + 3) (negN Q) (R)) (by kernel_rfl) ?_; intro u0 hu0; simp only [List.length_cons, List.length_nil, Nat.reduceAdd, List.replicate_succ, List.replicate_zero]; have hR0 : Fr2 (w) (w.heap.size + 2) (w.heap.size + 3) (negN Q) (R) u0 := (by rw [hu0]; exact Fr2.drew G3.f); clear hu0; (refine wpH_take 0 (by rfl) (by kernel_rfl) (by intro _ _ _ h; first | exact h | (cases h.1)) (by intro _ _ _ _ h; first | exact h | (cases h.1)) (by assumption) (fun K hK => ?_); simp only [List.setIfInBounds_toArray, List.set_cons_zero, List.set_cons_succ] at hK; refine take_loadA (by rfl) 24 (.tmp 4) (by rfl) (w.heap.size + 2) (by rfl) aggWord (fun u hu => Fr2.q hu) (wcs_len _) (hK _ ?_); clear hK K; simp only [Act.put, List.getElem_toArray, List.getElem_cons_zero, List.getElem_cons_succ, List.setIfInBounds_toArray, List.set_cons_zero, List.set_cons_succ]); (refine wpH_take 1 (by rfl) (by kernel_rfl) (by intro _ _ _ h; first | exact h | (cases h.1)) (by intro _ _ _ _ h; first | exact h | (cases h.1)) (by assumption) (fun K hK => ?_); simp only [List.setIfInBounds_toArray, List.set_cons_zero, List.set_cons_succ] at hK; refine take_loadA (by rfl) 24 (.tmp 5) (by rfl) (w.heap.size + 3) (by rfl) aggWord (fun u hu => Fr2.r hu) (wcs_len _) (hK _ ?_); clear hK K; simp only [Act.put, List.getElem_toArray, List.getElem_cons_zero, List.getElem_cons_succ, List.setIfInBounds_toArray, List.set_cons_zero, List.set_cons_succ]); (refine wpH_only 2 (by rfl) (by kernel_rfl) (fun K hK => ?_); simp only [List.setIfInBounds_toArray, List.set_cons_zero, List.set_cons_succ] at hK; refine step_storeA (by rfl) 24 (.tmp 4) (.tmp 35) (by rfl) (w.heap.size + 2) (wcs (negN Q)) (by rfl) (by rfl) aggWord hR0.q (wcs_len _) (by first | exact wcs_len _ | rfl) (wcs_one _) ?_; intro u1 o1 b1 g1; simp only [Act.put, List.getElem_toArray, List.getElem_cons_zero, List.getElem_cons_succ, List.setIfInBounds_toArray, List.set_cons_zero, List.set_cons_succ]); have hR1 := Fr2.st4 hR0 o1 b1 g1; refine hK _ _ hR1 ?_; clear hK K; (refine wpH_only 3 (by rfl) (by kernel_rfl) (fun K hK => ?_); simp only [List.setIfInBounds_toArray, List.set_cons_zero, List.set_cons_succ] at hK; refine step_storeA (by rfl) 24 (.tmp 5) (.tmp 36) (by rfl) (w.heap.size + 3) (wcs (R)) (by rfl) (by rfl) aggWord hR1.r (wcs_len _) (by first | exact wcs_len _ | rfl) (wcs_one _) ?_; intro u2 o2 b2 g2; simp only [Act.put, List.getElem_toArray, List.getElem_cons_zero, List.getElem_cons_succ, List.setIfInBounds_toArray, List.set_cons_zero, List.set_cons_succ]); have hR := Fr2.st5 hR1 o2 b2 g2; refine hK _ _ hR ?_; clear hK K; refine wpH_done (by kernel_rfl) ?_)
      go_wp2
      exact bodyPost_ret (results_blk2 rfl _ _ aggWord aggWord hR.q hR.r (wcs_len _) (wcs_len _) (by rfl) (by rfl)) rfl ⟨by rw [HQ.out, HR.out]; rfl, hR.bel⟩
    | false =>
      have cD' := cD
      have hq' := hq
      have hr' := hr
      rw [hbN, hbM] at hq'
      rw [hbN] at hr'
      rw [if_neg (by decide)] at hq'
      rw [if_neg (by decide)] at hr'
      rw [show sizeN N = N from by unfold sizeN; rw [hbN]; rfl, show sizeN M = M from by unfold sizeN; rw [hbM]; rfl] at cD'
      have HD := Lib.hid cD'
      have HQ := Lib.hid hq'
      have HR := Lib.hid hr'
      have HmN := Lib.hid (fun w => tbelow_any N w)
      have HmM := Lib.hid (fun w => tbelow_any M w)
      rw [hbN] at HmN
      rw [hbM] at HmM
      have HN := Lib.hid hbN
      have HM := Lib.hid hbM
      clear cD cD' hq hq' hr hr' hbN hbM
      go_enter Try.func16, Try.ntmps16
      go_wp2
      (rw [show (((w.alloc (.cells (wcs N).toArray 24)).alloc (.cells (wcs M).toArray 24)).alloc (.cells #[.int .u64 0, .int .u64 0, .int .u64 0, .int .u64 0] 24)).alloc (.cells #[.int .u64 0, .int .u64 0, .int .u64 0, .int .u64 0] 24) = w1 from by rw [Hw1.out]; rfl])
      clear Hw1
      refine wp_region_via (fun a b w' => ∃ g6 g7, b = (((a.put (some 8) (.agg (wcs (N)).toArray)).put (some 9) (.agg (wcs (M)).toArray)).put (some 6) (.pointer (some ⟨g6, 0, none⟩))).put (some 7) (.pointer (some ⟨g7, 0, none⟩)) ∧ g6 ≠ g7 ∧ w1.heap.size ≤ g6 ∧ w1.heap.size ≤ g7 ∧ Blk 24 w' g6 (wcs (N)) ∧ Blk 24 w' g7 (wcs (M)) ∧ Below w1.heap.size w1 w') ?_ ?_
      · refine wp_region_h ((fun u => Below w1.heap.size w1 u)) (by kernel_rfl) ?_; intro u0 hu0; simp only [List.length_cons, List.length_nil, Nat.reduceAdd, List.replicate_succ, List.replicate_zero]
        have hS0 : Below w1.heap.size w1 u0 := (by rw [hu0]; exact (Below.refl _ _).drew)
        clear hu0
        (refine wpH_take 0 (by rfl) (by kernel_rfl) (by intro _ _ _ h; first | exact h | (cases h.1)) (by intro _ _ _ _ h; first | exact h | (cases h.1)) (by assumption) (fun K hK => ?_); simp only [List.setIfInBounds_toArray, List.set_cons_zero, List.set_cons_succ] at hK; refine take_loadA (by rfl) 24 (.tmp 2) (by rfl) (w.heap.size) (by rfl) aggWord (fun u hu => Blk.below hF.b hu (Blk.lt hF.b)) (wcs_len _) (hK _ ?_); clear hK K; simp only [Act.put, List.getElem_toArray, List.getElem_cons_zero, List.getElem_cons_succ, List.setIfInBounds_toArray, List.set_cons_zero, List.set_cons_succ])
        (refine wpH_take 1 (by rfl) (by kernel_rfl) (by intro _ _ _ h; first | exact h | (cases h.1)) (by intro _ _ _ _ h; first | exact h | (cases h.1)) (by assumption) (fun K hK => ?_); simp only [List.setIfInBounds_toArray, List.set_cons_zero, List.set_cons_succ] at hK; refine take_loadA (by rfl) 24 (.tmp 3) (by rfl) (w.heap.size + 1) (by rfl) aggWord (fun u hu => Blk.below hF.d hu (Blk.lt hF.d)) (wcs_len _) (hK _ ?_); clear hK K; simp only [Act.put, List.getElem_toArray, List.getElem_cons_zero, List.getElem_cons_succ, List.setIfInBounds_toArray, List.set_cons_zero, List.set_cons_succ])
        refine wpH_all [2, 3] (by kernel_rfl) (by simp) ?_
        intro i hi
        simp only [List.mem_cons, List.not_mem_nil, or_false] at hi
        rcases hi with rfl | rfl
        · (refine brH_of (i := 2) (by rfl) (fun K hK => ?_); simp only [List.setIfInBounds_toArray, List.set_cons_zero, List.set_cons_succ] at hK; go_simp)
          have h6 := Blk.new u0 24 z4
          have q6 : w1.heap.size ≤ u0.heap.size := Below.size hS0
          have hS1 : Below w1.heap.size w1 (u0.alloc (.cells z4.toArray 24)) := Below.alloc hS0 (Below.size hS0) _
          refine hK _ _ hS1 ?_; clear hK K
          obtain ⟨u1, hu1⟩ : ∃ x, x = u0.alloc (.cells z4.toArray 24) := ⟨_, rfl⟩
          try rw [← hu1] at h6
          try rw [← hu1] at h7
          rw [← hu1] at hS1
          rw [show u0.alloc (.cells #[.int .u64 0, .int .u64 0, .int .u64 0, .int .u64 0] 24) = u1 from hu1.symm]
          clear hu1
          (refine wpH_only 3 (by rfl) (by kernel_rfl) (fun K hK => ?_); simp only [List.setIfInBounds_toArray, List.set_cons_zero, List.set_cons_succ] at hK; go_simp)
          have h7 := Blk.new u1 24 z4
          have q7 : w1.heap.size ≤ u1.heap.size := Below.size hS1
          have hS2 : Below w1.heap.size w1 (u1.alloc (.cells z4.toArray 24)) := Below.alloc hS1 (Below.size hS1) _
          have hne : u0.heap.size ≠ u1.heap.size := by have := h6.lt; omega
          replace h6 := h6.alloc (.cells z4.toArray 24)
          refine hK _ _ hS2 ?_; clear hK K
          obtain ⟨u2, hu2⟩ : ∃ x, x = u1.alloc (.cells z4.toArray 24) := ⟨_, rfl⟩
          try rw [← hu2] at h6
          try rw [← hu2] at h7
          rw [← hu2] at hS2
          rw [show u1.alloc (.cells #[.int .u64 0, .int .u64 0, .int .u64 0, .int .u64 0] 24) = u2 from hu2.symm]
          clear hu2
          refine wpH_only 4 (by rfl) (by kernel_rfl) (fun K hK => ?_)
          refine step_storeA (by rfl) 24 (.tmp 6) (.tmp 8) (by rfl) u0.heap.size (wcs (N)) (by rfl) (by rfl) aggWord h6 (wcs_len _) (by rfl) (wcs_one _) (fun v1 o6 c6 r6 => ?_)
          have T1 : Below w1.heap.size w1 v1 := Below.trans hS2 (c6.mono q6)
          refine hK _ _ T1 ?_; clear hK K
          refine wpH_only 5 (by rfl) (by kernel_rfl) (fun K hK => ?_)
          refine step_storeA (by rfl) 24 (.tmp 7) (.tmp 9) (by rfl) u1.heap.size (wcs (M)) (by rfl) (by rfl) aggWord (h7.grown r6 (by simpa using hne)) (wcs_len _) (by rfl) (wcs_one _) (fun v2 o7 c7 r7 => ?_)
          have T2 : Below w1.heap.size w1 v2 := Below.trans T1 (c7.mono q7)
          refine hK _ _ T2 ?_; clear hK K
          exact wpH_done (by kernel_rfl) ⟨rfl, u0.heap.size, u1.heap.size, rfl, hne, q6, q7, o6.grown r7 (by simpa using Ne.symm hne), o7, T2⟩
        · (refine brH_of (i := 3) (by rfl) (fun K hK => ?_); simp only [List.setIfInBounds_toArray, List.set_cons_zero, List.set_cons_succ] at hK; go_simp)
          have h7 := Blk.new u0 24 z4
          have q7 : w1.heap.size ≤ u0.heap.size := Below.size hS0
          have hS1 : Below w1.heap.size w1 (u0.alloc (.cells z4.toArray 24)) := Below.alloc hS0 (Below.size hS0) _
          refine hK _ _ hS1 ?_; clear hK K
          obtain ⟨u1, hu1⟩ : ∃ x, x = u0.alloc (.cells z4.toArray 24) := ⟨_, rfl⟩
          try rw [← hu1] at h6
          try rw [← hu1] at h7
          rw [← hu1] at hS1
          rw [show u0.alloc (.cells #[.int .u64 0, .int .u64 0, .int .u64 0, .int .u64 0] 24) = u1 from hu1.symm]
          clear hu1
          (refine wpH_only 2 (by rfl) (by kernel_rfl) (fun K hK => ?_); simp only [List.setIfInBounds_toArray, List.set_cons_zero, List.set_cons_succ] at hK; go_simp)
          have h6 := Blk.new u1 24 z4
          have q6 : w1.heap.size ≤ u1.heap.size := Below.size hS1
          have hS2 : Below w1.heap.size w1 (u1.alloc (.cells z4.toArray 24)) := Below.alloc hS1 (Below.size hS1) _
          have hne : u1.heap.size ≠ u0.heap.size := by have := h7.lt; omega
          replace h7 := h7.alloc (.cells z4.toArray 24)
          refine hK _ _ hS2 ?_; clear hK K
          obtain ⟨u2, hu2⟩ : ∃ x, x = u1.alloc (.cells z4.toArray 24) := ⟨_, rfl⟩
          try rw [← hu2] at h6
          try rw [← hu2] at h7
          rw [← hu2] at hS2
          rw [show u1.alloc (.cells #[.int .u64 0, .int .u64 0, .int .u64 0, .int .u64 0] 24) = u2 from hu2.symm]
          clear hu2
          refine wpH_only 4 (by rfl) (by kernel_rfl) (fun K hK => ?_)
          refine step_storeA (by rfl) 24 (.tmp 6) (.tmp 8) (by rfl) u1.heap.size (wcs (N)) (by rfl) (by rfl) aggWord h6 (wcs_len _) (by rfl) (wcs_one _) (fun v1 o6 c6 r6 => ?_)
          have T1 : Below w1.heap.size w1 v1 := Below.trans hS2 (c6.mono q6)
          refine hK _ _ T1 ?_; clear hK K
          refine wpH_only 5 (by rfl) (by kernel_rfl) (fun K hK => ?_)
          refine step_storeA (by rfl) 24 (.tmp 7) (.tmp 9) (by rfl) u0.heap.size (wcs (M)) (by rfl) (by rfl) aggWord (h7.grown r6 (by simpa using hne)) (wcs_len _) (by rfl) (wcs_one _) (fun v2 o7 c7 r7 => ?_)
          have T2 : Below w1.heap.size w1 v2 := Below.trans T1 (c7.mono q7)
          refine hK _ _ T2 ?_; clear hK K
          exact wpH_done (by kernel_rfl) ⟨rfl, u1.heap.size, u0.heap.size, rfl, hne, q6, q7, o6.grown r7 (by simpa using Ne.symm hne), o7, T2⟩
      rintro b w' ⟨g6, g7, rfl, hne, q6, q7, h6, h7, hb6⟩
      simp only [Act.put, List.setIfInBounds_toArray, List.set_cons_zero, List.set_cons_succ]
      have hG0 := hF.below' hb6
      have q6' : w.heap.size + 4 ≤ g6 := by have := Hs1.out; omega
      have q7' : w.heap.size + 4 ≤ g7 := by have := Hs1.out; omega
      clear q6 q7 hb6
      go_wp2_with (first
        | (refine wpList_loadA (o := ⟨some 10, _, _, _, _, _⟩) (by rfl) 24 (.tmp 2) (by rfl) (w.heap.size) (by rfl) aggWord hG0.b (wcs_len _) ?_)
        | (go_at_call 67; (with_reducible refine (tbelow_l N false HN.out _).mono ?_); rintro e a1 ⟨rfl, e1⟩; have A1 := hG0.kept e1; have x1 := h6.kept e1; have y1 := h7.kept e1)
        | (refine wpList_loadA (o := ⟨some 14, _, _, _, _, _⟩) (by rfl) 24 (.tmp 3) (by rfl) (w.heap.size + 1) (by rfl) aggWord A1.d (wcs_len _) ?_)
        | (go_at_call 67; (with_reducible refine (tbelow_l M false HM.out _).mono ?_); rintro e a4 ⟨rfl, e4⟩; have A4 := A1.kept e4; have x4 := x1.kept e4; have y4 := y1.kept e4)
        | (refine wpList_loadA (o := ⟨some 19, _, _, _, _, _⟩) (by rfl) 24 (.tmp 6) (by rfl) (g6) (by rfl) aggWord x4 (wcs_len _) ?_)
        | (refine wpList_loadA (o := ⟨some 20, _, _, _, _, _⟩) (by rfl) 24 (.tmp 7) (by rfl) (g7) (by rfl) aggWord y4 (wcs_len _) ?_)
        | (go_at_call 68; refine (HD.out _).mono ?_; rintro e a7 ⟨rfl, e7⟩; have A7 := A4.kept e7)
        | (refine wpList_storeA (by rfl) 24 (.tmp 4) (.tmp 22) (by rfl) (w.heap.size + 2) (wcs (Q)) (by rfl) (by rfl) aggWord A7.f.q (wcs_len _) (by first | exact wcs_len _ | rfl) (wcs_one _) (Below.refl _ _) (Nat.le_refl _) ?_; intro a8 o8 e8 f8; have A8 := A7.st4 o8 e8 f8)
        | (refine wpList_storeA (by rfl) 24 (.tmp 5) (.tmp 23) (by rfl) (w.heap.size + 3) (wcs (R)) (by rfl) (by rfl) aggWord A8.f.r (wcs_len _) (by first | exact wcs_len _ | rfl) (wcs_one _) (Below.refl _ _) (Nat.le_refl _) ?_; intro a9 o9 e9 f9; have A9 := A8.st5 o9 e9 f9))
      have k0 := fun u : Ext a9 => u.cell (A9.b.wat 0 (by omega))
      have k1 := fun u : Ext a9 => u.cell (A9.b.wat 1 (by omega))
      have k2 := fun u : Ext a9 => u.cell (A9.b.wat 2 (by omega))
      have k3 := fun u : Ext a9 => u.cell (A9.b.wat 3 (by omega))
      have m0 := fun u : Ext a9 => u.cell (A9.d.wat 0 (by omega))
      have m1 := fun u : Ext a9 => u.cell (A9.d.wat 1 (by omega))
      have m2 := fun u : Ext a9 => u.cell (A9.d.wat 2 (by omega))
      have m3 := fun u : Ext a9 => u.cell (A9.d.wat 3 (by omega))
      refine wp_region_typed a9 5 (by kernel_rfl) (by kernel_rfl) (Below.refl _ _) ?_; simp only [List.take_succ_cons, List.take_zero, List.take_nil]
      iterate 1 (refine wpX_step (by rfl) (fun K hK => ?_); go_simp; first | (refine hK _ ?_; clear hK K) | (apply Exists.intro; refine ⟨fun _ => ?_, hK _ ?_⟩; fail; clear hK K))
      (refine wpX_step (by rfl) (fun K hK => ?_); go_simp; first | (refine hK _ ?_; clear hK K) | (apply Exists.intro; refine ⟨fun _ => ?_, hK _ ?_⟩; exact HmN.out _; clear hK K))
      iterate 1 (refine wpX_step (by rfl) (fun K hK => ?_); go_simp; first | (refine hK _ ?_; clear hK K) | (apply Exists.intro; refine ⟨fun _ => ?_, hK _ ?_⟩; fail; clear hK K))
      (refine wpX_step (by rfl) (fun K hK => ?_); go_simp; first | (refine hK _ ?_; clear hK K) | (apply Exists.intro; refine ⟨fun _ => ?_, hK _ ?_⟩; exact HmM.out _; clear hK K))
      iterate 1 (refine wpX_step (by rfl) (fun K hK => ?_); go_simp; first | (refine hK _ ?_; clear hK K) | (apply Exists.intro; refine ⟨fun _ => ?_, hK _ ?_⟩; fail; clear hK K))
      refine wpX_end rfl ?_
      rintro u6 hu6
      simp only [List.reverse_nil, forallRel]
      have hU6 := A9.kept hu6
      clear k0 k1 k2 k3 m0 m1 m2 m3
      go_wp2_with (first
        | (refine wpList_loadA (o := ⟨some 31, _, _, _, _, _⟩) (by rfl) 24 (.tmp 2) (by rfl) (w.heap.size) (by rfl) aggWord hU6.b (wcs_len _) ?_)
        | (go_at_call 67; (with_reducible refine (tbelow_l N false HN.out _).mono ?_); rintro e v3 ⟨rfl, c3⟩; have G3 := hU6.kept c3))
      (refine wp_region_h (Fr2 (w) (w.heap.size + 2) (w.heap.size + 3) (Q) (R)) (by kernel_rfl) ?_; intro u0 hu0; simp only [List.length_cons, List.length_nil, Nat.reduceAdd, List.replicate_succ, List.replicate_zero]; have hR0 : Fr2 (w) (w.heap.size + 2) (w.heap.size + 3) (Q) (R) u0 := (by rw [hu0]; exact Fr2.drew G3.f); clear hu0; (refine wpH_take 0 (by rfl) (by kernel_rfl) (by intro _ _ _ h; first | exact h | (cases h.1)) (by intro _ _ _ _ h; first | exact h | (cases h.1)) (by assumption) (fun K hK => ?_); simp only [List.setIfInBounds_toArray, List.set_cons_zero, List.set_cons_succ] at hK; refine take_loadA (by rfl) 24 (.tmp 4) (by rfl) (w.heap.size + 2) (by rfl) aggWord (fun u hu => Fr2.q hu) (wcs_len _) (hK _ ?_); clear hK K; simp only [Act.put, List.getElem_toArray, List.getElem_cons_zero, List.getElem_cons_succ, List.setIfInBounds_toArray, List.set_cons_zero, List.set_cons_succ]); (refine wpH_take 1 (by rfl) (by kernel_rfl) (by intro _ _ _ h; first | exact h | (cases h.1)) (by intro _ _ _ _ h; first | exact h | (cases h.1)) (by assumption) (fun K hK => ?_); simp only [List.setIfInBounds_toArray, List.set_cons_zero, List.set_cons_succ] at hK; refine take_loadA (by rfl) 24 (.tmp 5) (by rfl) (w.heap.size + 3) (by rfl) aggWord (fun u hu => Fr2.r hu) (wcs_len _) (hK _ ?_); clear hK K; simp only [Act.put, List.getElem_toArray, List.getElem_cons_zero, List.getElem_cons_succ, List.setIfInBounds_toArray, List.set_cons_zero, List.set_cons_succ]); (refine wpH_only 2 (by rfl) (by kernel_rfl) (fun K hK => ?_); simp only [List.setIfInBounds_toArray, List.set_cons_zero, List.set_cons_succ] at hK; refine step_storeA (by rfl) 24 (.tmp 4) (.tmp 35) (by rfl) (w.heap.size + 2) (wcs (Q)) (by rfl) (by rfl) aggWord hR0.q (wcs_len _) (by first | exact wcs_len _ | rfl) (wcs_one _) ?_; intro u1 o1 b1 g1; simp only [Act.put, List.getElem_toArray, List.getElem_cons_zero, List.getElem_cons_succ, List.setIfInBounds_toArray, List.set_cons_zero, List.set_cons_succ]); have hR1 := Fr2.st4 hR0 o1 b1 g1; refine hK _ _ hR1 ?_; clear hK K; (refine wpH_only 3 (by rfl) (by kernel_rfl) (fun K hK => ?_); simp only [List.setIfInBounds_toArray, List.set_cons_zero, List.set_cons_succ] at hK; refine step_storeA (by rfl) 24 (.tmp 5) (.tmp 36) (by rfl) (w.heap.size + 3) (wcs (R)) (by rfl) (by rfl) aggWord hR1.r (wcs_len _) (by first | exact wcs_len _ | rfl) (wcs_one _) ?_; intro u2 o2 b2 g2; simp only [Act.put, List.getElem_toArray, List.getElem_cons_zero, List.getElem_cons_succ, List.setIfInBounds_toArray, List.set_cons_zero, List.set_cons_succ]); have hR := Fr2.st5 hR1 o2 b2 g2; refine hK _ _ hR ?_; clear hK K; refine wpH_done (by kernel_rfl) ?_)
      go_wp2
      exact bodyPost_ret (results_blk2 rfl _ _ aggWord aggWord hR.q hR.r (wcs_len _) (wcs_len _) (by rfl) (by rfl)) rfl ⟨by rw [HQ.out, HR.out]; rfl, hR.bel⟩
end Go.Proofs.Ytgmdbleeagfhpaa
