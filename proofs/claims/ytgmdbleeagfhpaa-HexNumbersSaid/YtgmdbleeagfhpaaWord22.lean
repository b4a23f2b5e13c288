/- The reference's WDivMod. -/
import Derived.Test.YtgmdbleeagfhpaaWord21
set_option linter.unusedSimpArgs false
set_option linter.unusedVariables false
namespace Go.Proofs.Ytgmdbleeagfhpaa
open Go.RowKit
structure FrX (w : World) (N M Q R : Nat) (u : World) : Prop where
  b : Blk 24 u w.heap.size (wcs N)
  d : Blk 24 u (w.heap.size + 1) (wcs M)
  f : Fr2 w (w.heap.size + 2) (w.heap.size + 3) Q R u
theorem FrX.drew {w u : World} {N M Q R : Nat} (h : FrX w N M Q R u) : FrX w N M Q R u.drew := ⟨h.b.drew, h.d.drew, h.f.drew⟩
theorem FrX.kept {w u u' : World} {N M Q R : Nat} (h : FrX w N M Q R u) (hb : Below u.heap.size u u') : FrX w N M Q R u' := ⟨h.b.kept hb, h.d.kept hb, h.f.kept hb⟩
theorem FrX.st4 {w u u' : World} {N M Q R Q' : Nat} (h : FrX w N M Q R u) (ho : Blk 24 u' (w.heap.size + 2) (wcs Q')) (hb : Below (w.heap.size + 2) u u') (hr : u.grownBy u' (some (w.heap.size + 2))) : FrX w N M Q' R u' :=
  ⟨h.b.grown hr (by simp), h.d.grown hr (by simp), h.f.st4 ho hb hr⟩
theorem FrX.st5 {w u u' : World} {N M Q R R' : Nat} (h : FrX w N M Q R u) (ho : Blk 24 u' (w.heap.size + 3) (wcs R')) (hb : Below (w.heap.size + 3) u u') (hr : u.grownBy u' (some (w.heap.size + 3))) : FrX w N M Q R' u' :=
  ⟨h.b.grown hr (by simp), h.d.grown hr (by simp), h.f.st5 ho hb hr⟩
theorem wless_l (N M : Nat) (hN : N < W256) (hM : M < W256) (b : Bool) (hb : decide (N < M) = b) (w : World) : Calls Try.prog 83 #[.agg (wcs N).toArray, .agg (wcs M).toArray] w fun e w' => e = .returned (.bool b) ∧ Below w.heap.size w w' := by subst hb; exact less_any N M hN hM w
theorem wbit255_l (N : Nat) (b : Bool) (hb : N.testBit 255 = b) (w : World) : Calls Try.prog 75 #[.agg (wcs N).toArray, .int .i64 255] w fun e w' => e = .returned (.bool b) ∧ Below w.heap.size w w' := by subst hb; exact wbit_any N 255 (by omega) w
theorem bit255 (M : Nat) (hM : M < W256) : M.testBit 255 = decide (W256 ≤ 2 * M) := by
  rw [Nat.testBit_eq_decide_div_mod_eq]
  have h : M / 2 ^ 255 < 2 := by rw [Nat.div_lt_iff_lt_mul (Nat.two_pow_pos _)]; exact hM
  have hW : W256 = 2 * 2 ^ 255 := rfl
  rw [decide_eq_decide]
  constructor
  · intro h2
    have : 1 ≤ M / 2 ^ 255 := by omega
    rw [Nat.le_div_iff_mul_le (Nat.two_pow_pos _)] at this
    omega
  · intro h2
    have : 1 ≤ M / 2 ^ 255 := by rw [Nat.le_div_iff_mul_le (Nat.two_pow_pos _)]; omega
    omega
theorem two_step (N M : Nat) (hM : 0 < M) : N / M = 2 * (N / (2 * M)) + (if N % (2 * M) < M then 0 else 1) ∧ N % M = if N % (2 * M) < M then N % (2 * M) else N % (2 * M) - M := by
  have h1 := Nat.div_add_mod N (2 * M)
  have h2 := Nat.mod_lt N (show 0 < 2 * M by omega)
  generalize N / (2 * M) = A at *
  generalize N % (2 * M) = R at *
  have h3 : N = M * (2 * A) + R := by rw [← h1, Nat.mul_comm 2 M, Nat.mul_assoc]
  rw [h3, Nat.mul_add_div hM, Nat.mul_add_mod]
  split
  · rename_i h; rw [Nat.div_eq_of_lt h, Nat.mod_eq_of_lt h]; exact ⟨rfl, rfl⟩
  · rename_i h
    have : R / M < 2 := by rw [Nat.div_lt_iff_lt_mul hM]; omega
    have h4 : 1 ≤ R / M := by rw [Nat.le_div_iff_mul_le hM]; omega
    refine ⟨by omega, ?_⟩
    rw [Nat.mod_eq_sub_mod (by omega), Nat.mod_eq_of_lt (by omega)]
/-- The half behind the call or the copy: by what stands in the results' blocks. -/
def WDM (k N : Nat) : Prop := ∀ M, M < W256 → 0 < M → W256 ≤ M * 2 ^ k → ∀ w : World, Calls Try.prog 68 #[wv N, wv M] w fun e w' => e = .returned (.tuple #[wv (N / M), wv (N % M)]) ∧ Below w.heap.size w w'
set_option maxHeartbeats 1000000 in
set_option maxRecDepth 100000 in
theorem wdm_step (k N : Nat) (hN : N < W256) (ih : WDM k N) : WDM (k + 1) N := by
  intro M hM hM0 hk w
  obtain ⟨hb0, hd0, hr0⟩ := box4 w N M
  obtain ⟨w1, hw1⟩ : ∃ w1, w1 = (((w.alloc (.cells (wcs N).toArray 24)).alloc (.cells (wcs M).toArray 24)).alloc (.cells z4.toArray 24)).alloc (.cells z4.toArray 24) := ⟨_, rfl⟩
  rw [← hw1] at hb0 hd0 hr0
  have hF : FrX w N M 0 0 w1 := ⟨hb0, hd0, hr0⟩
  show Calls Try.prog 68 #[.agg (wcs N).toArray, .agg (wcs M).toArray] w _
  have Hw1 := Lib.hid hw1
  have hq := eq_zero M hM
  rw [decide_eq_false (by omega)] at hq
  have H := Lib.hid ih
  clear ih hw1 hb0 hd0 hr0
  by_cases hlt : N < M
  · have hd := decide_eq_true hlt
    have hQ : N / M = 0 := Nat.div_eq_of_lt hlt
    have hR : N % M = N := Nat.mod_eq_of_lt hlt
    have HQ := Lib.hid hQ
    have HR := Lib.hid hR
    have HD := Lib.hid hd
    clear hlt hQ hR hd
    go_enter Try.func68, Try.ntmps68
    go_wp2_with (first
      | (rw [show (((w.alloc (.cells (wcs N).toArray 24)).alloc (.cells (wcs M).toArray 24)).alloc (.cells #[.int .u64 0, .int .u64 0, .int .u64 0, .int .u64 0] 24)).alloc (.cells #[.int .u64 0, .int .u64 0, .int .u64 0, .int .u64 0] 24) = w1 from by rw [Hw1.out]; rfl])
      | (refine wpList_loadA (o := ⟨some 6, _, _, _, _, _⟩) (by rfl) 24 (.tmp 3) (by rfl) (w.heap.size + 1) (by rfl) aggWord hF.d (wcs_len _) ?_)
      | (refine wpList_loadA (o := ⟨some 11, _, _, _, _, _⟩) (by rfl) 24 (.tmp 2) (by rfl) (w.heap.size) (by rfl) aggWord hF.b (wcs_len _) ?_)
      | (refine wpList_loadA (o := ⟨some 12, _, _, _, _, _⟩) (by rfl) 24 (.tmp 3) (by rfl) (w.heap.size + 1) (by rfl) aggWord hF.d (wcs_len _) ?_)
      | (go_at_call 83; (with_reducible refine (wless_l N M hN hM true HD.out _).mono ?_); rintro e w2 ⟨rfl, b2⟩; have hF2 := hF.kept b2))
    refine wp_region_h (fun u => Blk 24 u w.heap.size (wcs N)) (by kernel_rfl) ?_; intro u0 hu0; simp only [List.length_cons, List.length_nil, Nat.reduceAdd, List.replicate_succ, List.replicate_zero]
    have hR0 : FrX w N M 0 0 u0 := (by rw [hu0]; exact FrX.drew hF2)
    have hS : (fun u => Blk 24 u w.heap.size (wcs N)) u0 := hR0.b
    clear hu0
    (refine wpH_take 0 (by rfl) (by kernel_rfl) (by intro _ _ _ h; first | exact h | (cases h.1)) (by intro _ _ _ _ h; first | exact h | (cases h.1)) (by assumption) (fun K hK => ?_); simp only [List.setIfInBounds_toArray, List.set_cons_zero, List.set_cons_succ] at hK; go_simp; first | (refine hK _ ?_; clear hK K) | (apply Exists.intro; refine ⟨fun _ => rfl, hK _ ?_⟩; clear hK K))
    (refine wpH_take 1 (by rfl) (by kernel_rfl) (by intro _ _ _ h; first | exact h | (cases h.1)) (by intro _ _ _ _ h; first | exact h | (cases h.1)) (by assumption) (fun K hK => ?_); simp only [List.setIfInBounds_toArray, List.set_cons_zero, List.set_cons_succ] at hK; refine take_loadA (by rfl) 24 (.tmp 2) (by rfl) (w.heap.size) (by rfl) aggWord (fun u hu => hu) (wcs_len _) (hK _ ?_); clear hK K; simp only [Act.put, List.getElem_toArray, List.getElem_cons_zero, List.getElem_cons_succ, List.setIfInBounds_toArray, List.set_cons_zero, List.set_cons_succ])
    (refine wpH_only 2 (by rfl) (by kernel_rfl) (fun K hK => ?_); simp only [List.setIfInBounds_toArray, List.set_cons_zero, List.set_cons_succ] at hK; refine step_storeA (by rfl) 24 (.tmp 4) (.tmp 14) (by rfl) (w.heap.size + 2) (wcs (0)) (by rfl) (by rfl) aggWord hR0.f.q (wcs_len _) (by first | exact wcs_len _ | rfl) (wcs_one _) ?_; intro u1 o1 b1 g1; simp only [Act.put, List.getElem_toArray, List.getElem_cons_zero, List.getElem_cons_succ, List.setIfInBounds_toArray, List.set_cons_zero, List.set_cons_succ])
    have hR1 := hR0.st4 o1 b1 g1
    have hS1 : (fun u => Blk 24 u w.heap.size (wcs N)) u1 := hR1.b
    refine hK _ _ hS1 ?_; clear hK K
    (refine wpH_only 3 (by rfl) (by kernel_rfl) (fun K hK => ?_); simp only [List.setIfInBounds_toArray, List.set_cons_zero, List.set_cons_succ] at hK; refine step_storeA (by rfl) 24 (.tmp 5) (.tmp 15) (by rfl) (w.heap.size + 3) (wcs (N)) (by rfl) (by rfl) aggWord hR1.f.r (wcs_len _) (by first | exact wcs_len _ | rfl) (wcs_one _) ?_; intro u2 o2 b2' g2; simp only [Act.put, List.getElem_toArray, List.getElem_cons_zero, List.getElem_cons_succ, List.setIfInBounds_toArray, List.set_cons_zero, List.set_cons_succ])
    have hR2 := hR1.st5 o2 b2' g2
    have hS2 : (fun u => Blk 24 u w.heap.size (wcs N)) u2 := hR2.b
    refine hK _ _ hS2 ?_; clear hK K
    refine wpH_done (by kernel_rfl) ?_
    go_wp2
    exact bodyPost_ret (results_blk2 rfl _ _ aggWord aggWord hR2.f.q hR2.f.r (wcs_len _) (wcs_len _) (by rfl) (by rfl)) rfl ⟨by rw [HQ.out, HR.out]; rfl, hR2.f.bel⟩
  · have HD := Lib.hid (decide_eq_false hlt)
    obtain ⟨A, hA⟩ : ∃ A, A = N / (2 * M) := ⟨_, rfl⟩
    obtain ⟨B, hB0⟩ : ∃ B, B = N % (2 * M) := ⟨_, rfl⟩
    obtain ⟨s1, s2⟩ := two_step N M hM0
    rw [← hA, ← hB0] at s1
    rw [← hB0] at s2
    have hB : B < W256 := by rw [hB0]; exact Nat.lt_of_le_of_lt (Nat.mod_le _ _) hN
    have hAM : 2 * A + 1 < W256 := by
      have h1 := Nat.div_add_mod N (2 * M)
      rw [← hA, ← hB0] at h1
      have h2 : 2 * A ≤ 2 * M * A := by rw [Nat.mul_assoc]; exact Nat.mul_le_mul_left 2 (Nat.le_mul_of_pos_left A hM0)
      have h3 : (2 * A) % 2 = 0 := Nat.mul_mod_right 2 A
      have h4 : W256 % 2 = 0 := rfl
      omega
    have haa : addN A A = 2 * A := by unfold addN; rw [← Nat.two_mul]; exact Nat.mod_eq_of_lt (by omega)
    have ha1 : addN (2 * A) 1 = 2 * A + 1 := by unfold addN; exact Nat.mod_eq_of_lt hAM
    have HAA := Lib.hid haa
    have ca := fun w => wadd_any (2 * A) 1 w
    rw [ha1] at ca
    have HA1 := Lib.hid ca
    clear haa ha1 ca hlt hAM
    cases hbig : decide (B < M) with
    | true =>
      have hlt2 : B < M := by simpa using hbig
      rw [if_pos hlt2, Nat.add_zero] at s1
      rw [if_pos hlt2] at s2
      have HQ := Lib.hid s1
      have HR := Lib.hid s2
      have HBM := Lib.hid hbig
      clear s1 s2 hbig hlt2
      cases hb255 : M.testBit 255 with
      | true =>
        have h255 := bit255 M hM
        rw [hb255] at h255
        have hWM : W256 ≤ 2 * M := by simpa using h255.symm
        have hA0 : A = 0 := by rw [hA]; exact Nat.div_eq_of_lt (by omega)
        have hBN : N = B := by rw [hB0]; exact (Nat.mod_eq_of_lt (by omega)).symm
        subst hA0
        subst hBN
        have H255 := Lib.hid hb255
        clear h255 hWM hA hB0 hb255
        go_enter Try.func68, Try.ntmps68
        go_wp2_with (first
          | (rw [show (((w.alloc (.cells (wcs N).toArray 24)).alloc (.cells (wcs M).toArray 24)).alloc (.cells #[.int .u64 0, .int .u64 0, .int .u64 0, .int .u64 0] 24)).alloc (.cells #[.int .u64 0, .int .u64 0, .int .u64 0, .int .u64 0] 24) = w1 from by rw [Hw1.out]; rfl])
          | (refine wpList_loadA (o := ⟨some 6, _, _, _, _, _⟩) (by rfl) 24 (.tmp 3) (by rfl) (w.heap.size + 1) (by rfl) aggWord hF.d (wcs_len _) ?_)
          | (refine wpList_loadA (o := ⟨some 11, _, _, _, _, _⟩) (by rfl) 24 (.tmp 2) (by rfl) (w.heap.size) (by rfl) aggWord hF.b (wcs_len _) ?_)
          | (refine wpList_loadA (o := ⟨some 12, _, _, _, _, _⟩) (by rfl) 24 (.tmp 3) (by rfl) (w.heap.size + 1) (by rfl) aggWord hF.d (wcs_len _) ?_)
          | (go_at_call 83; (with_reducible refine (wless_l N M hN hM false HD.out _).mono ?_); rintro e w2 ⟨rfl, b2⟩; have hF2 := hF.kept b2)
          | (refine wpList_loadA (o := ⟨some 16, _, _, _, _, _⟩) (by rfl) 24 (.tmp 3) (by rfl) (w.heap.size + 1) (by rfl) aggWord hF2.d (wcs_len _) ?_)
          | (go_at_call 75; (with_reducible refine (wbit255_l M true H255.out _).mono ?_); rintro e w3 ⟨rfl, b3⟩; have hF3 := hF2.kept b3)
          | (refine wpList_loadA (o := ⟨some 27, _, _, _, _, _⟩) (by rfl) 24 (.tmp 2) (by rfl) (w.heap.size) (by rfl) aggWord hF3.b (wcs_len _) ?_)
          | (refine wpList_storeA (by rfl) 24 (.tmp 5) (.tmp 27) (by rfl) (w.heap.size + 3) (wcs (N)) (by rfl) (by rfl) aggWord hF3.f.r (wcs_len _) (by first | exact wcs_len _ | rfl) (wcs_one _) (Below.refl _ _) (Nat.le_refl _) ?_; intro w4 o4 b4 g4; have hF4 := hF3.st5 o4 b4 g4)
            | (refine wpList_loadA (o := ⟨some 28, _, _, _, _, _⟩) (by rfl) 24 (.tmp 4) (by rfl) (w.heap.size + 2) (by rfl) aggWord hF4.f.q (wcs_len _) ?_)
            | (refine wpList_loadA (o := ⟨some 29, _, _, _, _, _⟩) (by rfl) 24 (.tmp 4) (by rfl) (w.heap.size + 2) (by rfl) aggWord hF4.f.q (wcs_len _) ?_)
            | (go_at_call 115; (with_reducible refine (wadd_l 0 0 _).mono ?_); rintro e v3 ⟨rfl, c3⟩; rw [HAA.out]; have G3 := hF4.kept c3)
            | (refine wpList_storeA (by rfl) 24 (.tmp 4) (.tmp 30) (by rfl) (w.heap.size + 2) (wcs (2 * 0)) (by rfl) (by rfl) aggWord G3.f.q (wcs_len _) (by first | exact wcs_len _ | rfl) (wcs_one _) (Below.refl _ _) (Nat.le_refl _) ?_; intro v4 o4 c4 g4; have G4 := G3.st4 o4 c4 g4)
            | (refine wpList_loadA (o := ⟨some 31, _, _, _, _, _⟩) (by rfl) 24 (.tmp 5) (by rfl) (w.heap.size + 3) (by rfl) aggWord G4.f.r (wcs_len _) ?_)
            | (refine wpList_loadA (o := ⟨some 32, _, _, _, _, _⟩) (by rfl) 24 (.tmp 3) (by rfl) (w.heap.size + 1) (by rfl) aggWord G4.d (wcs_len _) ?_)
            | (go_at_call 83; (with_reducible refine (wless_l N M hN hM true HBM.out _).mono ?_); rintro e v5 ⟨rfl, c5⟩; have G5 := G4.kept c5))
        (refine wp_region_h (Fr2 (w) (w.heap.size + 2) (w.heap.size + 3) (2 * 0) (N)) (by kernel_rfl) ?_; intro u0 hu0; simp only [List.length_cons, List.length_nil, Nat.reduceAdd, List.replicate_succ, List.replicate_zero]; have hR0 : Fr2 (w) (w.heap.size + 2) (w.heap.size + 3) (2 * 0) (N) u0 := (by rw [hu0]; exact Fr2.drew G5.f); clear hu0; (refine wpH_take 0 (by rfl) (by kernel_rfl) (by intro _ _ _ h; first | exact h | (cases h.1)) (by intro _ _ _ _ h; first | exact h | (cases h.1)) (by assumption) (fun K hK => ?_); simp only [List.setIfInBounds_toArray, List.set_cons_zero, List.set_cons_succ] at hK; refine take_loadA (by rfl) 24 (.tmp 4) (by rfl) (w.heap.size + 2) (by rfl) aggWord (fun u hu => Fr2.q hu) (wcs_len _) (hK _ ?_); clear hK K; simp only [Act.put, List.getElem_toArray, List.getElem_cons_zero, List.getElem_cons_succ, List.setIfInBounds_toArray, List.set_cons_zero, List.set_cons_succ]); (refine wpH_take 1 (by rfl) (by kernel_rfl) (by intro _ _ _ h; first | exact h | (cases h.1)) (by intro _ _ _ _ h; first | exact h | (cases h.1)) (by assumption) (fun K hK => ?_); simp only [List.setIfInBounds_toArray, List.set_cons_zero, List.set_cons_succ] at hK; refine take_loadA (by rfl) 24 (.tmp 5) (by rfl) (w.heap.size + 3) (by rfl) aggWord (fun u hu => Fr2.r hu) (wcs_len _) (hK _ ?_); clear hK K; simp only [Act.put, List.getElem_toArray, List.getElem_cons_zero, List.getElem_cons_succ, List.setIfInBounds_toArray, List.set_cons_zero, List.set_cons_succ]); (refine wpH_only 2 (by rfl) (by kernel_rfl) (fun K hK => ?_); simp only [List.setIfInBounds_toArray, List.set_cons_zero, List.set_cons_succ] at hK; refine step_storeA (by rfl) 24 (.tmp 4) (.tmp 41) (by rfl) (w.heap.size + 2) (wcs (2 * 0)) (by rfl) (by rfl) aggWord hR0.q (wcs_len _) (by first | exact wcs_len _ | rfl) (wcs_one _) ?_; intro u1 o1 b1 g1; simp only [Act.put, List.getElem_toArray, List.getElem_cons_zero, List.getElem_cons_succ, List.setIfInBounds_toArray, List.set_cons_zero, List.set_cons_succ]); have hR1 := Fr2.st4 hR0 o1 b1 g1; refine hK _ _ hR1 ?_; clear hK K; (refine wpH_only 3 (by rfl) (by kernel_rfl) (fun K hK => ?_); simp only [List.setIfInBounds_toArray, List.set_cons_zero, List.set_cons_succ] at hK; refine step_storeA (by rfl) 24 (.tmp 5) (.tmp 42) (by rfl) (w.heap.size + 3) (wcs (N)) (by rfl) (by rfl) aggWord hR1.r (wcs_len _) (by first | exact wcs_len _ | rfl) (wcs_one _) ?_; intro u2 o2 b2 g2; simp only [Act.put, List.getElem_toArray, List.getElem_cons_zero, List.getElem_cons_succ, List.setIfInBounds_toArray, List.set_cons_zero, List.set_cons_succ]); have hR := Fr2.st5 hR1 o2 b2 g2; refine hK _ _ hR ?_; clear hK K; refine wpH_done (by kernel_rfl) ?_)
        go_wp2
        exact bodyPost_ret (results_blk2 rfl _ _ aggWord aggWord hR.q hR.r (wcs_len _) (wcs_len _) (by rfl) (by rfl)) rfl ⟨by rw [HQ.out, HR.out]; rfl, hR.bel⟩
      | false =>
        have h255 := bit255 M hM
        rw [hb255] at h255
        have hWM : ¬ W256 ≤ 2 * M := by simpa using h255.symm
        have hmm : addN M M = 2 * M := by unfold addN; rw [← Nat.two_mul]; exact Nat.mod_eq_of_lt (by omega)
        have cm := fun w => wadd_any M M w
        rw [hmm] at cm
        have cr := fun w => H.out (2 * M) (by omega) (by omega) (by rw [Nat.mul_comm 2 M, Nat.mul_assoc, ← Nat.pow_succ']; exact hk) w
        rw [← hA, ← hB0] at cr
        have HCM := Lib.hid cm
        have HCR := Lib.hid cr
        have H255 := Lib.hid hb255
        clear h255 hWM hA hB0 hb255 hmm cm cr hk
        go_enter Try.func68, Try.ntmps68
        go_wp2_with (first
          | (rw [show (((w.alloc (.cells (wcs N).toArray 24)).alloc (.cells (wcs M).toArray 24)).alloc (.cells #[.int .u64 0, .int .u64 0, .int .u64 0, .int .u64 0] 24)).alloc (.cells #[.int .u64 0, .int .u64 0, .int .u64 0, .int .u64 0] 24) = w1 from by rw [Hw1.out]; rfl])
          | (refine wpList_loadA (o := ⟨some 6, _, _, _, _, _⟩) (by rfl) 24 (.tmp 3) (by rfl) (w.heap.size + 1) (by rfl) aggWord hF.d (wcs_len _) ?_)
          | (refine wpList_loadA (o := ⟨some 11, _, _, _, _, _⟩) (by rfl) 24 (.tmp 2) (by rfl) (w.heap.size) (by rfl) aggWord hF.b (wcs_len _) ?_)
          | (refine wpList_loadA (o := ⟨some 12, _, _, _, _, _⟩) (by rfl) 24 (.tmp 3) (by rfl) (w.heap.size + 1) (by rfl) aggWord hF.d (wcs_len _) ?_)
          | (go_at_call 83; (with_reducible refine (wless_l N M hN hM false HD.out _).mono ?_); rintro e w2 ⟨rfl, b2⟩; have hF2 := hF.kept b2)
          | (refine wpList_loadA (o := ⟨some 16, _, _, _, _, _⟩) (by rfl) 24 (.tmp 3) (by rfl) (w.heap.size + 1) (by rfl) aggWord hF2.d (wcs_len _) ?_)
          | (go_at_call 75; (with_reducible refine (wbit255_l M false H255.out _).mono ?_); rintro e w3 ⟨rfl, b3⟩; have hF3 := hF2.kept b3))
        refine wp_region_h (fun u => Blk 24 u w.heap.size (wcs N) ∧ Blk 24 u (w.heap.size + 1) (wcs M)) (by kernel_rfl) ?_; intro u0 hu0; simp only [List.length_cons, List.length_nil, Nat.reduceAdd, List.replicate_succ, List.replicate_zero]
        have hU0 : FrX w N M 0 0 u0 := (by rw [hu0]; exact FrX.drew hF3)
        have hS : (fun u => Blk 24 u w.heap.size (wcs N) ∧ Blk 24 u (w.heap.size + 1) (wcs M)) u0 := ⟨hU0.b, hU0.d⟩
        clear hu0
        (refine wpH_take 0 (by rfl) (by kernel_rfl) (by intro _ _ _ h; first | exact h | (cases h.1)) (by intro _ _ _ _ h; first | exact h | (cases h.1)) (by assumption) (fun K hK => ?_); simp only [List.setIfInBounds_toArray, List.set_cons_zero, List.set_cons_succ] at hK; refine take_loadA (by rfl) 24 (.tmp 2) (by rfl) (w.heap.size) (by rfl) aggWord (fun u hu => And.left hu) (wcs_len _) (hK _ ?_); clear hK K; simp only [Act.put, List.getElem_toArray, List.getElem_cons_zero, List.getElem_cons_succ, List.setIfInBounds_toArray, List.set_cons_zero, List.set_cons_succ])
        (refine wpH_take 1 (by rfl) (by kernel_rfl) (by intro _ _ _ h; first | exact h | (cases h.1)) (by intro _ _ _ _ h; first | exact h | (cases h.1)) (by assumption) (fun K hK => ?_); simp only [List.setIfInBounds_toArray, List.set_cons_zero, List.set_cons_succ] at hK; refine take_loadA (by rfl) 24 (.tmp 3) (by rfl) (w.heap.size + 1) (by rfl) aggWord (fun u hu => And.right hu) (wcs_len _) (hK _ ?_); clear hK K; simp only [Act.put, List.getElem_toArray, List.getElem_cons_zero, List.getElem_cons_succ, List.setIfInBounds_toArray, List.set_cons_zero, List.set_cons_succ])
        (refine wpH_take 2 (by rfl) (by kernel_rfl) (by intro _ _ _ h; first | exact h | (cases h.1)) (by intro _ _ _ _ h; first | exact h | (cases h.1)) (by assumption) (fun K hK => ?_); simp only [List.setIfInBounds_toArray, List.set_cons_zero, List.set_cons_succ] at hK; refine take_loadA (by rfl) 24 (.tmp 3) (by rfl) (w.heap.size + 1) (by rfl) aggWord (fun u hu => And.right hu) (wcs_len _) (hK _ ?_); clear hK K; simp only [Act.put, List.getElem_toArray, List.getElem_cons_zero, List.getElem_cons_succ, List.setIfInBounds_toArray, List.set_cons_zero, List.set_cons_succ])
        (refine wpH_only 3 (by rfl) (by kernel_rfl) (fun K hK => ?_); simp only [List.setIfInBounds_toArray, List.set_cons_zero, List.set_cons_succ] at hK; go_simp)
        refine (HCM.out _).mono ?_
        rintro e u1 ⟨rfl, c1⟩
        have hU1 := hU0.kept c1
        have hS1 : (fun u => Blk 24 u w.heap.size (wcs N) ∧ Blk 24 u (w.heap.size + 1) (wcs M)) u1 := ⟨hU1.b, hU1.d⟩
        refine hK _ _ hS1 ?_; clear hK K
        (refine wpH_only 4 (by rfl) (by kernel_rfl) (fun K hK => ?_); simp only [List.setIfInBounds_toArray, List.set_cons_zero, List.set_cons_succ] at hK; go_simp)
        refine (HCR.out _).mono ?_
        rintro e u2 ⟨rfl, c2⟩
        have hU2 := hU1.kept c2
        have hS2 : (fun u => Blk 24 u w.heap.size (wcs N) ∧ Blk 24 u (w.heap.size + 1) (wcs M)) u2 := ⟨hU2.b, hU2.d⟩
        refine hK _ _ hS2 ?_; clear hK K
        (refine wpH_take 5 (by rfl) (by kernel_rfl) (by intro _ _ _ h; first | exact h | (cases h.1)) (by intro _ _ _ _ h; first | exact h | (cases h.1)) (by assumption) (fun K hK => ?_); simp only [List.setIfInBounds_toArray, List.set_cons_zero, List.set_cons_succ] at hK; go_simp; first | (refine hK _ ?_; clear hK K) | (apply Exists.intro; refine ⟨fun _ => rfl, hK _ ?_⟩; clear hK K)); (refine wpH_take 6 (by rfl) (by kernel_rfl) (by intro _ _ _ h; first | exact h | (cases h.1)) (by intro _ _ _ _ h; first | exact h | (cases h.1)) (by assumption) (fun K hK => ?_); simp only [List.setIfInBounds_toArray, List.set_cons_zero, List.set_cons_succ] at hK; go_simp; first | (refine hK _ ?_; clear hK K) | (apply Exists.intro; refine ⟨fun _ => rfl, hK _ ?_⟩; clear hK K)); (refine wpH_take 7 (by rfl) (by kernel_rfl) (by intro _ _ _ h; first | exact h | (cases h.1)) (by intro _ _ _ _ h; first | exact h | (cases h.1)) (by assumption) (fun K hK => ?_); simp only [List.setIfInBounds_toArray, List.set_cons_zero, List.set_cons_succ] at hK; go_simp; first | (refine hK _ ?_; clear hK K) | (apply Exists.intro; refine ⟨fun _ => rfl, hK _ ?_⟩; clear hK K))
        (refine wpH_only 8 (by rfl) (by kernel_rfl) (fun K hK => ?_); simp only [List.setIfInBounds_toArray, List.set_cons_zero, List.set_cons_succ] at hK; refine step_storeA (by rfl) 24 (.tmp 4) (.tmp 25) (by rfl) (w.heap.size + 2) (wcs (A)) (by rfl) (by rfl) aggWord hU2.f.q (wcs_len _) (by first | exact wcs_len _ | rfl) (wcs_one _) ?_; intro u3 o3 c3 g3; simp only [Act.put, List.getElem_toArray, List.getElem_cons_zero, List.getElem_cons_succ, List.setIfInBounds_toArray, List.set_cons_zero, List.set_cons_succ])
        have hU3 := hU2.st4 o3 c3 g3
        have hS3 : (fun u => Blk 24 u w.heap.size (wcs N) ∧ Blk 24 u (w.heap.size + 1) (wcs M)) u3 := ⟨hU3.b, hU3.d⟩
        refine hK _ _ hS3 ?_; clear hK K
        (refine wpH_only 9 (by rfl) (by kernel_rfl) (fun K hK => ?_); simp only [List.setIfInBounds_toArray, List.set_cons_zero, List.set_cons_succ] at hK; refine step_storeA (by rfl) 24 (.tmp 5) (.tmp 26) (by rfl) (w.heap.size + 3) (wcs (B)) (by rfl) (by rfl) aggWord hU3.f.r (wcs_len _) (by first | exact wcs_len _ | rfl) (wcs_one _) ?_; intro u4 o4 c4' g4; simp only [Act.put, List.getElem_toArray, List.getElem_cons_zero, List.getElem_cons_succ, List.setIfInBounds_toArray, List.set_cons_zero, List.set_cons_succ])
        have hF6 := hU3.st5 o4 c4' g4
        have hS4 : (fun u => Blk 24 u w.heap.size (wcs N) ∧ Blk 24 u (w.heap.size + 1) (wcs M)) u4 := ⟨hF6.b, hF6.d⟩
        refine hK _ _ hS4 ?_; clear hK K
        refine wpH_done (by kernel_rfl) ?_
        clear hS hS1 hS2 hS3 hS4
        go_wp2_with (first
            | (refine wpList_loadA (o := ⟨some 28, _, _, _, _, _⟩) (by rfl) 24 (.tmp 4) (by rfl) (w.heap.size + 2) (by rfl) aggWord hF6.f.q (wcs_len _) ?_)
            | (refine wpList_loadA (o := ⟨some 29, _, _, _, _, _⟩) (by rfl) 24 (.tmp 4) (by rfl) (w.heap.size + 2) (by rfl) aggWord hF6.f.q (wcs_len _) ?_)
            | (go_at_call 115; (with_reducible refine (wadd_l A A _).mono ?_); rintro e v3 ⟨rfl, c3⟩; rw [HAA.out]; have G3 := hF6.kept c3)
            | (refine wpList_storeA (by rfl) 24 (.tmp 4) (.tmp 30) (by rfl) (w.heap.size + 2) (wcs (2 * A)) (by rfl) (by rfl) aggWord G3.f.q (wcs_len _) (by first | exact wcs_len _ | rfl) (wcs_one _) (Below.refl _ _) (Nat.le_refl _) ?_; intro v4 o4 c4 g4; have G4 := G3.st4 o4 c4 g4)
            | (refine wpList_loadA (o := ⟨some 31, _, _, _, _, _⟩) (by rfl) 24 (.tmp 5) (by rfl) (w.heap.size + 3) (by rfl) aggWord G4.f.r (wcs_len _) ?_)
            | (refine wpList_loadA (o := ⟨some 32, _, _, _, _, _⟩) (by rfl) 24 (.tmp 3) (by rfl) (w.heap.size + 1) (by rfl) aggWord G4.d (wcs_len _) ?_)
            | (go_at_call 83; (with_reducible refine (wless_l B M hB hM true HBM.out _).mono ?_); rintro e v5 ⟨rfl, c5⟩; have G5 := G4.kept c5))
        (refine wp_region_h (Fr2 (w) (w.heap.size + 2) (w.heap.size + 3) (2 * A) (B)) (by kernel_rfl) ?_; intro u0 hu0; simp only [List.length_cons, List.length_nil, Nat.reduceAdd, List.replicate_succ, List.replicate_zero]; have hR0 : Fr2 (w) (w.heap.size + 2) (w.heap.size + 3) (2 * A) (B) u0 := (by rw [hu0]; exact Fr2.drew G5.f); clear hu0; (refine wpH_take 0 (by rfl) (by kernel_rfl) (by intro _ _ _ h; first | exact h | (cases h.1)) (by intro _ _ _ _ h; first | exact h | (cases h.1)) (by assumption) (fun K hK => ?_); simp only [List.setIfInBounds_toArray, List.set_cons_zero, List.set_cons_succ] at hK; refine take_loadA (by rfl) 24 (.tmp 4) (by rfl) (w.heap.size + 2) (by rfl) aggWord (fun u hu => Fr2.q hu) (wcs_len _) (hK _ ?_); clear hK K; simp only [Act.put, List.getElem_toArray, List.getElem_cons_zero, List.getElem_cons_succ, List.setIfInBounds_toArray, List.set_cons_zero, List.set_cons_succ]); (refine wpH_take 1 (by rfl) (by kernel_rfl) (by intro _ _ _ h; first | exact h | (cases h.1)) (by intro _ _ _ _ h; first | exact h | (cases h.1)) (by assumption) (fun K hK => ?_); simp only [List.setIfInBounds_toArray, List.set_cons_zero, List.set_cons_succ] at hK; refine take_loadA (by rfl) 24 (.tmp 5) (by rfl) (w.heap.size + 3) (by rfl) aggWord (fun u hu => Fr2.r hu) (wcs_len _) (hK _ ?_); clear hK K; simp only [Act.put, List.getElem_toArray, List.getElem_cons_zero, List.getElem_cons_succ, List.setIfInBounds_toArray, List.set_cons_zero, List.set_cons_succ]); (refine wpH_only 2 (by rfl) (by kernel_rfl) (fun K hK => ?_); simp only [List.setIfInBounds_toArray, List.set_cons_zero, List.set_cons_succ] at hK; refine step_storeA (by rfl) 24 (.tmp 4) (.tmp 41) (by rfl) (w.heap.size + 2) (wcs (2 * A)) (by rfl) (by rfl) aggWord hR0.q (wcs_len _) (by first | exact wcs_len _ | rfl) (wcs_one _) ?_; intro u1 o1 b1 g1; simp only [Act.put, List.getElem_toArray, List.getElem_cons_zero, List.getElem_cons_succ, List.setIfInBounds_toArray, List.set_cons_zero, List.set_cons_succ]); have hR1 := Fr2.st4 hR0 o1 b1 g1; refine hK _ _ hR1 ?_; clear hK K; (refine wpH_only 3 (by rfl) (by kernel_rfl) (fun K hK => ?_); simp only [List.setIfInBounds_toArray, List.set_cons_zero, List.set_cons_succ] at hK; refine step_storeA (by rfl) 24 (.tmp 5) (.tmp 42) (by rfl) (w.heap.size + 3) (wcs (B)) (by rfl) (by rfl) aggWord hR1.r (wcs_len _) (by first | exact wcs_len _ | rfl) (wcs_one _) ?_; intro u2 o2 b2 g2; simp only [Act.put, List.getElem_toArray, List.getElem_cons_zero, List.getElem_cons_succ, List.setIfInBounds_toArray, List.set_cons_zero, List.set_cons_succ]); have hR := Fr2.st5 hR1 o2 b2 g2; refine hK _ _ hR ?_; clear hK K; refine wpH_done (by kernel_rfl) ?_)
        go_wp2
        exact bodyPost_ret (results_blk2 rfl _ _ aggWord aggWord hR.q hR.r (wcs_len _) (wcs_len _) (by rfl) (by rfl)) rfl ⟨by rw [HQ.out, HR.out]; rfl, hR.bel⟩
    | false =>
      have hlt2 : ¬ B < M := by simpa using hbig
      rw [if_neg hlt2] at s1
      rw [if_neg hlt2] at s2
      have HQ := Lib.hid s1
      have HR := Lib.hid s2
      have hsb : subN B M = B - M := by unfold subN; rw [show B + W256 - M = (B - M) + W256 from by omega, Nat.add_mod_right, Nat.mod_eq_of_lt (by omega)]
      have cs := fun w => wsub_any B M hB hM w
      rw [hsb] at cs
      have HBs := Lib.hid cs
      have HBM := Lib.hid hbig
      clear s1 s2 hbig hlt2 hsb cs
      cases hb255 : M.testBit 255 with
      | true =>
        have h255 := bit255 M hM
        rw [hb255] at h255
        have hWM : W256 ≤ 2 * M := by simpa using h255.symm
        have hA0 : A = 0 := by rw [hA]; exact Nat.div_eq_of_lt (by omega)
        have hBN : N = B := by rw [hB0]; exact (Nat.mod_eq_of_lt (by omega)).symm
        subst hA0
        subst hBN
        have H255 := Lib.hid hb255
        clear h255 hWM hA hB0 hb255
        go_enter Try.func68, Try.ntmps68
        go_wp2_with (first
          | (rw [show (((w.alloc (.cells (wcs N).toArray 24)).alloc (.cells (wcs M).toArray 24)).alloc (.cells #[.int .u64 0, .int .u64 0, .int .u64 0, .int .u64 0] 24)).alloc (.cells #[.int .u64 0, .int .u64 0, .int .u64 0, .int .u64 0] 24) = w1 from by rw [Hw1.out]; rfl])
          | (refine wpList_loadA (o := ⟨some 6, _, _, _, _, _⟩) (by rfl) 24 (.tmp 3) (by rfl) (w.heap.size + 1) (by rfl) aggWord hF.d (wcs_len _) ?_)
          | (refine wpList_loadA (o := ⟨some 11, _, _, _, _, _⟩) (by rfl) 24 (.tmp 2) (by rfl) (w.heap.size) (by rfl) aggWord hF.b (wcs_len _) ?_)
          | (refine wpList_loadA (o := ⟨some 12, _, _, _, _, _⟩) (by rfl) 24 (.tmp 3) (by rfl) (w.heap.size + 1) (by rfl) aggWord hF.d (wcs_len _) ?_)
          | (go_at_call 83; (with_reducible refine (wless_l N M hN hM false HD.out _).mono ?_); rintro e w2 ⟨rfl, b2⟩; have hF2 := hF.kept b2)
          | (refine wpList_loadA (o := ⟨some 16, _, _, _, _, _⟩) (by rfl) 24 (.tmp 3) (by rfl) (w.heap.size + 1) (by rfl) aggWord hF2.d (wcs_len _) ?_)
          | (go_at_call 75; (with_reducible refine (wbit255_l M true H255.out _).mono ?_); rintro e w3 ⟨rfl, b3⟩; have hF3 := hF2.kept b3)
          | (refine wpList_loadA (o := ⟨some 27, _, _, _, _, _⟩) (by rfl) 24 (.tmp 2) (by rfl) (w.heap.size) (by rfl) aggWord hF3.b (wcs_len _) ?_)
          | (refine wpList_storeA (by rfl) 24 (.tmp 5) (.tmp 27) (by rfl) (w.heap.size + 3) (wcs (N)) (by rfl) (by rfl) aggWord hF3.f.r (wcs_len _) (by first | exact wcs_len _ | rfl) (wcs_one _) (Below.refl _ _) (Nat.le_refl _) ?_; intro w4 o4 b4 g4; have hF4 := hF3.st5 o4 b4 g4)
            | (refine wpList_loadA (o := ⟨some 28, _, _, _, _, _⟩) (by rfl) 24 (.tmp 4) (by rfl) (w.heap.size + 2) (by rfl) aggWord hF4.f.q (wcs_len _) ?_)
            | (refine wpList_loadA (o := ⟨some 29, _, _, _, _, _⟩) (by rfl) 24 (.tmp 4) (by rfl) (w.heap.size + 2) (by rfl) aggWord hF4.f.q (wcs_len _) ?_)
            | (go_at_call 115; (with_reducible refine (wadd_l 0 0 _).mono ?_); rintro e v3 ⟨rfl, c3⟩; rw [HAA.out]; have G3 := hF4.kept c3)
            | (refine wpList_storeA (by rfl) 24 (.tmp 4) (.tmp 30) (by rfl) (w.heap.size + 2) (wcs (2 * 0)) (by rfl) (by rfl) aggWord G3.f.q (wcs_len _) (by first | exact wcs_len _ | rfl) (wcs_one _) (Below.refl _ _) (Nat.le_refl _) ?_; intro v4 o4 c4 g4; have G4 := G3.st4 o4 c4 g4)
            | (refine wpList_loadA (o := ⟨some 31, _, _, _, _, _⟩) (by rfl) 24 (.tmp 5) (by rfl) (w.heap.size + 3) (by rfl) aggWord G4.f.r (wcs_len _) ?_)
            | (refine wpList_loadA (o := ⟨some 32, _, _, _, _, _⟩) (by rfl) 24 (.tmp 3) (by rfl) (w.heap.size + 1) (by rfl) aggWord G4.d (wcs_len _) ?_)
            | (go_at_call 83; (with_reducible refine (wless_l N M hN hM false HBM.out _).mono ?_); rintro e v5 ⟨rfl, c5⟩; have G5 := G4.kept c5))
        have k0 := fun u : Ext v5 => u.cell (G5.b.wat 0 (by omega))
        have k1 := fun u : Ext v5 => u.cell (G5.b.wat 1 (by omega))
        have k2 := fun u : Ext v5 => u.cell (G5.b.wat 2 (by omega))
        have k3 := fun u : Ext v5 => u.cell (G5.b.wat 3 (by omega))
        have m0 := fun u : Ext v5 => u.cell (G5.d.wat 0 (by omega))
        have m1 := fun u : Ext v5 => u.cell (G5.d.wat 1 (by omega))
        have m2 := fun u : Ext v5 => u.cell (G5.d.wat 2 (by omega))
        have m3 := fun u : Ext v5 => u.cell (G5.d.wat 3 (by omega))
        have p0 := fun u : Ext v5 => u.cell (G5.f.q.wat 0 (by omega))
        have p1 := fun u : Ext v5 => u.cell (G5.f.q.wat 1 (by omega))
        have p2 := fun u : Ext v5 => u.cell (G5.f.q.wat 2 (by omega))
        have p3 := fun u : Ext v5 => u.cell (G5.f.q.wat 3 (by omega))
        have r0 := fun u : Ext v5 => u.cell (G5.f.r.wat 0 (by omega))
        have r1 := fun u : Ext v5 => u.cell (G5.f.r.wat 1 (by omega))
        have r2 := fun u : Ext v5 => u.cell (G5.f.r.wat 2 (by omega))
        have r3 := fun u : Ext v5 => u.cell (G5.f.r.wat 3 (by omega))
        refine wp_region_typed v5 6 (by kernel_rfl) (by kernel_rfl) (Below.refl _ _) ?_; simp only [List.take_succ_cons, List.take_zero, List.take_nil]
        iterate 1 (refine wpX_step (by rfl) (fun K hK => ?_); go_simp; first | (refine hK _ ?_; clear hK K) | (apply Exists.intro; refine ⟨fun _ => ?_, hK _ ?_⟩; fail; clear hK K))
        (refine wpX_step (by rfl) (fun K hK => ?_); go_simp; first | (refine hK _ ?_; clear hK K) | (apply Exists.intro; refine ⟨fun _ => ?_, hK _ ?_⟩; exact wint_any 1 (by omega) _; clear hK K))
        (refine wpX_step (by rfl) (fun K hK => ?_); go_simp; first | (refine hK _ ?_; clear hK K) | (apply Exists.intro; refine ⟨fun _ => ?_, hK _ ?_⟩; exact HA1.out _; clear hK K))
        iterate 2 (refine wpX_step (by rfl) (fun K hK => ?_); go_simp; first | (refine hK _ ?_; clear hK K) | (apply Exists.intro; refine ⟨fun _ => ?_, hK _ ?_⟩; fail; clear hK K))
        (refine wpX_step (by rfl) (fun K hK => ?_); go_simp; first | (refine hK _ ?_; clear hK K) | (apply Exists.intro; refine ⟨fun _ => ?_, hK _ ?_⟩; exact HBs.out _; clear hK K))
        refine wpX_nil ?_
        intro v6 hv6
        change wpList _ _ _ [_, _] _ _
        have G6 := G5.kept hv6
        clear k0 k1 k2 k3 m0 m1 m2 m3 p0 p1 p2 p3 r0 r1 r2 r3
        go_wp2_with (first
          | (refine wpList_storeA (by rfl) 24 (.tmp 4) (.tmp 37) (by rfl) (w.heap.size + 2) (wcs (2 * 0 + 1)) (by rfl) (by rfl) aggWord G6.f.q (wcs_len _) (by first | exact wcs_len _ | rfl) (wcs_one _) (Below.refl _ _) (Nat.le_refl _) ?_; intro v7 o7 c7 g7; have G7 := G6.st4 o7 c7 g7)
          | (refine wpList_storeA (by rfl) 24 (.tmp 5) (.tmp 40) (by rfl) (w.heap.size + 3) (wcs (N - M)) (by rfl) (by rfl) aggWord G7.f.r (wcs_len _) (by first | exact wcs_len _ | rfl) (wcs_one _) (Below.refl _ _) (Nat.le_refl _) ?_; intro v8 o8 c8 g8; have G8 := G7.st5 o8 c8 g8))
        (refine wp_region_h (Fr2 (w) (w.heap.size + 2) (w.heap.size + 3) (2 * 0 + 1) (N - M)) (by kernel_rfl) ?_; intro u0 hu0; simp only [List.length_cons, List.length_nil, Nat.reduceAdd, List.replicate_succ, List.replicate_zero]; have hR0 : Fr2 (w) (w.heap.size + 2) (w.heap.size + 3) (2 * 0 + 1) (N - M) u0 := (by rw [hu0]; exact Fr2.drew G8.f); clear hu0; (refine wpH_take 0 (by rfl) (by kernel_rfl) (by intro _ _ _ h; first | exact h | (cases h.1)) (by intro _ _ _ _ h; first | exact h | (cases h.1)) (by assumption) (fun K hK => ?_); simp only [List.setIfInBounds_toArray, List.set_cons_zero, List.set_cons_succ] at hK; refine take_loadA (by rfl) 24 (.tmp 4) (by rfl) (w.heap.size + 2) (by rfl) aggWord (fun u hu => Fr2.q hu) (wcs_len _) (hK _ ?_); clear hK K; simp only [Act.put, List.getElem_toArray, List.getElem_cons_zero, List.getElem_cons_succ, List.setIfInBounds_toArray, List.set_cons_zero, List.set_cons_succ]); (refine wpH_take 1 (by rfl) (by kernel_rfl) (by intro _ _ _ h; first | exact h | (cases h.1)) (by intro _ _ _ _ h; first | exact h | (cases h.1)) (by assumption) (fun K hK => ?_); simp only [List.setIfInBounds_toArray, List.set_cons_zero, List.set_cons_succ] at hK; refine take_loadA (by rfl) 24 (.tmp 5) (by rfl) (w.heap.size + 3) (by rfl) aggWord (fun u hu => Fr2.r hu) (wcs_len _) (hK _ ?_); clear hK K; simp only [Act.put, List.getElem_toArray, List.getElem_cons_zero, List.getElem_cons_succ, List.setIfInBounds_toArray, List.set_cons_zero, List.set_cons_succ]); (refine wpH_only 2 (by rfl) (by kernel_rfl) (fun K hK => ?_); simp only [List.setIfInBounds_toArray, List.set_cons_zero, List.set_cons_succ] at hK; refine step_storeA (by rfl) 24 (.tmp 4) (.tmp 41) (by rfl) (w.heap.size + 2) (wcs (2 * 0 + 1)) (by rfl) (by rfl) aggWord hR0.q (wcs_len _) (by first | exact wcs_len _ | rfl) (wcs_one _) ?_; intro u1 o1 b1 g1; simp only [Act.put, List.getElem_toArray, List.getElem_cons_zero, List.getElem_cons_succ, List.setIfInBounds_toArray, List.set_cons_zero, List.set_cons_succ]); have hR1 := Fr2.st4 hR0 o1 b1 g1; refine hK _ _ hR1 ?_; clear hK K; (refine wpH_only 3 (by rfl) (by kernel_rfl) (fun K hK => ?_); simp only [List.setIfInBounds_toArray, List.set_cons_zero, List.set_cons_succ] at hK; refine step_storeA (by rfl) 24 (.tmp 5) (.tmp 42) (by rfl) (w.heap.size + 3) (wcs (N - M)) (by rfl) (by rfl) aggWord hR1.r (wcs_len _) (by first | exact wcs_len _ | rfl) (wcs_one _) ?_; intro u2 o2 b2 g2; simp only [Act.put, List.getElem_toArray, List.getElem_cons_zero, List.getElem_cons_succ, List.setIfInBounds_toArray, List.set_cons_zero, List.set_cons_succ]); have hR := Fr2.st5 hR1 o2 b2 g2; refine hK _ _ hR ?_; clear hK K; refine wpH_done (by kernel_rfl) ?_)
        go_wp2
        exact bodyPost_ret (results_blk2 rfl _ _ aggWord aggWord hR.q hR.r (wcs_len _) (wcs_len _) (by rfl) (by rfl)) rfl ⟨by rw [HQ.out, HR.out]; rfl, hR.bel⟩
      | false =>
        have h255 := bit255 M hM
        rw [hb255] at h255
        have hWM : ¬ W256 ≤ 2 * M := by simpa using h255.symm
        have hmm : addN M M = 2 * M := by unfold addN; rw [← Nat.two_mul]; exact Nat.mod_eq_of_lt (by omega)
        have cm := fun w => wadd_any M M w
        rw [hmm] at cm
        have cr := fun w => H.out (2 * M) (by omega) (by omega) (by rw [Nat.mul_comm 2 M, Nat.mul_assoc, ← Nat.pow_succ']; exact hk) w
        rw [← hA, ← hB0] at cr
        have HCM := Lib.hid cm
        have HCR := Lib.hid cr
        have H255 := Lib.hid hb255
        clear h255 hWM hA hB0 hb255 hmm cm cr hk
        go_enter Try.func68, Try.ntmps68
        go_wp2_with (first
          | (rw [show (((w.alloc (.cells (wcs N).toArray 24)).alloc (.cells (wcs M).toArray 24)).alloc (.cells #[.int .u64 0, .int .u64 0, .int .u64 0, .int .u64 0] 24)).alloc (.cells #[.int .u64 0, .int .u64 0, .int .u64 0, .int .u64 0] 24) = w1 from by rw [Hw1.out]; rfl])
          | (refine wpList_loadA (o := ⟨some 6, _, _, _, _, _⟩) (by rfl) 24 (.tmp 3) (by rfl) (w.heap.size + 1) (by rfl) aggWord hF.d (wcs_len _) ?_)
          | (refine wpList_loadA (o := ⟨some 11, _, _, _, _, _⟩) (by rfl) 24 (.tmp 2) (by rfl) (w.heap.size) (by rfl) aggWord hF.b (wcs_len _) ?_)
          | (refine wpList_loadA (o := ⟨some 12, _, _, _, _, _⟩) (by rfl) 24 (.tmp 3) (by rfl) (w.heap.size + 1) (by rfl) aggWord hF.d (wcs_len _) ?_)
          | (go_at_call 83; (with_reducible refine (wless_l N M hN hM false HD.out _).mono ?_); rintro e w2 ⟨rfl, b2⟩; have hF2 := hF.kept b2)
          | (refine wpList_loadA (o := ⟨some 16, _, _, _, _, _⟩) (by rfl) 24 (.tmp 3) (by rfl) (w.heap.size + 1) (by rfl) aggWord hF2.d (wcs_len _) ?_)
          | (go_at_call 75; (with_reducible refine (wbit255_l M false H255.out _).mono ?_); rintro e w3 ⟨rfl, b3⟩; have hF3 := hF2.kept b3))
        refine wp_region_h (fun u => Blk 24 u w.heap.size (wcs N) ∧ Blk 24 u (w.heap.size + 1) (wcs M)) (by kernel_rfl) ?_; intro u0 hu0; simp only [List.length_cons, List.length_nil, Nat.reduceAdd, List.replicate_succ, List.replicate_zero]
        have hU0 : FrX w N M 0 0 u0 := (by rw [hu0]; exact FrX.drew hF3)
        have hS : (fun u => Blk 24 u w.heap.size (wcs N) ∧ Blk 24 u (w.heap.size + 1) (wcs M)) u0 := ⟨hU0.b, hU0.d⟩
        clear hu0
        (refine wpH_take 0 (by rfl) (by kernel_rfl) (by intro _ _ _ h; first | exact h | (cases h.1)) (by intro _ _ _ _ h; first | exact h | (cases h.1)) (by assumption) (fun K hK => ?_); simp only [List.setIfInBounds_toArray, List.set_cons_zero, List.set_cons_succ] at hK; refine take_loadA (by rfl) 24 (.tmp 2) (by rfl) (w.heap.size) (by rfl) aggWord (fun u hu => And.left hu) (wcs_len _) (hK _ ?_); clear hK K; simp only [Act.put, List.getElem_toArray, List.getElem_cons_zero, List.getElem_cons_succ, List.setIfInBounds_toArray, List.set_cons_zero, List.set_cons_succ])
        (refine wpH_take 1 (by rfl) (by kernel_rfl) (by intro _ _ _ h; first | exact h | (cases h.1)) (by intro _ _ _ _ h; first | exact h | (cases h.1)) (by assumption) (fun K hK => ?_); simp only [List.setIfInBounds_toArray, List.set_cons_zero, List.set_cons_succ] at hK; refine take_loadA (by rfl) 24 (.tmp 3) (by rfl) (w.heap.size + 1) (by rfl) aggWord (fun u hu => And.right hu) (wcs_len _) (hK _ ?_); clear hK K; simp only [Act.put, List.getElem_toArray, List.getElem_cons_zero, List.getElem_cons_succ, List.setIfInBounds_toArray, List.set_cons_zero, List.set_cons_succ])
        (refine wpH_take 2 (by rfl) (by kernel_rfl) (by intro _ _ _ h; first | exact h | (cases h.1)) (by intro _ _ _ _ h; first | exact h | (cases h.1)) (by assumption) (fun K hK => ?_); simp only [List.setIfInBounds_toArray, List.set_cons_zero, List.set_cons_succ] at hK; refine take_loadA (by rfl) 24 (.tmp 3) (by rfl) (w.heap.size + 1) (by rfl) aggWord (fun u hu => And.right hu) (wcs_len _) (hK _ ?_); clear hK K; simp only [Act.put, List.getElem_toArray, List.getElem_cons_zero, List.getElem_cons_succ, List.setIfInBounds_toArray, List.set_cons_zero, List.set_cons_succ])
        (refine wpH_only 3 (by rfl) (by kernel_rfl) (fun K hK => ?_); simp only [List.setIfInBounds_toArray, List.set_cons_zero, List.set_cons_succ] at hK; go_simp)
        refine (HCM.out _).mono ?_
        rintro e u1 ⟨rfl, c1⟩
        have hU1 := hU0.kept c1
        have hS1 : (fun u => Blk 24 u w.heap.size (wcs N) ∧ Blk 24 u (w.heap.size + 1) (wcs M)) u1 := ⟨hU1.b, hU1.d⟩
        refine hK _ _ hS1 ?_; clear hK K
        (refine wpH_only 4 (by rfl) (by kernel_rfl) (fun K hK => ?_); simp only [List.setIfInBounds_toArray, List.set_cons_zero, List.set_cons_succ] at hK; go_simp)
        refine (HCR.out _).mono ?_
        rintro e u2 ⟨rfl, c2⟩
        have hU2 := hU1.kept c2
        have hS2 : (fun u => Blk 24 u w.heap.size (wcs N) ∧ Blk 24 u (w.heap.size + 1) (wcs M)) u2 := ⟨hU2.b, hU2.d⟩
        refine hK _ _ hS2 ?_; clear hK K
        (refine wpH_take 5 (by rfl) (by kernel_rfl) (by intro _ _ _ h; first | exact h | (cases h.1)) (by intro _ _ _ _ h; first | exact h | (cases h.1)) (by assumption) (fun K hK => ?_); simp only [List.setIfInBounds_toArray, List.set_cons_zero, List.set_cons_succ] at hK; go_simp; first | (refine hK _ ?_; clear hK K) | (apply Exists.intro; refine ⟨fun _ => rfl, hK _ ?_⟩; clear hK K)); (refine wpH_take 6 (by rfl) (by kernel_rfl) (by intro _ _ _ h; first | exact h | (cases h.1)) (by intro _ _ _ _ h; first | exact h | (cases h.1)) (by assumption) (fun K hK => ?_); simp only [List.setIfInBounds_toArray, List.set_cons_zero, List.set_cons_succ] at hK; go_simp; first | (refine hK _ ?_; clear hK K) | (apply Exists.intro; refine ⟨fun _ => rfl, hK _ ?_⟩; clear hK K)); (refine wpH_take 7 (by rfl) (by kernel_rfl) (by intro _ _ _ h; first | exact h | (cases h.1)) (by intro _ _ _ _ h; first | exact h | (cases h.1)) (by assumption) (fun K hK => ?_); simp only [List.setIfInBounds_toArray, List.set_cons_zero, List.set_cons_succ] at hK; go_simp; first | (refine hK _ ?_; clear hK K) | (apply Exists.intro; refine ⟨fun _ => rfl, hK _ ?_⟩; clear hK K))
        (refine wpH_only 8 (by rfl) (by kernel_rfl) (fun K hK => ?_); simp only [List.setIfInBounds_toArray, List.set_cons_zero, List.set_cons_succ] at hK; refine step_storeA (by rfl) 24 (.tmp 4) (.tmp 25) (by rfl) (w.heap.size + 2) (wcs (A)) (by rfl) (by rfl) aggWord hU2.f.q (wcs_len _) (by first | exact wcs_len _ | rfl) (wcs_one _) ?_; intro u3 o3 c3 g3; simp only [Act.put, List.getElem_toArray, List.getElem_cons_zero, List.getElem_cons_succ, List.setIfInBounds_toArray, List.set_cons_zero, List.set_cons_succ])
        have hU3 := hU2.st4 o3 c3 g3
        have hS3 : (fun u => Blk 24 u w.heap.size (wcs N) ∧ Blk 24 u (w.heap.size + 1) (wcs M)) u3 := ⟨hU3.b, hU3.d⟩
        refine hK _ _ hS3 ?_; clear hK K
        (refine wpH_only 9 (by rfl) (by kernel_rfl) (fun K hK => ?_); simp only [List.setIfInBounds_toArray, List.set_cons_zero, List.set_cons_succ] at hK; refine step_storeA (by rfl) 24 (.tmp 5) (.tmp 26) (by rfl) (w.heap.size + 3) (wcs (B)) (by rfl) (by rfl) aggWord hU3.f.r (wcs_len _) (by first | exact wcs_len _ | rfl) (wcs_one _) ?_; intro u4 o4 c4' g4; simp only [Act.put, List.getElem_toArray, List.getElem_cons_zero, List.getElem_cons_succ, List.setIfInBounds_toArray, List.set_cons_zero, List.set_cons_succ])
        have hF6 := hU3.st5 o4 c4' g4
        have hS4 : (fun u => Blk 24 u w.heap.size (wcs N) ∧ Blk 24 u (w.heap.size + 1) (wcs M)) u4 := ⟨hF6.b, hF6.d⟩
        refine hK _ _ hS4 ?_; clear hK K
        refine wpH_done (by kernel_rfl) ?_
        clear hS hS1 hS2 hS3 hS4
        go_wp2_with (first
            | (refine wpList_loadA (o := ⟨some 28, _, _, _, _, _⟩) (by rfl) 24 (.tmp 4) (by rfl) (w.heap.size + 2) (by rfl) aggWord hF6.f.q (wcs_len _) ?_)
            | (refine wpList_loadA (o := ⟨some 29, _, _, _, _, _⟩) (by rfl) 24 (.tmp 4) (by rfl) (w.heap.size + 2) (by rfl) aggWord hF6.f.q (wcs_len _) ?_)
            | (go_at_call 115; (with_reducible refine (wadd_l A A _).mono ?_); rintro e v3 ⟨rfl, c3⟩; rw [HAA.out]; have G3 := hF6.kept c3)
            | (refine wpList_storeA (by rfl) 24 (.tmp 4) (.tmp 30) (by rfl) (w.heap.size + 2) (wcs (2 * A)) (by rfl) (by rfl) aggWord G3.f.q (wcs_len _) (by first | exact wcs_len _ | rfl) (wcs_one _) (Below.refl _ _) (Nat.le_refl _) ?_; intro v4 o4 c4 g4; have G4 := G3.st4 o4 c4 g4)
            | (refine wpList_loadA (o := ⟨some 31, _, _, _, _, _⟩) (by rfl) 24 (.tmp 5) (by rfl) (w.heap.size + 3) (by rfl) aggWord G4.f.r (wcs_len _) ?_)
            | (refine wpList_loadA (o := ⟨some 32, _, _, _, _, _⟩) (by rfl) 24 (.tmp 3) (by rfl) (w.heap.size + 1) (by rfl) aggWord G4.d (wcs_len _) ?_)
            | (go_at_call 83; (with_reducible refine (wless_l B M hB hM false HBM.out _).mono ?_); rintro e v5 ⟨rfl, c5⟩; have G5 := G4.kept c5))
        have k0 := fun u : Ext v5 => u.cell (G5.b.wat 0 (by omega))
        have k1 := fun u : Ext v5 => u.cell (G5.b.wat 1 (by omega))
        have k2 := fun u : Ext v5 => u.cell (G5.b.wat 2 (by omega))
        have k3 := fun u : Ext v5 => u.cell (G5.b.wat 3 (by omega))
        have m0 := fun u : Ext v5 => u.cell (G5.d.wat 0 (by omega))
        have m1 := fun u : Ext v5 => u.cell (G5.d.wat 1 (by omega))
        have m2 := fun u : Ext v5 => u.cell (G5.d.wat 2 (by omega))
        have m3 := fun u : Ext v5 => u.cell (G5.d.wat 3 (by omega))
        have p0 := fun u : Ext v5 => u.cell (G5.f.q.wat 0 (by omega))
        have p1 := fun u : Ext v5 => u.cell (G5.f.q.wat 1 (by omega))
        have p2 := fun u : Ext v5 => u.cell (G5.f.q.wat 2 (by omega))
        have p3 := fun u : Ext v5 => u.cell (G5.f.q.wat 3 (by omega))
        have r0 := fun u : Ext v5 => u.cell (G5.f.r.wat 0 (by omega))
        have r1 := fun u : Ext v5 => u.cell (G5.f.r.wat 1 (by omega))
        have r2 := fun u : Ext v5 => u.cell (G5.f.r.wat 2 (by omega))
        have r3 := fun u : Ext v5 => u.cell (G5.f.r.wat 3 (by omega))
        refine wp_region_typed v5 6 (by kernel_rfl) (by kernel_rfl) (Below.refl _ _) ?_; simp only [List.take_succ_cons, List.take_zero, List.take_nil]
        iterate 1 (refine wpX_step (by rfl) (fun K hK => ?_); go_simp; first | (refine hK _ ?_; clear hK K) | (apply Exists.intro; refine ⟨fun _ => ?_, hK _ ?_⟩; fail; clear hK K))
        (refine wpX_step (by rfl) (fun K hK => ?_); go_simp; first | (refine hK _ ?_; clear hK K) | (apply Exists.intro; refine ⟨fun _ => ?_, hK _ ?_⟩; exact wint_any 1 (by omega) _; clear hK K))
        (refine wpX_step (by rfl) (fun K hK => ?_); go_simp; first | (refine hK _ ?_; clear hK K) | (apply Exists.intro; refine ⟨fun _ => ?_, hK _ ?_⟩; exact HA1.out _; clear hK K))
        iterate 2 (refine wpX_step (by rfl) (fun K hK => ?_); go_simp; first | (refine hK _ ?_; clear hK K) | (apply Exists.intro; refine ⟨fun _ => ?_, hK _ ?_⟩; fail; clear hK K))
        (refine wpX_step (by rfl) (fun K hK => ?_); go_simp; first | (refine hK _ ?_; clear hK K) | (apply Exists.intro; refine ⟨fun _ => ?_, hK _ ?_⟩; exact HBs.out _; clear hK K))
        refine wpX_nil ?_
        intro v6 hv6
        change wpList _ _ _ [_, _] _ _
        have G6 := G5.kept hv6
        clear k0 k1 k2 k3 m0 m1 m2 m3 p0 p1 p2 p3 r0 r1 r2 r3
        go_wp2_with (first
          | (refine wpList_storeA (by rfl) 24 (.tmp 4) (.tmp 37) (by rfl) (w.heap.size + 2) (wcs (2 * A + 1)) (by rfl) (by rfl) aggWord G6.f.q (wcs_len _) (by first | exact wcs_len _ | rfl) (wcs_one _) (Below.refl _ _) (Nat.le_refl _) ?_; intro v7 o7 c7 g7; have G7 := G6.st4 o7 c7 g7)
          | (refine wpList_storeA (by rfl) 24 (.tmp 5) (.tmp 40) (by rfl) (w.heap.size + 3) (wcs (B - M)) (by rfl) (by rfl) aggWord G7.f.r (wcs_len _) (by first | exact wcs_len _ | rfl) (wcs_one _) (Below.refl _ _) (Nat.le_refl _) ?_; intro v8 o8 c8 g8; have G8 := G7.st5 o8 c8 g8))
        (refine wp_region_h (Fr2 (w) (w.heap.size + 2) (w.heap.size + 3) (2 * A + 1) (B - M)) (by kernel_rfl) ?_; intro u0 hu0; simp only [List.length_cons, List.length_nil, Nat.reduceAdd, List.replicate_succ, List.replicate_zero]; have hR0 : Fr2 (w) (w.heap.size + 2) (w.heap.size + 3) (2 * A + 1) (B - M) u0 := (by rw [hu0]; exact Fr2.drew G8.f); clear hu0; (refine wpH_take 0 (by rfl) (by kernel_rfl) (by intro _ _ _ h; first | exact h | (cases h.1)) (by intro _ _ _ _ h; first | exact h | (cases h.1)) (by assumption) (fun K hK => ?_); simp only [List.setIfInBounds_toArray, List.set_cons_zero, List.set_cons_succ] at hK; refine take_loadA (by rfl) 24 (.tmp 4) (by rfl) (w.heap.size + 2) (by rfl) aggWord (fun u hu => Fr2.q hu) (wcs_len _) (hK _ ?_); clear hK K; simp only [Act.put, List.getElem_toArray, List.getElem_cons_zero, List.getElem_cons_succ, List.setIfInBounds_toArray, List.set_cons_zero, List.set_cons_succ]); (refine wpH_take 1 (by rfl) (by kernel_rfl) (by intro _ _ _ h; first | exact h | (cases h.1)) (by intro _ _ _ _ h; first | exact h | (cases h.1)) (by assumption) (fun K hK => ?_); simp only [List.setIfInBounds_toArray, List.set_cons_zero, List.set_cons_succ] at hK; refine take_loadA (by rfl) 24 (.tmp 5) (by rfl) (w.heap.size + 3) (by rfl) aggWord (fun u hu => Fr2.r hu) (wcs_len _) (hK _ ?_); clear hK K; simp only [Act.put, List.getElem_toArray, List.getElem_cons_zero, List.getElem_cons_succ, List.setIfInBounds_toArray, List.set_cons_zero, List.set_cons_succ]); (refine wpH_only 2 (by rfl) (by kernel_rfl) (fun K hK => ?_); simp only [List.setIfInBounds_toArray, List.set_cons_zero, List.set_cons_succ] at hK; refine step_storeA (by rfl) 24 (.tmp 4) (.tmp 41) (by rfl) (w.heap.size + 2) (wcs (2 * A + 1)) (by rfl) (by rfl) aggWord hR0.q (wcs_len _) (by first | exact wcs_len _ | rfl) (wcs_one _) ?_; intro u1 o1 b1 g1; simp only [Act.put, List.getElem_toArray, List.getElem_cons_zero, List.getElem_cons_succ, List.setIfInBounds_toArray, List.set_cons_zero, List.set_cons_succ]); have hR1 := Fr2.st4 hR0 o1 b1 g1; refine hK _ _ hR1 ?_; clear hK K; (refine wpH_only 3 (by rfl) (by kernel_rfl) (fun K hK => ?_); simp only [List.setIfInBounds_toArray, List.set_cons_zero, List.set_cons_succ] at hK; refine step_storeA (by rfl) 24 (.tmp 5) (.tmp 42) (by rfl) (w.heap.size + 3) (wcs (B - M)) (by rfl) (by rfl) aggWord hR1.r (wcs_len _) (by first | exact wcs_len _ | rfl) (wcs_one _) ?_; intro u2 o2 b2 g2; simp only [Act.put, List.getElem_toArray, List.getElem_cons_zero, List.getElem_cons_succ, List.setIfInBounds_toArray, List.set_cons_zero, List.set_cons_succ]); have hR := Fr2.st5 hR1 o2 b2 g2; refine hK _ _ hR ?_; clear hK K; refine wpH_done (by kernel_rfl) ?_)
        go_wp2
        exact bodyPost_ret (results_blk2 rfl _ _ aggWord aggWord hR.q hR.r (wcs_len _) (wcs_len _) (by rfl) (by rfl)) rfl ⟨by rw [HQ.out, HR.out]; rfl, hR.bel⟩
end Go.Proofs.Ytgmdbleeagfhpaa
