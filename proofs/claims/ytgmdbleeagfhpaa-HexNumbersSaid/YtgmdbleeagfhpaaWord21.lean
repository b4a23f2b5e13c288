/- word.DivMod; the reference's WDivMod. -/
import Derived.Test.YtgmdbleeagfhpaaWord20
set_option linter.unusedSimpArgs false
set_option linter.unusedVariables false
namespace Go.Proofs.Ytgmdbleeagfhpaa
open Go.RowKit
/-- Two words of its own. -/
structure Fr2 (w : World) (g4 g5 Q R : Nat) (u : World) : Prop where
  q : Blk 24 u g4 (wcs Q)
  r : Blk 24 u g5 (wcs R)
  bel : Below w.heap.size w u
  ne : g4 ≠ g5
  le4 : w.heap.size ≤ g4
  le5 : w.heap.size ≤ g5
theorem Fr2.drew {w u : World} {g4 g5 Q R : Nat} (h : Fr2 w g4 g5 Q R u) : Fr2 w g4 g5 Q R u.drew := ⟨h.q.drew, h.r.drew, h.bel.drew, h.ne, h.le4, h.le5⟩
theorem Fr2.kept {w u u' : World} {g4 g5 Q R : Nat} (h : Fr2 w g4 g5 Q R u) (hb : Below u.heap.size u u') : Fr2 w g4 g5 Q R u' := ⟨h.q.kept hb, h.r.kept hb, h.bel.trans (hb.mono h.bel.size), h.ne, h.le4, h.le5⟩
theorem Fr2.st4 {w u u' : World} {g4 g5 Q R Q' : Nat} (h : Fr2 w g4 g5 Q R u) (ho : Blk 24 u' g4 (wcs Q')) (hb : Below g4 u u') (hr : u.grownBy u' (some g4)) : Fr2 w g4 g5 Q' R u' :=
  ⟨ho, h.r.grown hr (by simpa using h.ne), h.bel.trans (hb.mono h.le4), h.ne, h.le4, h.le5⟩
theorem Fr2.st5 {w u u' : World} {g4 g5 Q R R' : Nat} (h : Fr2 w g4 g5 Q R u) (ho : Blk 24 u' g5 (wcs R')) (hb : Below g5 u u') (hr : u.grownBy u' (some g5)) : Fr2 w g4 g5 Q R' u' :=
  ⟨h.q.grown hr (by simpa using Ne.symm h.ne), ho, h.bel.trans (hb.mono h.le5), h.ne, h.le4, h.le5⟩
def modN (N M : Nat) : Nat := if M = 0 then 0 else N % M
/-- Two words and two results: the world at the start. -/
theorem box4 (w : World) (N M : Nat) : Blk 24 ((((w.alloc (.cells (wcs N).toArray 24)).alloc (.cells (wcs M).toArray 24)).alloc (.cells z4.toArray 24)).alloc (.cells z4.toArray 24)) w.heap.size (wcs N) ∧
    Blk 24 ((((w.alloc (.cells (wcs N).toArray 24)).alloc (.cells (wcs M).toArray 24)).alloc (.cells z4.toArray 24)).alloc (.cells z4.toArray 24)) (w.heap.size + 1) (wcs M) ∧
    Fr2 w (w.heap.size + 2) (w.heap.size + 3) 0 0 ((((w.alloc (.cells (wcs N).toArray 24)).alloc (.cells (wcs M).toArray 24)).alloc (.cells z4.toArray 24)).alloc (.cells z4.toArray 24)) := by
  obtain ⟨h1, h2, h3, h4⟩ := box3 w N M
  refine ⟨h1.alloc _, h2.alloc _, ⟨by rw [z4_zero]; exact h3.alloc _, ?_, h4.alloc (by simp; omega) _, by omega, by omega, by omega⟩⟩
  have := Blk.new (((w.alloc (.cells (wcs N).toArray 24)).alloc (.cells (wcs M).toArray 24)).alloc (.cells z4.toArray 24)) 24 z4
  rw [z4_zero]; simpa using this
theorem eq_zero (M : Nat) (hM : M < W256) (w1 : World) : (binOp .eql 24 (.agg (wcs M).toArray) (.agg #[.int .u64 0, .int .u64 0, .int .u64 0, .int .u64 0])).run Try.prog w1 = .ok (.bool (decide (M = 0))) w1 := by
  have := run_eqW M 0 hM (by unfold W256; omega) w1
  rw [z4_zero] at this; exact this
theorem valL_lims (N : Nat) (h : N < W256) : valL [lim N 0, lim N 1, lim N 2, lim N 3] = N := by
  have := lim_sum N h
  simp only [valL]
  unfold B64; omega
set_option maxHeartbeats 400000 in
set_option maxRecDepth 100000 in
theorem divmod_any (N M : Nat) (hN : N < W256) (hM : M < W256) (w : World) :
    Calls Try.prog 64 #[wv N, wv M] w fun e w' => e = .returned (.tuple #[wv (N / M), wv (modN N M)]) ∧ Below w.heap.size w w' := by
  obtain ⟨hb0, hd0, hr0⟩ := box4 w N M
  obtain ⟨w1, hw1⟩ : ∃ w1, w1 = (((w.alloc (.cells (wcs N).toArray 24)).alloc (.cells (wcs M).toArray 24)).alloc (.cells z4.toArray 24)).alloc (.cells z4.toArray 24) := ⟨_, rfl⟩
  rw [← hw1] at hb0 hd0 hr0
  show Calls Try.prog 64 #[.agg (wcs N).toArray, .agg (wcs M).toArray] w _
  have Hw1 := Lib.hid hw1
  clear hw1
  have hq := eq_zero M hM
  by_cases hM0 : M = 0
  · rw [decide_eq_true hM0] at hq
    have HM0 := Lib.hid hM0
    clear hM0
    go_enter Try.func64, Try.ntmps64
    go_wp2_with (first
      | (rw [show (((w.alloc (.cells (wcs N).toArray 24)).alloc (.cells (wcs M).toArray 24)).alloc (.cells #[.int .u64 0, .int .u64 0, .int .u64 0, .int .u64 0] 24)).alloc (.cells #[.int .u64 0, .int .u64 0, .int .u64 0, .int .u64 0] 24) = w1 from by rw [Hw1.out]; rfl])
      | (refine wpList_loadA (o := ⟨some 6, _, _, _, _, _⟩) (by rfl) 24 (.tmp 3) (by rfl) (w.heap.size + 1) (by rfl) aggWord hd0 (wcs_len _) ?_))
    (refine wp_region_h (Fr2 (w) (w.heap.size + 2) (w.heap.size + 3) (0) (0)) (by kernel_rfl) ?_; intro u0 hu0; simp only [List.length_cons, List.length_nil, Nat.reduceAdd, List.replicate_succ, List.replicate_zero]; have hR0 : Fr2 (w) (w.heap.size + 2) (w.heap.size + 3) (0) (0) u0 := (by rw [hu0]; exact Fr2.drew hr0); clear hu0; (refine wpH_take 0 (by rfl) (by kernel_rfl) (by intro _ _ _ h; first | exact h | (cases h.1)) (by intro _ _ _ _ h; first | exact h | (cases h.1)) (by assumption) (fun K hK => ?_); simp only [List.setIfInBounds_toArray, List.set_cons_zero, List.set_cons_succ] at hK; refine take_loadA (by rfl) 24 (.tmp 4) (by rfl) (w.heap.size + 2) (by rfl) aggWord (fun u hu => Fr2.q hu) (wcs_len _) (hK _ ?_); clear hK K; simp only [Act.put, List.getElem_toArray, List.getElem_cons_zero, List.getElem_cons_succ, List.setIfInBounds_toArray, List.set_cons_zero, List.set_cons_succ]); (refine wpH_take 1 (by rfl) (by kernel_rfl) (by intro _ _ _ h; first | exact h | (cases h.1)) (by intro _ _ _ _ h; first | exact h | (cases h.1)) (by assumption) (fun K hK => ?_); simp only [List.setIfInBounds_toArray, List.set_cons_zero, List.set_cons_succ] at hK; refine take_loadA (by rfl) 24 (.tmp 5) (by rfl) (w.heap.size + 3) (by rfl) aggWord (fun u hu => Fr2.r hu) (wcs_len _) (hK _ ?_); clear hK K; simp only [Act.put, List.getElem_toArray, List.getElem_cons_zero, List.getElem_cons_succ, List.setIfInBounds_toArray, List.set_cons_zero, List.set_cons_succ]); (refine wpH_only 2 (by rfl) (by kernel_rfl) (fun K hK => ?_); simp only [List.setIfInBounds_toArray, List.set_cons_zero, List.set_cons_succ] at hK; refine step_storeA (by rfl) 24 (.tmp 4) (.tmp 9) (by rfl) (w.heap.size + 2) (wcs (0)) (by rfl) (by rfl) aggWord hR0.q (wcs_len _) (by first | exact wcs_len _ | rfl) (wcs_one _) ?_; intro u1 o1 b1 g1; simp only [Act.put, List.getElem_toArray, List.getElem_cons_zero, List.getElem_cons_succ, List.setIfInBounds_toArray, List.set_cons_zero, List.set_cons_succ]); have hR1 := Fr2.st4 hR0 o1 b1 g1; refine hK _ _ hR1 ?_; clear hK K; (refine wpH_only 3 (by rfl) (by kernel_rfl) (fun K hK => ?_); simp only [List.setIfInBounds_toArray, List.set_cons_zero, List.set_cons_succ] at hK; refine step_storeA (by rfl) 24 (.tmp 5) (.tmp 10) (by rfl) (w.heap.size + 3) (wcs (0)) (by rfl) (by rfl) aggWord hR1.r (wcs_len _) (by first | exact wcs_len _ | rfl) (wcs_one _) ?_; intro u2 o2 b2 g2; simp only [Act.put, List.getElem_toArray, List.getElem_cons_zero, List.getElem_cons_succ, List.setIfInBounds_toArray, List.set_cons_zero, List.set_cons_succ]); have hR := Fr2.st5 hR1 o2 b2 g2; refine hK _ _ hR ?_; clear hK K; refine wpH_done (by kernel_rfl) ?_)
    go_wp2
    exact bodyPost_ret (results_blk2 rfl _ _ aggWord aggWord hR.q hR.r (wcs_len _) (wcs_len _) (by rfl) (by rfl)) rfl ⟨by rw [HM0.out, Nat.div_zero]; rfl, hR.bel⟩
  · rw [decide_eq_false hM0] at hq
    have hpos : 0 < M := Nat.pos_of_ne_zero hM0
    have hmod : modN N M = N % M := if_neg hM0
    have hdiv : N / M % W256 = N / M := Nat.mod_eq_of_lt (Nat.lt_of_le_of_lt (Nat.div_le_self _ _) hN)
    have hcon := fun (u : World) (hn : Nums u (.slice (some ⟨w.heap.size, 0, none⟩) 4 4) [lim N 0, lim N 1, lim N 2, lim N 3]) => divide_any (some ⟨w.heap.size, 0, none⟩) 4 [lim N 0, lim N 1, lim N 2, lim N 3] (by simp) (fun d hd => by
      simp only [List.mem_cons, List.not_mem_nil, or_false] at hd
      rcases hd with rfl | rfl | rfl | rfl <;> exact lim_lt _ _) M hM hpos u hn
    rw [valL_lims N hN, hdiv, ← hmod] at hcon
    have hrow : Nums w1 (.slice (some ⟨w.heap.size, 0, none⟩) 4 4) [lim N 0, lim N 1, lim N 2, lim N 3] := hb0.row _ 4 4 (fun _ => rfl) rfl (fun j u hj => hj) (Nat.le_refl _) (by unfold maxLen; omega)
    have Hcon := Lib.hid hcon
    have Hrow := Lib.hid hrow
    clear hM0 hmod hdiv hcon hrow
    go_enter Try.func64, Try.ntmps64
    go_wp2_with (first
      | (rw [show (((w.alloc (.cells (wcs N).toArray 24)).alloc (.cells (wcs M).toArray 24)).alloc (.cells #[.int .u64 0, .int .u64 0, .int .u64 0, .int .u64 0] 24)).alloc (.cells #[.int .u64 0, .int .u64 0, .int .u64 0, .int .u64 0] 24) = w1 from by rw [Hw1.out]; rfl])
      | (refine wpList_loadA (o := ⟨some 6, _, _, _, _, _⟩) (by rfl) 24 (.tmp 3) (by rfl) (w.heap.size + 1) (by rfl) aggWord hd0 (wcs_len _) ?_))
    have m0 := fun u : Ext w1 => u.cell (hd0.wat 0 (by omega))
    have m1 := fun u : Ext w1 => u.cell (hd0.wat 1 (by omega))
    have m2 := fun u : Ext w1 => u.cell (hd0.wat 2 (by omega))
    have m3 := fun u : Ext w1 => u.cell (hd0.wat 3 (by omega))
    refine wp_region_typed w1 5 (by kernel_rfl) (by kernel_rfl) (Below.refl _ _) ?_; simp only [List.take_succ_cons, List.take_zero, List.take_nil]
    iterate 2 (refine wpX_step (by rfl) (fun K hK => ?_); go_simp; first | (refine hK _ ?_; clear hK K) | (apply Exists.intro; refine ⟨fun _ => ?_, hK _ ?_⟩; fail; clear hK K))
    (refine wpX_step (by rfl) (fun K hK => ?_); go_simp; first | (refine hK _ ?_; clear hK K) | (apply Exists.intro; refine ⟨fun _ => ?_, hK _ ?_⟩; exact Hcon.out _ (Ext.row _ Hrow.out); clear hK K))
    iterate 2 (refine wpX_step (by rfl) (fun K hK => ?_); go_simp; first | (refine hK _ ?_; clear hK K) | (apply Exists.intro; refine ⟨fun _ => ?_, hK _ ?_⟩; fail; clear hK K))
    refine wpX_nil ?_
    intro w5 hw5
    change wpList _ _ _ [_, _] _ _
    have hr5 := hr0.kept hw5
    clear m0 m1 m2 m3
    go_wp2_with (first
      | (refine wpList_storeA (by rfl) 24 (.tmp 4) (.tmp 14) (by rfl) (w.heap.size + 2) (wcs (N / M)) (by rfl) (by rfl) aggWord hr5.q (wcs_len _) (by first | exact wcs_len _ | rfl) (wcs_one _) (Below.refl _ _) (Nat.le_refl _) ?_; intro w6 o6 b6 g6; have hr6 := hr5.st4 o6 b6 g6)
      | (refine wpList_storeA (by rfl) 24 (.tmp 5) (.tmp 15) (by rfl) (w.heap.size + 3) (wcs (modN N M)) (by rfl) (by rfl) aggWord hr6.r (wcs_len _) (by first | exact wcs_len _ | rfl) (wcs_one _) (Below.refl _ _) (Nat.le_refl _) ?_; intro w7 o7 b7 g7; have hr7 := hr6.st5 o7 b7 g7))
    exact bodyPost_ret (results_blk2 rfl _ _ aggWord aggWord hr7.q hr7.r (wcs_len _) (wcs_len _) (by rfl) (by rfl)) rfl ⟨rfl, hr7.bel⟩
end Go.Proofs.Ytgmdbleeagfhpaa
