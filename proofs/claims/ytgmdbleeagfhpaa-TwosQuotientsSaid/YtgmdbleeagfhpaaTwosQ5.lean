/- The reference's TSCmp. -/
import Derived.Test.YtgmdbleeagfhpaaTwosQ4
set_option linter.unusedSimpArgs false
set_option linter.unusedVariables false
namespace Go.Proofs.Ytgmdbleeagfhpaa
open Go.RowKit
theorem wcmp_l (N M : Nat) (hN : N < W256) (hM : M < W256) (w : World) : Calls Try.prog 70 #[.agg (wcs N).toArray, .agg (wcs M).toArray] w fun e w' => e = .returned (.int .i64 (cmpI N M)) ∧ Below w.heap.size w w' := wcmp_any N M hN hM w
def Any1 : World → Prop := fun _ => True
set_option linter.unusedSimpArgs false in
set_option maxHeartbeats 4000000 in
set_option maxRecDepth 100000 in
theorem tscmp_any (N M : Nat) (hN : N < W256) (hM : M < W256) (w : World) :
    Calls Try.prog 18 #[wv N, wv M] w fun e w' => e = .returned (.int .i64 (scmp N M)) ∧ Below w.heap.size w w' := by
  obtain ⟨hb0, hd0, hbel0⟩ := box2 w N M
  show Calls Try.prog 18 #[.agg (wcs N).toArray, .agg (wcs M).toArray] w _
  obtain ⟨w1, hw1⟩ : ∃ w1, w1 = (w.alloc (.cells (wcs N).toArray 24)).alloc (.cells (wcs M).toArray 24) := ⟨_, rfl⟩
  rw [← hw1] at hb0 hd0 hbel0
  go_enter Try.func18, Try.ntmps18
  go_wp2
  rw [← hw1]
  clear hw1
  refine wp_region_via (fun a b w' => ∃ g6 g7, b = (((a.put (some 7) (.agg (wcs (N)).toArray)).put (some 8) (.agg (wcs (M)).toArray)).put (some 5) (.pointer (some ⟨g6, 0, none⟩))).put (some 6) (.pointer (some ⟨g7, 0, none⟩)) ∧ g6 ≠ g7 ∧ w1.heap.size ≤ g6 ∧ w1.heap.size ≤ g7 ∧ Blk 24 w' g6 (wcs (N)) ∧ Blk 24 w' g7 (wcs (M)) ∧ Below w1.heap.size w1 w') ?_ ?_
  · refine wp_region_h ((fun u => Below w1.heap.size w1 u)) (by kernel_rfl) ?_; intro u0 hu0; simp only [List.length_cons, List.length_nil, Nat.reduceAdd, List.replicate_succ, List.replicate_zero]
    have hS0 : Below w1.heap.size w1 u0 := (by rw [hu0]; exact (Below.refl _ _).drew)
    clear hu0
    (refine wpH_take 0 (by rfl) (by kernel_rfl) (by intro _ _ _ h; first | exact h | (cases h.1)) (by intro _ _ _ _ h; first | exact h | (cases h.1)) (by assumption) (fun K hK => ?_); simp only [List.setIfInBounds_toArray, List.set_cons_zero, List.set_cons_succ] at hK; refine take_loadA (by rfl) 24 (.tmp 2) (by rfl) (w.heap.size) (by rfl) aggWord (fun u hu => Blk.below hb0 hu (Blk.lt hb0)) (wcs_len _) (hK _ ?_); clear hK K; simp only [Act.put, List.getElem_toArray, List.getElem_cons_zero, List.getElem_cons_succ, List.setIfInBounds_toArray, List.set_cons_zero, List.set_cons_succ])
    (refine wpH_take 1 (by rfl) (by kernel_rfl) (by intro _ _ _ h; first | exact h | (cases h.1)) (by intro _ _ _ _ h; first | exact h | (cases h.1)) (by assumption) (fun K hK => ?_); simp only [List.setIfInBounds_toArray, List.set_cons_zero, List.set_cons_succ] at hK; refine take_loadA (by rfl) 24 (.tmp 3) (by rfl) (w.heap.size + 1) (by rfl) aggWord (fun u hu => Blk.below hd0 hu (Blk.lt hd0)) (wcs_len _) (hK _ ?_); clear hK K; simp only [Act.put, List.getElem_toArray, List.getElem_cons_zero, List.getElem_cons_succ, List.setIfInBounds_toArray, List.set_cons_zero, List.set_cons_succ])
    refine wpH_all [2, 3] (by kernel_rfl) (by simp) ?_
    intro i hi
    simp only [List.mem_cons, List.not_mem_nil, or_false] at hi
    rcases hi with rfl | rfl
    · (refine brH_of (i := 2) (by rfl) (fun K hK => ?_); simp only [List.setIfInBounds_toArray, List.set_cons_zero, List.set_cons_succ] at hK; go_simp)
      have h6 := Blk.new u0 24 z4
      have q6 : w1.heap.size ≤ u0.heap.size := Below.size hS0
      have hS1 : Below w1.heap.size w1 (u0.alloc (.cells z4.toArray 24)) := Below.alloc hS0 (Below.size hS0) _
      refine hK _ _ hS1 ?_; clear hK K
      obtain ⟨u1, hu1⟩ : ∃ x, x = u0.alloc (.cells z4.toArray 24) := ⟨_, rfl⟩
      try rw [← hu1] at h6
      try rw [← hu1] at h7
      rw [← hu1] at hS1
      rw [show u0.alloc (.cells #[.int .u64 0, .int .u64 0, .int .u64 0, .int .u64 0] 24) = u1 from hu1.symm]
      clear hu1
      (refine wpH_only 3 (by rfl) (by kernel_rfl) (fun K hK => ?_); simp only [List.setIfInBounds_toArray, List.set_cons_zero, List.set_cons_succ] at hK; go_simp)
      have h7 := Blk.new u1 24 z4
      have q7 : w1.heap.size ≤ u1.heap.size := Below.size hS1
      have hS2 : Below w1.heap.size w1 (u1.alloc (.cells z4.toArray 24)) := Below.alloc hS1 (Below.size hS1) _
      have hne : u0.heap.size ≠ u1.heap.size := by have := h6.lt; omega
      replace h6 := h6.alloc (.cells z4.toArray 24)
      refine hK _ _ hS2 ?_; clear hK K
      obtain ⟨u2, hu2⟩ : ∃ x, x = u1.alloc (.cells z4.toArray 24) := ⟨_, rfl⟩
      try rw [← hu2] at h6
      try rw [← hu2] at h7
      rw [← hu2] at hS2
      rw [show u1.alloc (.cells #[.int .u64 0, .int .u64 0, .int .u64 0, .int .u64 0] 24) = u2 from hu2.symm]
      clear hu2
      refine wpH_only 4 (by rfl) (by kernel_rfl) (fun K hK => ?_)
      refine step_storeA (by rfl) 24 (.tmp 5) (.tmp 7) (by rfl) u0.heap.size (wcs (N)) (by rfl) (by rfl) aggWord h6 (wcs_len _) (by rfl) (wcs_one _) (fun v1 o6 c6 r6 => ?_)
      have T1 : Below w1.heap.size w1 v1 := Below.trans hS2 (c6.mono q6)
      refine hK _ _ T1 ?_; clear hK K
      refine wpH_only 5 (by rfl) (by kernel_rfl) (fun K hK => ?_)
      refine step_storeA (by rfl) 24 (.tmp 6) (.tmp 8) (by rfl) u1.heap.size (wcs (M)) (by rfl) (by rfl) aggWord (h7.grown r6 (by simpa using hne)) (wcs_len _) (by rfl) (wcs_one _) (fun v2 o7 c7 r7 => ?_)
      have T2 : Below w1.heap.size w1 v2 := Below.trans T1 (c7.mono q7)
      refine hK _ _ T2 ?_; clear hK K
      exact wpH_done (by kernel_rfl) ⟨rfl, u0.heap.size, u1.heap.size, rfl, hne, q6, q7, o6.grown r7 (by simpa using Ne.symm hne), o7, T2⟩
    · (refine brH_of (i := 3) (by rfl) (fun K hK => ?_); simp only [List.setIfInBounds_toArray, List.set_cons_zero, List.set_cons_succ] at hK; go_simp)
      have h7 := Blk.new u0 24 z4
      have q7 : w1.heap.size ≤ u0.heap.size := Below.size hS0
      have hS1 : Below w1.heap.size w1 (u0.alloc (.cells z4.toArray 24)) := Below.alloc hS0 (Below.size hS0) _
      refine hK _ _ hS1 ?_; clear hK K
      obtain ⟨u1, hu1⟩ : ∃ x, x = u0.alloc (.cells z4.toArray 24) := ⟨_, rfl⟩
      try rw [← hu1] at h6
      try rw [← hu1] at h7
      rw [← hu1] at hS1
      rw [show u0.alloc (.cells #[.int .u64 0, .int .u64 0, .int .u64 0, .int .u64 0] 24) = u1 from hu1.symm]
      clear hu1
      (refine wpH_only 2 (by rfl) (by kernel_rfl) (fun K hK => ?_); simp only [List.setIfInBounds_toArray, List.set_cons_zero, List.set_cons_succ] at hK; go_simp)
      have h6 := Blk.new u1 24 z4
      have q6 : w1.heap.size ≤ u1.heap.size := Below.size hS1
      have hS2 : Below w1.heap.size w1 (u1.alloc (.cells z4.toArray 24)) := Below.alloc hS1 (Below.size hS1) _
      have hne : u1.heap.size ≠ u0.heap.size := by have := h7.lt; omega
      replace h7 := h7.alloc (.cells z4.toArray 24)
      refine hK _ _ hS2 ?_; clear hK K
      obtain ⟨u2, hu2⟩ : ∃ x, x = u1.alloc (.cells z4.toArray 24) := ⟨_, rfl⟩
      try rw [← hu2] at h6
      try rw [← hu2] at h7
      rw [← hu2] at hS2
      rw [show u1.alloc (.cells #[.int .u64 0, .int .u64 0, .int .u64 0, .int .u64 0] 24) = u2 from hu2.symm]
      clear hu2
      refine wpH_only 4 (by rfl) (by kernel_rfl) (fun K hK => ?_)
      refine step_storeA (by rfl) 24 (.tmp 5) (.tmp 7) (by rfl) u1.heap.size (wcs (N)) (by rfl) (by rfl) aggWord h6 (wcs_len _) (by rfl) (wcs_one _) (fun v1 o6 c6 r6 => ?_)
      have T1 : Below w1.heap.size w1 v1 := Below.trans hS2 (c6.mono q6)
      refine hK _ _ T1 ?_; clear hK K
      refine wpH_only 5 (by rfl) (by kernel_rfl) (fun K hK => ?_)
      refine step_storeA (by rfl) 24 (.tmp 6) (.tmp 8) (by rfl) u0.heap.size (wcs (M)) (by rfl) (by rfl) aggWord (h7.grown r6 (by simpa using hne)) (wcs_len _) (by rfl) (wcs_one _) (fun v2 o7 c7 r7 => ?_)
      have T2 : Below w1.heap.size w1 v2 := Below.trans T1 (c7.mono q7)
      refine hK _ _ T2 ?_; clear hK K
      exact wpH_done (by kernel_rfl) ⟨rfl, u1.heap.size, u0.heap.size, rfl, hne, q6, q7, o6.grown r7 (by simpa using Ne.symm hne), o7, T2⟩
  rintro b w' ⟨g6, g7, rfl, hne, q6, q7, h6, h7, hb6⟩
  simp only [Act.put, List.setIfInBounds_toArray, List.set_cons_zero, List.set_cons_succ]
  have fN := flip_lims N hN
  have fM := flip_lims M hM
  have x1 := bits_xor_u64_nat (lim N 3) 9223372036854775808 (lim_lt N 3) (by omega)
  have x2 := bits_xor_u64_nat (lim M 3) 9223372036854775808 (lim_lt M 3) (by omega)
  obtain ⟨X, hX⟩ : ∃ X, X = lim N 3 ^^^ 9223372036854775808 := ⟨_, rfl⟩
  obtain ⟨Y, hY⟩ : ∃ Y, Y = lim M 3 ^^^ 9223372036854775808 := ⟨_, rfl⟩
  rw [← hX] at fN x1
  rw [← hY] at fM x2
  have x1' : bits .xor .u64 (lim N 3 : Int) 9223372036854775808 = (X : Int) := x1
  have x2' : bits .xor .u64 (lim M 3 : Int) 9223372036854775808 = (Y : Int) := x2
  have hne' : g7 ≠ g6 := Ne.symm hne
  have FN := Lib.hid fN
  have FM := Lib.hid fM
  clear hX hY x1 x2 fN fM
  go_wp2
  refine wp_region_via (fun a b u => b = (((((((a.put (some 9) (.pointer (some ⟨g6, 3, none⟩))).put (some 10) (.int .u64 (lim N 3 : Int))).put (some 11) (.int .u64 (X : Int))).put (some 12) (.pointer (some ⟨g7, 3, none⟩))).put (some 13) (.int .u64 (lim M 3 : Int))).put (some 14) (.int .u64 (Y : Int))).put (some 15) (.pointer (some ⟨g6, 3, none⟩))).put (some 16) (.pointer (some ⟨g7, 3, none⟩)) ∧ Blk 24 u g6 (wcs (flip N)) ∧ Blk 24 u g7 (wcs (flip M)) ∧ Below w1.heap.size w1 u) ?_ ?_
  · refine wp_region_h (Any1) (by kernel_rfl) ?_; intro u0 hu0; simp only [List.length_cons, List.length_nil, Nat.reduceAdd, List.replicate_succ, List.replicate_zero]
    have hS : ∀ u, Any1 u := fun _ => trivial
    have a6 : Blk 24 u0 g6 (wcs N) := (by rw [hu0]; exact h6.drew)
    have a7 : Blk 24 u0 g7 (wcs M) := (by rw [hu0]; exact h7.drew)
    have ab : Below w1.heap.size w1 u0 := (by rw [hu0]; exact hb6.drew)
    have hS0 : Any1 u0 := trivial
    clear hu0 h6 h7 hb6
    have c6 := a6.wat 3 (by omega)
    have c7 := a7.wat 3 (by omega)
    obtain ⟨y6, hy6⟩ := a6.has 3 (by simp [wcs_len])
    have f6 := a6.free 3
    obtain ⟨y7, hy7⟩ := a7.has 3 (by simp [wcs_len])
    have f7 := a7.free 3
    have s6 := a6.set 3 (.int .u64 (X : Int))
    rw [FN.out] at s6
    have s7 := a7.other ⟨g6, 3, none⟩ (by simpa using hne) (.int .u64 (X : Int))
    have sb := ab.setCell (p := ⟨g6, 3, none⟩) (by simpa using q6) (.int .u64 (X : Int))
    have c7' := s7.wat 3 (by omega)
    obtain ⟨z7, hz7⟩ := s7.has 3 (by simp [wcs_len])
    have f7' := s7.free 3
    have t6 := s6.other ⟨g7, 3, none⟩ (by simpa using hne') (.int .u64 (Y : Int))
    have t7 := s7.set 3 (.int .u64 (Y : Int))
    rw [FM.out] at t7
    have tb := sb.setCell (p := ⟨g7, 3, none⟩) (by simpa using q7) (.int .u64 (Y : Int))
    have s7' := s7
    clear a6 a7 ab s6 s7 sb hy6 hy7 hz7
    (refine wpH_take 0 (by rfl) (by kernel_rfl) (by intro _ _ _ h; first | exact h | (cases h.1)) (by intro _ _ _ _ h; first | exact h | (cases h.1)) (by assumption) (fun K hK => ?_); simp only [List.setIfInBounds_toArray, List.set_cons_zero, List.set_cons_succ] at hK; go_simp; first | (refine hK _ ?_; clear hK K) | (apply Exists.intro; refine ⟨fun _ => rfl, hK _ ?_⟩; clear hK K)); (refine wpH_take 3 (by rfl) (by kernel_rfl) (by intro _ _ _ h; first | exact h | (cases h.1)) (by intro _ _ _ _ h; first | exact h | (cases h.1)) (by assumption) (fun K hK => ?_); simp only [List.setIfInBounds_toArray, List.set_cons_zero, List.set_cons_succ] at hK; go_simp; first | (refine hK _ ?_; clear hK K) | (apply Exists.intro; refine ⟨fun _ => rfl, hK _ ?_⟩; clear hK K))
    refine wpH_all [1, 4] (by kernel_rfl) (by simp) ?_
    intro i hi
    simp only [List.mem_cons, List.not_mem_nil, or_false] at hi
    rcases hi with rfl | rfl
    · (refine brH_of (i := 1) (by rfl) (fun K hK => ?_); simp only [List.setIfInBounds_toArray, List.set_cons_zero, List.set_cons_succ] at hK; go_simp)
      refine hK _ _ (hS _) ?_; clear hK K
      (refine wpH_take 2 (by rfl) (by kernel_rfl) (by intro _ _ _ h; first | exact h | (cases h.1)) (by intro _ _ _ _ h; first | exact h | (cases h.1)) (by assumption) (fun K hK => ?_); simp only [List.setIfInBounds_toArray, List.set_cons_zero, List.set_cons_succ] at hK; go_simp; first | (refine hK _ ?_; clear hK K) | (apply Exists.intro; refine ⟨fun _ => rfl, hK _ ?_⟩; clear hK K)); (refine wpH_take 6 (by rfl) (by kernel_rfl) (by intro _ _ _ h; first | exact h | (cases h.1)) (by intro _ _ _ _ h; first | exact h | (cases h.1)) (by assumption) (fun K hK => ?_); simp only [List.setIfInBounds_toArray, List.set_cons_zero, List.set_cons_succ] at hK; go_simp; first | (refine hK _ ?_; clear hK K) | (apply Exists.intro; refine ⟨fun _ => rfl, hK _ ?_⟩; clear hK K))
      refine wpH_all [4, 7] (by kernel_rfl) (by simp) ?_
      intro i hi
      simp only [List.mem_cons, List.not_mem_nil, or_false] at hi
      rcases hi with rfl | rfl
      · (refine brH_of (i := 4) (by rfl) (fun K hK => ?_); simp only [List.setIfInBounds_toArray, List.set_cons_zero, List.set_cons_succ] at hK; go_simp)
        refine hK _ _ (hS _) ?_; clear hK K
        (refine wpH_take 5 (by rfl) (by kernel_rfl) (by intro _ _ _ h; first | exact h | (cases h.1)) (by intro _ _ _ _ h; first | exact h | (cases h.1)) (by assumption) (fun K hK => ?_); simp only [List.setIfInBounds_toArray, List.set_cons_zero, List.set_cons_succ] at hK; go_simp; first | (refine hK _ ?_; clear hK K) | (apply Exists.intro; refine ⟨fun _ => rfl, hK _ ?_⟩; clear hK K))
        (refine wpH_only 7 (by rfl) (by kernel_rfl) (fun K hK => ?_); simp only [List.setIfInBounds_toArray, List.set_cons_zero, List.set_cons_succ] at hK; go_simp)
        refine hK _ _ (hS _) ?_; clear hK K
        have hS1 := hS (u0.setCell ⟨g6, 3, none⟩ (.int .u64 (X : Int)))
        (refine wpH_take 8 (by rfl) (by kernel_rfl) (by intro _ _ _ h; first | exact h | (cases h.1)) (by intro _ _ _ _ h; first | exact h | (cases h.1)) (by assumption) (fun K hK => ?_); simp only [List.setIfInBounds_toArray, List.set_cons_zero, List.set_cons_succ] at hK; go_simp; first | (refine hK _ ?_; clear hK K) | (apply Exists.intro; refine ⟨fun _ => rfl, hK _ ?_⟩; clear hK K))
        (refine wpH_only 9 (by rfl) (by kernel_rfl) (fun K hK => ?_); simp only [List.setIfInBounds_toArray, List.set_cons_zero, List.set_cons_succ] at hK; go_simp)
        refine hK _ _ (hS _) ?_; clear hK K
        exact wpH_done (by kernel_rfl) ⟨rfl, rfl, t6, t7, tb⟩
      · clear f7'
        (refine brH_of (i := 7) (by rfl) (fun K hK => ?_); simp only [List.setIfInBounds_toArray, List.set_cons_zero, List.set_cons_succ] at hK; go_simp)
        refine hK _ _ (hS _) ?_; clear hK K
        have hS1 := hS (u0.setCell ⟨g6, 3, none⟩ (.int .u64 (X : Int)))
        obtain ⟨u1, hu1⟩ : ∃ u1, u1 = u0.setCell ⟨g6, 3, none⟩ (.int .u64 (X : Int)) := ⟨_, rfl⟩
        rw [← hu1] at c7' hS1 t6 t7 tb s7' ⊢
        obtain ⟨z7, hz7⟩ := s7'.has 3 (by simp [wcs_len])
        have f7' := s7'.free 3
        clear hu1 s7'
        (refine wpH_only 4 (by rfl) (by kernel_rfl) (fun K hK => ?_); simp only [List.setIfInBounds_toArray, List.set_cons_zero, List.set_cons_succ] at hK; go_simp)
        refine hK _ _ (hS _) ?_; clear hK K
        (refine wpH_take 5 (by rfl) (by kernel_rfl) (by intro _ _ _ h; first | exact h | (cases h.1)) (by intro _ _ _ _ h; first | exact h | (cases h.1)) (by assumption) (fun K hK => ?_); simp only [List.setIfInBounds_toArray, List.set_cons_zero, List.set_cons_succ] at hK; go_simp; first | (refine hK _ ?_; clear hK K) | (apply Exists.intro; refine ⟨fun _ => rfl, hK _ ?_⟩; clear hK K)); (refine wpH_take 8 (by rfl) (by kernel_rfl) (by intro _ _ _ h; first | exact h | (cases h.1)) (by intro _ _ _ _ h; first | exact h | (cases h.1)) (by assumption) (fun K hK => ?_); simp only [List.setIfInBounds_toArray, List.set_cons_zero, List.set_cons_succ] at hK; go_simp; first | (refine hK _ ?_; clear hK K) | (apply Exists.intro; refine ⟨fun _ => rfl, hK _ ?_⟩; clear hK K))
        (refine wpH_only 9 (by rfl) (by kernel_rfl) (fun K hK => ?_); simp only [List.setIfInBounds_toArray, List.set_cons_zero, List.set_cons_succ] at hK; go_simp)
        refine hK _ _ (hS _) ?_; clear hK K
        exact wpH_done (by kernel_rfl) ⟨rfl, rfl, t6, t7, tb⟩
    · (refine brH_of (i := 4) (by rfl) (fun K hK => ?_); simp only [List.setIfInBounds_toArray, List.set_cons_zero, List.set_cons_succ] at hK; go_simp)
      refine hK _ _ (hS _) ?_; clear hK K
      (refine wpH_take 5 (by rfl) (by kernel_rfl) (by intro _ _ _ h; first | exact h | (cases h.1)) (by intro _ _ _ _ h; first | exact h | (cases h.1)) (by assumption) (fun K hK => ?_); simp only [List.setIfInBounds_toArray, List.set_cons_zero, List.set_cons_succ] at hK; go_simp; first | (refine hK _ ?_; clear hK K) | (apply Exists.intro; refine ⟨fun _ => rfl, hK _ ?_⟩; clear hK K))
      (refine wpH_only 1 (by rfl) (by kernel_rfl) (fun K hK => ?_); simp only [List.setIfInBounds_toArray, List.set_cons_zero, List.set_cons_succ] at hK; go_simp)
      refine hK _ _ (hS _) ?_; clear hK K
      (refine wpH_take 2 (by rfl) (by kernel_rfl) (by intro _ _ _ h; first | exact h | (cases h.1)) (by intro _ _ _ _ h; first | exact h | (cases h.1)) (by assumption) (fun K hK => ?_); simp only [List.setIfInBounds_toArray, List.set_cons_zero, List.set_cons_succ] at hK; go_simp; first | (refine hK _ ?_; clear hK K) | (apply Exists.intro; refine ⟨fun _ => rfl, hK _ ?_⟩; clear hK K)); (refine wpH_take 6 (by rfl) (by kernel_rfl) (by intro _ _ _ h; first | exact h | (cases h.1)) (by intro _ _ _ _ h; first | exact h | (cases h.1)) (by assumption) (fun K hK => ?_); simp only [List.setIfInBounds_toArray, List.set_cons_zero, List.set_cons_succ] at hK; go_simp; first | (refine hK _ ?_; clear hK K) | (apply Exists.intro; refine ⟨fun _ => rfl, hK _ ?_⟩; clear hK K))
      (refine wpH_only 7 (by rfl) (by kernel_rfl) (fun K hK => ?_); simp only [List.setIfInBounds_toArray, List.set_cons_zero, List.set_cons_succ] at hK; go_simp)
      refine hK _ _ (hS _) ?_; clear hK K
      have hS1 := hS (u0.setCell ⟨g6, 3, none⟩ (.int .u64 (X : Int)))
      (refine wpH_take 8 (by rfl) (by kernel_rfl) (by intro _ _ _ h; first | exact h | (cases h.1)) (by intro _ _ _ _ h; first | exact h | (cases h.1)) (by assumption) (fun K hK => ?_); simp only [List.setIfInBounds_toArray, List.set_cons_zero, List.set_cons_succ] at hK; go_simp; first | (refine hK _ ?_; clear hK K) | (apply Exists.intro; refine ⟨fun _ => rfl, hK _ ?_⟩; clear hK K))
      (refine wpH_only 9 (by rfl) (by kernel_rfl) (fun K hK => ?_); simp only [List.setIfInBounds_toArray, List.set_cons_zero, List.set_cons_succ] at hK; go_simp)
      refine hK _ _ (hS _) ?_; clear hK K
      exact wpH_done (by kernel_rfl) ⟨rfl, rfl, t6, t7, tb⟩
  · rintro b u ⟨rfl, h8, h9, hb9⟩
    simp only [Act.put, List.setIfInBounds_toArray, List.set_cons_zero, List.set_cons_succ]
    have hbel9 := hbel0.trans (hb9.mono hbel0.size)
    clear h6 h7 hb6
    go_wp2_with (first
      | (refine wpList_loadA (o := ⟨some 17, _, _, _, _, _⟩) (by rfl) 24 (.tmp 5) (by rfl) (g6) (by rfl) aggWord h8 (wcs_len _) ?_)
      | (refine wpList_loadA (o := ⟨some 18, _, _, _, _, _⟩) (by rfl) 24 (.tmp 6) (by rfl) (g7) (by rfl) aggWord h9 (wcs_len _) ?_)
      | (go_at_call 70; (with_reducible refine (wcmp_l (flip N) (flip M) (flip_lt N hN) (flip_lt M hM) _).mono ?_); rintro e w5 ⟨rfl, b5⟩; have hbel5 := hbel9.trans (b5.mono hbel9.size)))
    go_ret
    exact ⟨rfl, hbel5⟩
end Go.Proofs.Ytgmdbleeagfhpaa
