/- The reference's WExp. -/
import Derived.Test.YtbilninjiklpaaaWord17
import Derived.Test.YtbilninjiklpaaaTurn2
namespace Go.Proofs.Ytbilninjiklpaaa
open Go.RowKit
structure Fr4 (w : World) (N M g X g2 Y : Nat) (u : World) : Prop where
  b : Blk 24 u w.heap.size (wcs N)
  d : Blk 24 u (w.heap.size + 1) (wcs M)
  z : Blk 24 u (w.heap.size + 2) z4
  o : Blk 24 u g (wcs X)
  p : Blk 24 u g2 (wcs Y)
  bel : Below w.heap.size w u
theorem Fr4.kept {w u u' : World} {N M g X g2 Y : Nat} (h : Fr4 w N M g X g2 Y u) (hb : Below u.heap.size u u') : Fr4 w N M g X g2 Y u' :=
  ⟨h.b.kept hb, h.d.kept hb, h.z.kept hb, h.o.kept hb, h.p.kept hb, h.bel.trans (hb.mono h.bel.size)⟩
theorem Fr4.putO {w u u' : World} {N M g X g2 Y X' : Nat} (h : Fr4 w N M g X g2 Y u) (hg : w.heap.size + 3 ≤ g) (hne : g ≠ g2) (ho : Blk 24 u' g (wcs X')) (hb : Below g u u') (hr : u.grownBy u' (some g)) : Fr4 w N M g X' g2 Y u' :=
  ⟨h.b.grown hr (by simp; omega), h.d.grown hr (by simp; omega), h.z.grown hr (by simp; omega), ho, h.p.grown hr (by simpa using hne), h.bel.trans (hb.mono (by omega))⟩
theorem Fr4.putP {w u u' : World} {N M g X g2 Y Y' : Nat} (h : Fr4 w N M g X g2 Y u) (hg : w.heap.size + 3 ≤ g2) (hne : g ≠ g2) (hp : Blk 24 u' g2 (wcs Y')) (hb : Below g2 u u') (hr : u.grownBy u' (some g2)) : Fr4 w N M g X g2 Y' u' :=
  ⟨h.b.grown hr (by simp; omega), h.d.grown hr (by simp; omega), h.z.grown hr (by simp; omega), h.o.grown hr (by simpa using (Ne.symm hne)), hp, h.bel.trans (hb.mono (by omega))⟩
set_option maxHeartbeats 400000 in
set_option maxRecDepth 100000 in
theorem wexp_any (N M : Nat) (hN : N < W256) (hM : M < W256) (w : World) :
    Calls Try.prog 36 #[wv N, wv M] w fun e w' => e = .returned (wv (pw N M)) ∧ Below w.heap.size w w' := by
  obtain ⟨hb0, hd0, hz0, hbel0⟩ := box3 w N M
  obtain ⟨w1, hw1⟩ : ∃ w1, w1 = ((w.alloc (.cells (wcs N).toArray 24)).alloc (.cells (wcs M).toArray 24)).alloc (.cells z4.toArray 24) := ⟨_, rfl⟩
  rw [← hw1] at hb0 hd0 hz0 hbel0
  have hs1 : w1.heap.size = w.heap.size + 3 := by rw [hw1]; simp
  show Calls Try.prog 36 #[.agg (wcs N).toArray, .agg (wcs M).toArray] w _
  have Hw1 := Lib.hid hw1
  have Hs1 := Lib.hid hs1
  clear hw1 hs1
  have k0 := Beh.cell (hb0.wat 0 (by omega))
  have k1 := Beh.cell (hb0.wat 1 (by omega))
  have k2 := Beh.cell (hb0.wat 2 (by omega))
  have k3 := Beh.cell (hb0.wat 3 (by omega))
  go_enter Try.func36, Try.ntmps36
  go_wp2
  rw [show ((w.alloc (.cells (wcs N).toArray 24)).alloc (.cells (wcs M).toArray 24)).alloc (.cells #[.int .u64 0, .int .u64 0, .int .u64 0, .int .u64 0] 24) = w1 from by rw [Hw1.out]; rfl]
  clear Hw1
  refine wp_region_via (fun a b w' => ∃ g5 g6, b = (((a.put (some 9) (.agg (wcs N).toArray)).put (some 8) (.agg (wcs 1).toArray)).put (some 5) (.pointer (some ⟨g5, 0, none⟩))).put (some 6) (.pointer (some ⟨g6, 0, none⟩)) ∧ g5 ≠ g6 ∧ w1.heap.size ≤ g5 ∧ w1.heap.size ≤ g6 ∧ Blk 24 w' g5 (wcs 1) ∧ Blk 24 w' g6 (wcs N) ∧ Below w1.heap.size w1 w') ?_ ?_
  · refine wp_region_h (Beh w1) (by kernel_rfl) ?_; intro u0 hw2; simp only [List.length_cons, List.length_nil, Nat.reduceAdd, List.replicate_succ, List.replicate_zero]
    have hS0 : Beh w1 u0 := by rw [hw2]; exact (Below.refl _ _).drew
    clear hw2
    (refine wpH_take 1 (by rfl) (by kernel_rfl) (by intro _ _ _ h; first | exact h | (cases h.1)) (by intro _ _ _ _ h; first | exact h | (cases h.1)) (by assumption) (fun K hK => ?_); simp only [List.setIfInBounds_toArray, List.set_cons_zero, List.set_cons_succ] at hK; go_simp; first | (refine hK _ ?_; clear hK K) | (apply Exists.intro; refine ⟨fun _ => rfl, hK _ ?_⟩; clear hK K))
    clear k0 k1 k2 k3
    refine wpH_all [0, 2, 3] (by kernel_rfl) (by simp) ?_
    intro i hi
    simp only [List.mem_cons, List.not_mem_nil, or_false] at hi
    rcases hi with rfl | rfl | rfl
    · (refine brH_of (i := 0) (by rfl) (fun K hK => ?_); simp only [List.setIfInBounds_toArray, List.set_cons_zero, List.set_cons_succ] at hK; go_simp)
      (with_reducible refine (wint_one _).mono ?_)
      rintro e u1 ⟨rfl, b⟩
      have hS1 : Beh w1 u1 := Below.trans hS0 (b.mono hS0.size)
      refine hK _ _ hS1 ?_; clear hK K b
      refine wpH_all [2, 3] (by kernel_rfl) (by simp) ?_
      intro i hi
      simp only [List.mem_cons, List.not_mem_nil, or_false] at hi
      rcases hi with rfl | rfl
      · (refine brH_of (i := 2) (by rfl) (fun K hK => ?_); simp only [List.setIfInBounds_toArray, List.set_cons_zero, List.set_cons_succ] at hK; go_simp)
        have h5 := Blk.new u1 24 z4
        have q5 : w1.heap.size ≤ u1.heap.size := hS1.size
        have hS2 : Beh w1 (u1.alloc (.cells z4.toArray 24)) := Below.alloc hS1 hS1.size _
        refine hK _ _ hS2 ?_; clear hK K
        obtain ⟨u2, hu2⟩ : ∃ x, x = u1.alloc (.cells z4.toArray 24) := ⟨_, rfl⟩
        try rw [← hu2] at h5
        try rw [← hu2] at h6
        rw [← hu2] at hS2
        rw [show u1.alloc (.cells #[.int .u64 0, .int .u64 0, .int .u64 0, .int .u64 0] 24) = u2 from hu2.symm]
        clear hu2
        (refine wpH_only 3 (by rfl) (by kernel_rfl) (fun K hK => ?_); simp only [List.setIfInBounds_toArray, List.set_cons_zero, List.set_cons_succ] at hK; go_simp)
        have h6 := Blk.new u2 24 z4
        have q6 : w1.heap.size ≤ u2.heap.size := hS2.size
        have hS3 : Beh w1 (u2.alloc (.cells z4.toArray 24)) := Below.alloc hS2 hS2.size _
        have hne : u1.heap.size ≠ u2.heap.size := by have := h5.lt; omega
        replace h5 := h5.alloc (.cells z4.toArray 24)
        refine hK _ _ hS3 ?_; clear hK K
        obtain ⟨u3, hu3⟩ : ∃ x, x = u2.alloc (.cells z4.toArray 24) := ⟨_, rfl⟩
        try rw [← hu3] at h5
        try rw [← hu3] at h6
        rw [← hu3] at hS3
        rw [show u2.alloc (.cells #[.int .u64 0, .int .u64 0, .int .u64 0, .int .u64 0] 24) = u3 from hu3.symm]
        clear hu3
        refine wpH_only 4 (by rfl) (by kernel_rfl) (fun K hK => ?_)
        refine step_storeA (by rfl) 24 (.tmp 5) (.tmp 8) (by rfl) u1.heap.size (wcs 1) (by rfl) (by rfl) aggWord h5 (wcs_len _) (by rfl) (wcs_one _) (fun v1 o5 c5 r5 => ?_)
        have T1 : Beh w1 v1 := Below.trans hS3 (c5.mono q5)
        refine hK _ _ T1 ?_; clear hK K
        refine wpH_only 5 (by rfl) (by kernel_rfl) (fun K hK => ?_)
        refine step_storeA (by rfl) 24 (.tmp 6) (.tmp 9) (by rfl) u2.heap.size (wcs N) (by rfl) (by rfl) aggWord (h6.grown r5 (by simpa using hne)) (wcs_len _) (by rfl) (wcs_one _) (fun v2 o6 c6 r6 => ?_)
        have T2 : Beh w1 v2 := Below.trans T1 (c6.mono q6)
        refine hK _ _ T2 ?_; clear hK K
        exact wpH_done (by kernel_rfl) ⟨rfl, u1.heap.size, u2.heap.size, rfl, hne, q5, q6, o5.grown r6 (by simpa using Ne.symm hne), o6, T2⟩
      · (refine brH_of (i := 3) (by rfl) (fun K hK => ?_); simp only [List.setIfInBounds_toArray, List.set_cons_zero, List.set_cons_succ] at hK; go_simp)
        have h6 := Blk.new u1 24 z4
        have q6 : w1.heap.size ≤ u1.heap.size := hS1.size
        have hS2 : Beh w1 (u1.alloc (.cells z4.toArray 24)) := Below.alloc hS1 hS1.size _
        refine hK _ _ hS2 ?_; clear hK K
        obtain ⟨u2, hu2⟩ : ∃ x, x = u1.alloc (.cells z4.toArray 24) := ⟨_, rfl⟩
        try rw [← hu2] at h5
        try rw [← hu2] at h6
        rw [← hu2] at hS2
        rw [show u1.alloc (.cells #[.int .u64 0, .int .u64 0, .int .u64 0, .int .u64 0] 24) = u2 from hu2.symm]
        clear hu2
        (refine wpH_only 2 (by rfl) (by kernel_rfl) (fun K hK => ?_); simp only [List.setIfInBounds_toArray, List.set_cons_zero, List.set_cons_succ] at hK; go_simp)
        have h5 := Blk.new u2 24 z4
        have q5 : w1.heap.size ≤ u2.heap.size := hS2.size
        have hS3 : Beh w1 (u2.alloc (.cells z4.toArray 24)) := Below.alloc hS2 hS2.size _
        have hne : u2.heap.size ≠ u1.heap.size := by have := h6.lt; omega
        replace h6 := h6.alloc (.cells z4.toArray 24)
        refine hK _ _ hS3 ?_; clear hK K
        obtain ⟨u3, hu3⟩ : ∃ x, x = u2.alloc (.cells z4.toArray 24) := ⟨_, rfl⟩
        try rw [← hu3] at h5
        try rw [← hu3] at h6
        rw [← hu3] at hS3
        rw [show u2.alloc (.cells #[.int .u64 0, .int .u64 0, .int .u64 0, .int .u64 0] 24) = u3 from hu3.symm]
        clear hu3
        refine wpH_only 4 (by rfl) (by kernel_rfl) (fun K hK => ?_)
        refine step_storeA (by rfl) 24 (.tmp 5) (.tmp 8) (by rfl) u2.heap.size (wcs 1) (by rfl) (by rfl) aggWord h5 (wcs_len _) (by rfl) (wcs_one _) (fun v1 o5 c5 r5 => ?_)
        have T1 : Beh w1 v1 := Below.trans hS3 (c5.mono q5)
        refine hK _ _ T1 ?_; clear hK K
        refine wpH_only 5 (by rfl) (by kernel_rfl) (fun K hK => ?_)
        refine step_storeA (by rfl) 24 (.tmp 6) (.tmp 9) (by rfl) u1.heap.size (wcs N) (by rfl) (by rfl) aggWord (h6.grown r5 (by simpa using hne)) (wcs_len _) (by rfl) (wcs_one _) (fun v2 o6 c6 r6 => ?_)
        have T2 : Beh w1 v2 := Below.trans T1 (c6.mono q6)
        refine hK _ _ T2 ?_; clear hK K
        exact wpH_done (by kernel_rfl) ⟨rfl, u2.heap.size, u1.heap.size, rfl, hne, q5, q6, o5.grown r6 (by simpa using Ne.symm hne), o6, T2⟩
    · (refine brH_of (i := 2) (by rfl) (fun K hK => ?_); simp only [List.setIfInBounds_toArray, List.set_cons_zero, List.set_cons_succ] at hK; go_simp)
      have h5 := Blk.new u0 24 z4
      have q5 : w1.heap.size ≤ u0.heap.size := hS0.size
      have hS1 : Beh w1 (u0.alloc (.cells z4.toArray 24)) := Below.alloc hS0 hS0.size _
      refine hK _ _ hS1 ?_; clear hK K
      obtain ⟨u1, hu1⟩ : ∃ x, x = u0.alloc (.cells z4.toArray 24) := ⟨_, rfl⟩
      try rw [← hu1] at h5
      try rw [← hu1] at h6
      rw [← hu1] at hS1
      rw [show u0.alloc (.cells #[.int .u64 0, .int .u64 0, .int .u64 0, .int .u64 0] 24) = u1 from hu1.symm]
      clear hu1
      refine wpH_all [0, 3] (by kernel_rfl) (by simp) ?_
      intro i hi
      simp only [List.mem_cons, List.not_mem_nil, or_false] at hi
      rcases hi with rfl | rfl
      · (refine brH_of (i := 0) (by rfl) (fun K hK => ?_); simp only [List.setIfInBounds_toArray, List.set_cons_zero, List.set_cons_succ] at hK; go_simp)
        (with_reducible refine (wint_one _).mono ?_)
        rintro e u2 ⟨rfl, b⟩
        have hS2 : Beh w1 u2 := Below.trans hS1 (b.mono hS1.size)
        replace h5 := h5.kept b
        refine hK _ _ hS2 ?_; clear hK K b
        (refine wpH_only 3 (by rfl) (by kernel_rfl) (fun K hK => ?_); simp only [List.setIfInBounds_toArray, List.set_cons_zero, List.set_cons_succ] at hK; go_simp)
        have h6 := Blk.new u2 24 z4
        have q6 : w1.heap.size ≤ u2.heap.size := hS2.size
        have hS3 : Beh w1 (u2.alloc (.cells z4.toArray 24)) := Below.alloc hS2 hS2.size _
        have hne : u0.heap.size ≠ u2.heap.size := by have := h5.lt; omega
        replace h5 := h5.alloc (.cells z4.toArray 24)
        refine hK _ _ hS3 ?_; clear hK K
        obtain ⟨u3, hu3⟩ : ∃ x, x = u2.alloc (.cells z4.toArray 24) := ⟨_, rfl⟩
        try rw [← hu3] at h5
        try rw [← hu3] at h6
        rw [← hu3] at hS3
        rw [show u2.alloc (.cells #[.int .u64 0, .int .u64 0, .int .u64 0, .int .u64 0] 24) = u3 from hu3.symm]
        clear hu3
        refine wpH_only 4 (by rfl) (by kernel_rfl) (fun K hK => ?_)
        refine step_storeA (by rfl) 24 (.tmp 5) (.tmp 8) (by rfl) u0.heap.size (wcs 1) (by rfl) (by rfl) aggWord h5 (wcs_len _) (by rfl) (wcs_one _) (fun v1 o5 c5 r5 => ?_)
        have T1 : Beh w1 v1 := Below.trans hS3 (c5.mono q5)
        refine hK _ _ T1 ?_; clear hK K
        refine wpH_only 5 (by rfl) (by kernel_rfl) (fun K hK => ?_)
        refine step_storeA (by rfl) 24 (.tmp 6) (.tmp 9) (by rfl) u2.heap.size (wcs N) (by rfl) (by rfl) aggWord (h6.grown r5 (by simpa using hne)) (wcs_len _) (by rfl) (wcs_one _) (fun v2 o6 c6 r6 => ?_)
        have T2 : Beh w1 v2 := Below.trans T1 (c6.mono q6)
        refine hK _ _ T2 ?_; clear hK K
        exact wpH_done (by kernel_rfl) ⟨rfl, u0.heap.size, u2.heap.size, rfl, hne, q5, q6, o5.grown r6 (by simpa using Ne.symm hne), o6, T2⟩
      · (refine brH_of (i := 3) (by rfl) (fun K hK => ?_); simp only [List.setIfInBounds_toArray, List.set_cons_zero, List.set_cons_succ] at hK; go_simp)
        have h6 := Blk.new u1 24 z4
        have q6 : w1.heap.size ≤ u1.heap.size := hS1.size
        have hS2 : Beh w1 (u1.alloc (.cells z4.toArray 24)) := Below.alloc hS1 hS1.size _
        have hne : u0.heap.size ≠ u1.heap.size := by have := h5.lt; omega
        replace h5 := h5.alloc (.cells z4.toArray 24)
        refine hK _ _ hS2 ?_; clear hK K
        obtain ⟨u2, hu2⟩ : ∃ x, x = u1.alloc (.cells z4.toArray 24) := ⟨_, rfl⟩
        try rw [← hu2] at h5
        try rw [← hu2] at h6
        rw [← hu2] at hS2
        rw [show u1.alloc (.cells #[.int .u64 0, .int .u64 0, .int .u64 0, .int .u64 0] 24) = u2 from hu2.symm]
        clear hu2
        (refine wpH_only 0 (by rfl) (by kernel_rfl) (fun K hK => ?_); simp only [List.setIfInBounds_toArray, List.set_cons_zero, List.set_cons_succ] at hK; go_simp)
        (with_reducible refine (wint_one _).mono ?_)
        rintro e u3 ⟨rfl, b⟩
        have hS3 : Beh w1 u3 := Below.trans hS2 (b.mono hS2.size)
        replace h5 := h5.kept b
        replace h6 := h6.kept b
        refine hK _ _ hS3 ?_; clear hK K b
        refine wpH_only 4 (by rfl) (by kernel_rfl) (fun K hK => ?_)
        refine step_storeA (by rfl) 24 (.tmp 5) (.tmp 8) (by rfl) u0.heap.size (wcs 1) (by rfl) (by rfl) aggWord h5 (wcs_len _) (by rfl) (wcs_one _) (fun v1 o5 c5 r5 => ?_)
        have T1 : Beh w1 v1 := Below.trans hS3 (c5.mono q5)
        refine hK _ _ T1 ?_; clear hK K
        refine wpH_only 5 (by rfl) (by kernel_rfl) (fun K hK => ?_)
        refine step_storeA (by rfl) 24 (.tmp 6) (.tmp 9) (by rfl) u1.heap.size (wcs N) (by rfl) (by rfl) aggWord (h6.grown r5 (by simpa using hne)) (wcs_len _) (by rfl) (wcs_one _) (fun v2 o6 c6 r6 => ?_)
        have T2 : Beh w1 v2 := Below.trans T1 (c6.mono q6)
        refine hK _ _ T2 ?_; clear hK K
        exact wpH_done (by kernel_rfl) ⟨rfl, u0.heap.size, u1.heap.size, rfl, hne, q5, q6, o5.grown r6 (by simpa using Ne.symm hne), o6, T2⟩
    · (refine brH_of (i := 3) (by rfl) (fun K hK => ?_); simp only [List.setIfInBounds_toArray, List.set_cons_zero, List.set_cons_succ] at hK; go_simp)
      have h6 := Blk.new u0 24 z4
      have q6 : w1.heap.size ≤ u0.heap.size := hS0.size
      have hS1 : Beh w1 (u0.alloc (.cells z4.toArray 24)) := Below.alloc hS0 hS0.size _
      refine hK _ _ hS1 ?_; clear hK K
      obtain ⟨u1, hu1⟩ : ∃ x, x = u0.alloc (.cells z4.toArray 24) := ⟨_, rfl⟩
      try rw [← hu1] at h5
      try rw [← hu1] at h6
      rw [← hu1] at hS1
      rw [show u0.alloc (.cells #[.int .u64 0, .int .u64 0, .int .u64 0, .int .u64 0] 24) = u1 from hu1.symm]
      clear hu1
      refine wpH_all [0, 2] (by kernel_rfl) (by simp) ?_
      intro i hi
      simp only [List.mem_cons, List.not_mem_nil, or_false] at hi
      rcases hi with rfl | rfl
      · (refine brH_of (i := 0) (by rfl) (fun K hK => ?_); simp only [List.setIfInBounds_toArray, List.set_cons_zero, List.set_cons_succ] at hK; go_simp)
        (with_reducible refine (wint_one _).mono ?_)
        rintro e u2 ⟨rfl, b⟩
        have hS2 : Beh w1 u2 := Below.trans hS1 (b.mono hS1.size)
        replace h6 := h6.kept b
        refine hK _ _ hS2 ?_; clear hK K b
        (refine wpH_only 2 (by rfl) (by kernel_rfl) (fun K hK => ?_); simp only [List.setIfInBounds_toArray, List.set_cons_zero, List.set_cons_succ] at hK; go_simp)
        have h5 := Blk.new u2 24 z4
        have q5 : w1.heap.size ≤ u2.heap.size := hS2.size
        have hS3 : Beh w1 (u2.alloc (.cells z4.toArray 24)) := Below.alloc hS2 hS2.size _
        have hne : u2.heap.size ≠ u0.heap.size := by have := h6.lt; omega
        replace h6 := h6.alloc (.cells z4.toArray 24)
        refine hK _ _ hS3 ?_; clear hK K
        obtain ⟨u3, hu3⟩ : ∃ x, x = u2.alloc (.cells z4.toArray 24) := ⟨_, rfl⟩
        try rw [← hu3] at h5
        try rw [← hu3] at h6
        rw [← hu3] at hS3
        rw [show u2.alloc (.cells #[.int .u64 0, .int .u64 0, .int .u64 0, .int .u64 0] 24) = u3 from hu3.symm]
        clear hu3
        refine wpH_only 4 (by rfl) (by kernel_rfl) (fun K hK => ?_)
        refine step_storeA (by rfl) 24 (.tmp 5) (.tmp 8) (by rfl) u2.heap.size (wcs 1) (by rfl) (by rfl) aggWord h5 (wcs_len _) (by rfl) (wcs_one _) (fun v1 o5 c5 r5 => ?_)
        have T1 : Beh w1 v1 := Below.trans hS3 (c5.mono q5)
        refine hK _ _ T1 ?_; clear hK K
        refine wpH_only 5 (by rfl) (by kernel_rfl) (fun K hK => ?_)
        refine step_storeA (by rfl) 24 (.tmp 6) (.tmp 9) (by rfl) u0.heap.size (wcs N) (by rfl) (by rfl) aggWord (h6.grown r5 (by simpa using hne)) (wcs_len _) (by rfl) (wcs_one _) (fun v2 o6 c6 r6 => ?_)
        have T2 : Beh w1 v2 := Below.trans T1 (c6.mono q6)
        refine hK _ _ T2 ?_; clear hK K
        exact wpH_done (by kernel_rfl) ⟨rfl, u2.heap.size, u0.heap.size, rfl, hne, q5, q6, o5.grown r6 (by simpa using Ne.symm hne), o6, T2⟩
      · (refine brH_of (i := 2) (by rfl) (fun K hK => ?_); simp only [List.setIfInBounds_toArray, List.set_cons_zero, List.set_cons_succ] at hK; go_simp)
        have h5 := Blk.new u1 24 z4
        have q5 : w1.heap.size ≤ u1.heap.size := hS1.size
        have hS2 : Beh w1 (u1.alloc (.cells z4.toArray 24)) := Below.alloc hS1 hS1.size _
        have hne : u1.heap.size ≠ u0.heap.size := by have := h6.lt; omega
        replace h6 := h6.alloc (.cells z4.toArray 24)
        refine hK _ _ hS2 ?_; clear hK K
        obtain ⟨u2, hu2⟩ : ∃ x, x = u1.alloc (.cells z4.toArray 24) := ⟨_, rfl⟩
        try rw [← hu2] at h5
        try rw [← hu2] at h6
        rw [← hu2] at hS2
        rw [show u1.alloc (.cells #[.int .u64 0, .int .u64 0, .int .u64 0, .int .u64 0] 24) = u2 from hu2.symm]
        clear hu2
        (refine wpH_only 0 (by rfl) (by kernel_rfl) (fun K hK => ?_); simp only [List.setIfInBounds_toArray, List.set_cons_zero, List.set_cons_succ] at hK; go_simp)
        (with_reducible refine (wint_one _).mono ?_)
        rintro e u3 ⟨rfl, b⟩
        have hS3 : Beh w1 u3 := Below.trans hS2 (b.mono hS2.size)
        replace h5 := h5.kept b
        replace h6 := h6.kept b
        refine hK _ _ hS3 ?_; clear hK K b
        refine wpH_only 4 (by rfl) (by kernel_rfl) (fun K hK => ?_)
        refine step_storeA (by rfl) 24 (.tmp 5) (.tmp 8) (by rfl) u1.heap.size (wcs 1) (by rfl) (by rfl) aggWord h5 (wcs_len _) (by rfl) (wcs_one _) (fun v1 o5 c5 r5 => ?_)
        have T1 : Beh w1 v1 := Below.trans hS3 (c5.mono q5)
        refine hK _ _ T1 ?_; clear hK K
        refine wpH_only 5 (by rfl) (by kernel_rfl) (fun K hK => ?_)
        refine step_storeA (by rfl) 24 (.tmp 6) (.tmp 9) (by rfl) u0.heap.size (wcs N) (by rfl) (by rfl) aggWord (h6.grown r5 (by simpa using hne)) (wcs_len _) (by rfl) (wcs_one _) (fun v2 o6 c6 r6 => ?_)
        have T2 : Beh w1 v2 := Below.trans T1 (c6.mono q6)
        refine hK _ _ T2 ?_; clear hK K
        exact wpH_done (by kernel_rfl) ⟨rfl, u1.heap.size, u0.heap.size, rfl, hne, q5, q6, o5.grown r6 (by simpa using Ne.symm hne), o6, T2⟩
  · rintro b w' ⟨g5, g6, rfl, hne, q5, q6, h5, h6, hb6⟩
    clear k0 k1 k2 k3
    simp only [Act.put, List.setIfInBounds_toArray, List.set_cons_zero, List.set_cons_succ]
    have hF0 : Fr4 w N M g5 1 g6 N w' := ⟨hb0.below hb6 hb0.lt, hd0.below hb6 hd0.lt, hz0.below hb6 hz0.lt, h5, h6, hbel0.trans (hb6.mono hbel0.size)⟩
    have hg5 : w.heap.size + 3 ≤ g5 := by have := Hs1.out; omega
    have hg6 : w.heap.size + 3 ≤ g6 := by have := Hs1.out; omega
    have H5 := Lib.hid hg5
    have H6 := Lib.hid hg6
    have Hne := Lib.hid hne
    clear q5 q6 h5 h6 hb6 hbel0 hz0 hd0 hb0 Hs1 hg5 hg6 hne
    go_wp2
    go_loopw [10] (fun ix wr => ∃ i : Nat, i ≤ 256 ∧ ix = .int .i64 (i : Int) ∧ Fr4 w N M g5 (pw N (M % 2 ^ i)) g6 (pw N (2 ^ i)) wr) (fun i _ => 256 - (intOf i).toNat)
    case atStart => exact ⟨0, by omega, rfl, by rw [Nat.pow_zero, Nat.mod_one, pw_zero, pw_one N hN]; exact hF0⟩
    case round =>
      clear hF0
      obtain ⟨i, hi, rfl, hF⟩ := hrel
      by_cases hlt : i < 256
      · have hii : (i : Int) < 256 := by omega
        have hmod : M % 2 ^ (i + 1) = M % 2 ^ i + (if M.testBit i then 2 ^ i else 0) := by
          rw [Nat.pow_succ, Nat.mod_mul, Nat.testBit_eq_decide_div_mod_eq]
          rcases Nat.mod_two_eq_zero_or_one (M / 2 ^ i) with h | h <;> simp [h]
        have hd1 := mul_pw N (2 ^ i) (2 ^ i)
        have hd2 := mul_pw N (M % 2 ^ i) (2 ^ i)
        rw [← Nat.two_mul, Nat.mul_comm, ← Nat.pow_succ] at hd1
        have hXl := pw_lt N (M % 2 ^ i)
        have hYl := pw_lt N (2 ^ i)
        obtain ⟨X, hX⟩ : ∃ X, X = pw N (M % 2 ^ i) := ⟨_, rfl⟩
        obtain ⟨Y, hY⟩ : ∃ Y, Y = pw N (2 ^ i) := ⟨_, rfl⟩
        rw [← hX] at hd2
        rw [← hY] at hd1 hd2
        rw [← hX, ← hY] at hF
        rw [← hX] at hXl
        rw [← hY] at hYl
        have Hm := Lib.hid hmod
        have Hd1 := Lib.hid hd1
        have Hd2 := Lib.hid hd2
        have HX := Lib.hid hX
        clear hmod hd1 hd2 hX hY
        cases hbit : M.testBit i with
        | true =>
          go_wp2_with (first
            | (refine wpList_loadA (o := ⟨some 13, _, _, _, _, _⟩) (by rfl) 24 (.tmp 3) (by rfl) (w.heap.size + 1) (by rfl) aggWord hF.d (wcs_len _) ?_)
            | (go_at_call 68; (with_reducible refine (wbit_l M i hlt true hbit _).mono ?_); rintro e w3 ⟨rfl, b3⟩; have hF3 := hF.kept b3)
            | (refine wpList_loadA (o := ⟨some 16, _, _, _, _, _⟩) (by rfl) 24 (.tmp 5) (by rfl) (g5) (by rfl) aggWord hF3.o (wcs_len _) ?_)
            | (refine wpList_loadA (o := ⟨some 17, _, _, _, _, _⟩) (by rfl) 24 (.tmp 6) (by rfl) (g6) (by rfl) aggWord hF3.p (wcs_len _) ?_)
            | (go_at_call 54; (with_reducible refine (wmul_l X Y hYl _).mono ?_); rintro e w4 ⟨rfl, b4⟩; have hF4 := hF3.kept b4)
            | (refine wpList_storeA (by rfl) 24 (.tmp 5) (.tmp 18) (by rfl) (g5) (wcs (mulN X Y)) (by rfl) (by rfl) aggWord hF4.o (wcs_len _) (by first | exact wcs_len _ | rfl) (wcs_one _) (Below.refl _ _) (Nat.le_refl _) ?_; intro w5 ho5 b5 r5; have hF5 := hF4.putO H5.out Hne.out ho5 b5 r5)
            | (refine wpList_loadA (o := ⟨some 19, _, _, _, _, _⟩) (by rfl) 24 (.tmp 6) (by rfl) (g6) (by rfl) aggWord hF5.p (wcs_len _) ?_)
            | (refine wpList_loadA (o := ⟨some 20, _, _, _, _, _⟩) (by rfl) 24 (.tmp 6) (by rfl) (g6) (by rfl) aggWord hF5.p (wcs_len _) ?_)
            | (go_at_call 54; (with_reducible refine (wmul_l Y Y hYl _).mono ?_); rintro e w6 ⟨rfl, b6⟩; have hF6 := hF5.kept b6)
            | (refine wpList_storeA (by rfl) 24 (.tmp 6) (.tmp 21) (by rfl) (g6) (wcs (mulN Y Y)) (by rfl) (by rfl) aggWord hF6.p (wcs_len _) (by first | exact wcs_len _ | rfl) (wcs_one _) (Below.refl _ _) (Nat.le_refl _) ?_; intro w7 hp7 b7 r7; have hF7 := hF6.putP H6.out Hne.out hp7 b7 r7))
          go_roundw
          case rel => exact ⟨i + 1, by omega, by go_num, by rw [Hm.out, if_pos hbit, ← Hd2.out]; rw [Hd1.out] at hF7; exact hF7⟩
          case measure => simp [intOf]; omega
        | false =>
          go_wp2_with (first
            | (refine wpList_loadA (o := ⟨some 13, _, _, _, _, _⟩) (by rfl) 24 (.tmp 3) (by rfl) (w.heap.size + 1) (by rfl) aggWord hF.d (wcs_len _) ?_)
            | (go_at_call 68; (with_reducible refine (wbit_l M i hlt false hbit _).mono ?_); rintro e w3 ⟨rfl, b3⟩; have hF5 := hF.kept b3)
            | (refine wpList_loadA (o := ⟨some 19, _, _, _, _, _⟩) (by rfl) 24 (.tmp 6) (by rfl) (g6) (by rfl) aggWord hF5.p (wcs_len _) ?_)
            | (refine wpList_loadA (o := ⟨some 20, _, _, _, _, _⟩) (by rfl) 24 (.tmp 6) (by rfl) (g6) (by rfl) aggWord hF5.p (wcs_len _) ?_)
            | (go_at_call 54; (with_reducible refine (wmul_l Y Y hYl _).mono ?_); rintro e w6 ⟨rfl, b6⟩; have hF6 := hF5.kept b6)
            | (refine wpList_storeA (by rfl) 24 (.tmp 6) (.tmp 21) (by rfl) (g6) (wcs (mulN Y Y)) (by rfl) (by rfl) aggWord hF6.p (wcs_len _) (by first | exact wcs_len _ | rfl) (wcs_one _) (Below.refl _ _) (Nat.le_refl _) ?_; intro w7 hp7 b7 r7; have hF7 := hF6.putP H6.out Hne.out hp7 b7 r7))
          go_roundw
          case rel => exact ⟨i + 1, by omega, by go_num, by rw [Hm.out, hbit, if_neg (by simp)]; rw [Hd1.out, HX.out] at hF7; exact hF7⟩
          case measure => simp [intOf]; omega
      · obtain rfl : i = 256 := by omega
        have hfin : M % 2 ^ 256 = M := Nat.mod_eq_of_lt hM
        have Hfin := Lib.hid hfin
        clear hfin
        go_wp2_with (first
          | (refine wpList_loadA (o := ⟨some 23, _, _, _, _, _⟩) (by rfl) 24 (.tmp 5) (by rfl) (g5) (by rfl) aggWord hF.o (wcs_len _) ?_)
          | (refine wpList_storeA (by rfl) 24 (.tmp 4) (.tmp 23) (by rfl) (w.heap.size + 2) (wcs (pw N (M % 2 ^ 256))) (by rfl) (by rfl) aggWord hF.z (wcs_len _) (by first | exact wcs_len _ | rfl) (wcs_one _) (Below.refl _ _) (Nat.le_refl _) ?_; intro w7 hb7 b7 g7; have hbel7 := hF.bel.trans (b7.mono (by omega))))
        exact bodyPost_ret (results_blk rfl _ _ (w.heap.size + 2) aggWord hb7 (wcs_len _) rfl) rfl ⟨by rw [Hfin.out]; rfl, hbel7⟩
end Go.Proofs.Ytbilninjiklpaaa
