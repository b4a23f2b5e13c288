/- The reference's XNumber. -/
import Derived.Test.YtgmdbleeagfhpaaHexN3
import Derived.Test.YtgmdbleeagfhpaaRest1
import Derived.Test.YtgmdbleeagfhpaaTurn2
import Derived.Test.YtgmdbleeagfhpaaHeld
set_option linter.unusedSimpArgs false
set_option linter.unusedVariables false
namespace Go.Proofs.Ytgmdbleeagfhpaa
open Go.RowKit
theorem strip_len (l : List UInt8) : (strip l).length ≤ l.length := by
  induction l using strip.induct with
  | case1 y l ih =>
    have hs : strip (0 :: y :: l) = strip (y :: l) := by rw [strip, if_pos rfl]
    rw [hs]; simp at ih ⊢; omega
  | case2 x y l hx =>
    have hs : strip (x :: y :: l) = x :: y :: l := by rw [strip, if_neg hx]
    rw [hs]; exact Nat.le_refl _
  | case3 l hl =>
    have hs : strip l = l := by
      match l, hl with
      | [], _ => rfl
      | [x], _ => rfl
      | x :: y :: l, hl => exact (hl x y l rfl).elim
    rw [hs]; exact Nat.le_refl _
theorem numD_64 (N : Nat) (hN : N < W256) : (numD N).length ≤ 64 := by
  rw [← strip_word N hN]
  have := strip_len (halvesL (wb N))
  rw [halves_len, wb_len] at this; exact this
theorem dig_one (r : Nat) (h : r < 16) : ((⟨#[48, 49, 50, 51, 52, 53, 54, 55, 56, 57, 97, 98, 99, 100, 101, 102]⟩ : ByteArray).extract r (r + 1)).data.toList = [hexd (UInt8.ofNat r)] := by
  have : ∀ r : Fin 16, ((⟨#[48, 49, 50, 51, 52, 53, 54, 55, 56, 57, 97, 98, 99, 100, 101, 102]⟩ : ByteArray).extract r.val (r.val + 1)).data.toList = [hexd (UInt8.ofNat r.val)] := by decide +kernel
  exact this ⟨r, h⟩
set_option maxHeartbeats 1000000 in
set_option maxRecDepth 100000 in
theorem xnumber_any (N : Nat) (hN : N < W256) (w : World) : Calls Try.prog 52 #[wv N] w fun e w' => e = .returned (str (numS N)) ∧ Below w.heap.size w w' := by
  have hb0 := boxW w N
  have hbel0 : Below w.heap.size w (w.alloc (.cells (wcs N).toArray 24)) := (Below.refl _ _).alloc (Nat.le_refl _) _
  have h64 := numD_64 N hN
  have H64 := Lib.hid h64
  clear h64
  show Calls Try.prog 52 #[.agg (wcs N).toArray] w _
  go_enter Try.func52, Try.ntmps52
  go_wp2
  go_loopw [3] (fun v wr => ∃ (s : ByteArray) (X : Nat) (D : List UInt8), v = .string s ∧ s.data.toList = D.map hexd ∧ X < W256 ∧ numD N = numD X ++ D ∧ Blk 24 wr w.heap.size (wcs X) ∧ Below w.heap.size w wr) (fun v _ => 100 - strLen v)
  case atStart => exact ⟨_, N, [], rfl, rfl, hN, by simp, hb0, hbel0⟩
  case round =>
    clear hb0 hbel0
    obtain ⟨s, X, D, rfl, hs, hX, hD, hb, hbel⟩ := hrel
    have hlen : s.size = D.length := by
      show s.data.size = _
      rw [← Array.length_toList, hs, List.length_map]
    have hXl := numD_len X
    have hDl : D.length + 1 ≤ 64 := by
      have := H64.out
      rw [hD, List.length_append] at this
      omega
    obtain ⟨m, hm⟩ : ∃ m : Nat, m = 16 := ⟨_, rfl⟩
    obtain ⟨Q, hQ⟩ : ∃ Q, Q = X / 16 := ⟨_, rfl⟩
    obtain ⟨r, hr⟩ : ∃ r, r = X % 16 := ⟨_, rfl⟩
    have hQW : Q < W256 := by omega
    have hr16 : r < 16 := by omega
    have c1 : ∀ w, Calls Try.prog 84 #[.int .u64 16] w fun e w' => e = .returned (.agg (wcs m).toArray) ∧ Below w.heap.size w w' := fun w => by rw [hm]; exact wint_any 16 (by omega) w
    have c2 : ∀ w, Calls Try.prog 68 #[.agg (wcs X).toArray, .agg (wcs m).toArray] w fun e w' => e = .returned (.tuple #[.agg (wcs Q).toArray, .agg (wcs r).toArray]) ∧ Below w.heap.size w w' := by
      intro w
      have := wdivmod_any X m hX (by rw [hm]; unfold W256; omega) w
      have e1 : X / m = Q := by rw [hm, hQ]
      have e2 : modN X m = r := by rw [hm, hr]; exact if_neg (by omega)
      rw [e1, e2] at this
      exact this
    have C1 := Lib.hid c1
    have C2 := Lib.hid c2
    have HD := Lib.hid hD
    have Hs := Lib.hid hs
    have HQ := Lib.hid hQ
    have Hr := Lib.hid hr
    have Hlen := Lib.hid hlen
    have hsz : s.size ≤ 64 := by omega
    clear c1 c2 hD hs hQ hr hm hlen hXl
    go_wp2
    refine wp_region_via (fun a b w' => ∃ g4 g5, b = (((((((a.put (some 7) (.agg (wcs X).toArray)).put (some 8) (.agg (wcs m).toArray)).put (some 9) (.tuple #[.agg (wcs Q).toArray, .agg (wcs r).toArray])).put (some 6) (.tuple #[.agg (wcs Q).toArray, .agg (wcs r).toArray])).put (some 10) (.agg (wcs Q).toArray)).put (some 11) (.agg (wcs r).toArray)).put (some 4) (.pointer (some ⟨g4, 0, none⟩))).put (some 5) (.pointer (some ⟨g5, 0, none⟩)) ∧ g4 ≠ g5 ∧ wr.heap.size ≤ g4 ∧ wr.heap.size ≤ g5 ∧ Blk 24 w' g4 (wcs Q) ∧ Blk 24 w' g5 (wcs r) ∧ Below wr.heap.size wr w') ?_ ?_
    · refine wp_region_h ((fun u => Below wr.heap.size wr u)) (by kernel_rfl) ?_; intro u0 hu0; simp only [List.length_cons, List.length_nil, Nat.reduceAdd, List.replicate_succ, List.replicate_zero]
      have hS0 : Below wr.heap.size wr u0 := (by rw [hu0]; exact (Below.refl _ _).drew)
      clear hu0
      (refine wpH_take 0 (by rfl) (by kernel_rfl) (by intro _ _ _ h; first | exact h | (cases h.1)) (by intro _ _ _ _ h; first | exact h | (cases h.1)) (by assumption) (fun K hK => ?_); simp only [List.setIfInBounds_toArray, List.set_cons_zero, List.set_cons_succ] at hK; refine take_loadA (by rfl) 24 (.tmp 1) (by rfl) (w.heap.size) (by rfl) aggWord (fun u hu => Blk.below hb hu (Blk.lt hb)) (wcs_len _) (hK _ ?_); clear hK K; simp only [Act.put, List.getElem_toArray, List.getElem_cons_zero, List.getElem_cons_succ, List.setIfInBounds_toArray, List.set_cons_zero, List.set_cons_succ])
      refine wpH_all [1, 6, 7] (by kernel_rfl) (by simp) ?_
      intro i hi
      simp only [List.mem_cons, List.not_mem_nil, or_false] at hi
      rcases hi with rfl | rfl | rfl
      · (refine brH_of (i := 1) (by rfl) (fun K hK => ?_); simp only [List.setIfInBounds_toArray, List.set_cons_zero, List.set_cons_succ] at hK; go_simp)
        (with_reducible refine (C1.out _).mono ?_)
        rintro e u1 ⟨rfl, b⟩
        have hS1 : Below wr.heap.size wr u1 := Below.trans hS0 (b.mono (Below.size hS0))
        refine hK _ _ hS1 ?_; clear hK K b
        refine wpH_all [2, 6, 7] (by kernel_rfl) (by simp) ?_
        intro i hi
        simp only [List.mem_cons, List.not_mem_nil, or_false] at hi
        rcases hi with rfl | rfl | rfl
        · (refine brH_of (i := 2) (by rfl) (fun K hK => ?_); simp only [List.setIfInBounds_toArray, List.set_cons_zero, List.set_cons_succ] at hK; go_simp)
          (with_reducible refine (C2.out _).mono ?_)
          rintro e u2 ⟨rfl, b⟩
          have hS2 : Below wr.heap.size wr u2 := Below.trans hS1 (b.mono (Below.size hS1))
          refine hK _ _ hS2 ?_; clear hK K b
          (refine wpH_take 3 (by rfl) (by kernel_rfl) (by intro _ _ _ h; first | exact h | (cases h.1)) (by intro _ _ _ _ h; first | exact h | (cases h.1)) (by assumption) (fun K hK => ?_); simp only [List.setIfInBounds_toArray, List.set_cons_zero, List.set_cons_succ] at hK; go_simp; first | (refine hK _ ?_; clear hK K) | (apply Exists.intro; refine ⟨fun _ => rfl, hK _ ?_⟩; clear hK K)); (refine wpH_take 4 (by rfl) (by kernel_rfl) (by intro _ _ _ h; first | exact h | (cases h.1)) (by intro _ _ _ _ h; first | exact h | (cases h.1)) (by assumption) (fun K hK => ?_); simp only [List.setIfInBounds_toArray, List.set_cons_zero, List.set_cons_succ] at hK; go_simp; first | (refine hK _ ?_; clear hK K) | (apply Exists.intro; refine ⟨fun _ => rfl, hK _ ?_⟩; clear hK K)); (refine wpH_take 5 (by rfl) (by kernel_rfl) (by intro _ _ _ h; first | exact h | (cases h.1)) (by intro _ _ _ _ h; first | exact h | (cases h.1)) (by assumption) (fun K hK => ?_); simp only [List.setIfInBounds_toArray, List.set_cons_zero, List.set_cons_succ] at hK; go_simp; first | (refine hK _ ?_; clear hK K) | (apply Exists.intro; refine ⟨fun _ => rfl, hK _ ?_⟩; clear hK K))
          refine wpH_all [6, 7] (by kernel_rfl) (by simp) ?_
          intro i hi
          simp only [List.mem_cons, List.not_mem_nil, or_false] at hi
          rcases hi with rfl | rfl
          · (refine brH_of (i := 6) (by rfl) (fun K hK => ?_); simp only [List.setIfInBounds_toArray, List.set_cons_zero, List.set_cons_succ] at hK; go_simp)
            have h4 := Blk.new u2 24 z4
            have q4 : wr.heap.size ≤ u2.heap.size := Below.size hS2
            have hS3 : Below wr.heap.size wr (u2.alloc (.cells z4.toArray 24)) := Below.alloc hS2 (Below.size hS2) _
            refine hK _ _ hS3 ?_; clear hK K
            obtain ⟨u3, hu3⟩ : ∃ x, x = u2.alloc (.cells z4.toArray 24) := ⟨_, rfl⟩
            try rw [← hu3] at h4
            try rw [← hu3] at h5
            rw [← hu3] at hS3
            rw [show u2.alloc (.cells #[.int .u64 0, .int .u64 0, .int .u64 0, .int .u64 0] 24) = u3 from hu3.symm]
            clear hu3
            (refine wpH_only 7 (by rfl) (by kernel_rfl) (fun K hK => ?_); simp only [List.setIfInBounds_toArray, List.set_cons_zero, List.set_cons_succ] at hK; go_simp)
            have h5 := Blk.new u3 24 z4
            have q5 : wr.heap.size ≤ u3.heap.size := Below.size hS3
            have hS4 : Below wr.heap.size wr (u3.alloc (.cells z4.toArray 24)) := Below.alloc hS3 (Below.size hS3) _
            have hne : u2.heap.size ≠ u3.heap.size := by have := h4.lt; omega
            replace h4 := h4.alloc (.cells z4.toArray 24)
            refine hK _ _ hS4 ?_; clear hK K
            obtain ⟨u4, hu4⟩ : ∃ x, x = u3.alloc (.cells z4.toArray 24) := ⟨_, rfl⟩
            try rw [← hu4] at h4
            try rw [← hu4] at h5
            rw [← hu4] at hS4
            rw [show u3.alloc (.cells #[.int .u64 0, .int .u64 0, .int .u64 0, .int .u64 0] 24) = u4 from hu4.symm]
            clear hu4
            refine wpH_only 8 (by rfl) (by kernel_rfl) (fun K hK => ?_)
            refine step_storeA (by rfl) 24 (.tmp 4) (.tmp 10) (by rfl) u2.heap.size (wcs Q) (by rfl) (by rfl) aggWord h4 (wcs_len _) (by rfl) (wcs_one _) (fun v1 o4 c4 r4 => ?_)
            have T1 : Below wr.heap.size wr v1 := Below.trans hS4 (c4.mono q4)
            refine hK _ _ T1 ?_; clear hK K
            refine wpH_only 9 (by rfl) (by kernel_rfl) (fun K hK => ?_)
            refine step_storeA (by rfl) 24 (.tmp 5) (.tmp 11) (by rfl) u3.heap.size (wcs r) (by rfl) (by rfl) aggWord (h5.grown r4 (by simpa using hne)) (wcs_len _) (by rfl) (wcs_one _) (fun v2 o5 c5 r5 => ?_)
            have T2 : Below wr.heap.size wr v2 := Below.trans T1 (c5.mono q5)
            refine hK _ _ T2 ?_; clear hK K
            exact wpH_done (by kernel_rfl) ⟨rfl, u2.heap.size, u3.heap.size, rfl, hne, q4, q5, o4.grown r5 (by simpa using Ne.symm hne), o5, T2⟩
          · (refine brH_of (i := 7) (by rfl) (fun K hK => ?_); simp only [List.setIfInBounds_toArray, List.set_cons_zero, List.set_cons_succ] at hK; go_simp)
            have h5 := Blk.new u2 24 z4
            have q5 : wr.heap.size ≤ u2.heap.size := Below.size hS2
            have hS3 : Below wr.heap.size wr (u2.alloc (.cells z4.toArray 24)) := Below.alloc hS2 (Below.size hS2) _
            refine hK _ _ hS3 ?_; clear hK K
            obtain ⟨u3, hu3⟩ : ∃ x, x = u2.alloc (.cells z4.toArray 24) := ⟨_, rfl⟩
            try rw [← hu3] at h4
            try rw [← hu3] at h5
            rw [← hu3] at hS3
            rw [show u2.alloc (.cells #[.int .u64 0, .int .u64 0, .int .u64 0, .int .u64 0] 24) = u3 from hu3.symm]
            clear hu3
            (refine wpH_only 6 (by rfl) (by kernel_rfl) (fun K hK => ?_); simp only [List.setIfInBounds_toArray, List.set_cons_zero, List.set_cons_succ] at hK; go_simp)
            have h4 := Blk.new u3 24 z4
            have q4 : wr.heap.size ≤ u3.heap.size := Below.size hS3
            have hS4 : Below wr.heap.size wr (u3.alloc (.cells z4.toArray 24)) := Below.alloc hS3 (Below.size hS3) _
            have hne : u3.heap.size ≠ u2.heap.size := by have := h5.lt; omega
            replace h5 := h5.alloc (.cells z4.toArray 24)
            refine hK _ _ hS4 ?_; clear hK K
            obtain ⟨u4, hu4⟩ : ∃ x, x = u3.alloc (.cells z4.toArray 24) := ⟨_, rfl⟩
            try rw [← hu4] at h4
            try rw [← hu4] at h5
            rw [← hu4] at hS4
            rw [show u3.alloc (.cells #[.int .u64 0, .int .u64 0, .int .u64 0, .int .u64 0] 24) = u4 from hu4.symm]
            clear hu4
            refine wpH_only 8 (by rfl) (by kernel_rfl) (fun K hK => ?_)
            refine step_storeA (by rfl) 24 (.tmp 4) (.tmp 10) (by rfl) u3.heap.size (wcs Q) (by rfl) (by rfl) aggWord h4 (wcs_len _) (by rfl) (wcs_one _) (fun v1 o4 c4 r4 => ?_)
            have T1 : Below wr.heap.size wr v1 := Below.trans hS4 (c4.mono q4)
            refine hK _ _ T1 ?_; clear hK K
            refine wpH_only 9 (by rfl) (by kernel_rfl) (fun K hK => ?_)
            refine step_storeA (by rfl) 24 (.tmp 5) (.tmp 11) (by rfl) u2.heap.size (wcs r) (by rfl) (by rfl) aggWord (h5.grown r4 (by simpa using hne)) (wcs_len _) (by rfl) (wcs_one _) (fun v2 o5 c5 r5 => ?_)
            have T2 : Below wr.heap.size wr v2 := Below.trans T1 (c5.mono q5)
            refine hK _ _ T2 ?_; clear hK K
            exact wpH_done (by kernel_rfl) ⟨rfl, u3.heap.size, u2.heap.size, rfl, hne, q4, q5, o4.grown r5 (by simpa using Ne.symm hne), o5, T2⟩
        · (refine brH_of (i := 6) (by rfl) (fun K hK => ?_); simp only [List.setIfInBounds_toArray, List.set_cons_zero, List.set_cons_succ] at hK; go_simp)
          have h4 := Blk.new u1 24 z4
          have q4 : wr.heap.size ≤ u1.heap.size := Below.size hS1
          have hS2 : Below wr.heap.size wr (u1.alloc (.cells z4.toArray 24)) := Below.alloc hS1 (Below.size hS1) _
          refine hK _ _ hS2 ?_; clear hK K
          obtain ⟨u2, hu2⟩ : ∃ x, x = u1.alloc (.cells z4.toArray 24) := ⟨_, rfl⟩
          try rw [← hu2] at h4
          try rw [← hu2] at h5
          rw [← hu2] at hS2
          rw [show u1.alloc (.cells #[.int .u64 0, .int .u64 0, .int .u64 0, .int .u64 0] 24) = u2 from hu2.symm]
          clear hu2
          refine wpH_all [2, 7] (by kernel_rfl) (by simp) ?_
          intro i hi
          simp only [List.mem_cons, List.not_mem_nil, or_false] at hi
          rcases hi with rfl | rfl
          · (refine brH_of (i := 2) (by rfl) (fun K hK => ?_); simp only [List.setIfInBounds_toArray, List.set_cons_zero, List.set_cons_succ] at hK; go_simp)
            (with_reducible refine (C2.out _).mono ?_)
            rintro e u3 ⟨rfl, b⟩
            have hS3 : Below wr.heap.size wr u3 := Below.trans hS2 (b.mono (Below.size hS2))
            replace h4 := h4.kept b
            refine hK _ _ hS3 ?_; clear hK K b
            (refine wpH_take 3 (by rfl) (by kernel_rfl) (by intro _ _ _ h; first | exact h | (cases h.1)) (by intro _ _ _ _ h; first | exact h | (cases h.1)) (by assumption) (fun K hK => ?_); simp only [List.setIfInBounds_toArray, List.set_cons_zero, List.set_cons_succ] at hK; go_simp; first | (refine hK _ ?_; clear hK K) | (apply Exists.intro; refine ⟨fun _ => rfl, hK _ ?_⟩; clear hK K)); (refine wpH_take 4 (by rfl) (by kernel_rfl) (by intro _ _ _ h; first | exact h | (cases h.1)) (by intro _ _ _ _ h; first | exact h | (cases h.1)) (by assumption) (fun K hK => ?_); simp only [List.setIfInBounds_toArray, List.set_cons_zero, List.set_cons_succ] at hK; go_simp; first | (refine hK _ ?_; clear hK K) | (apply Exists.intro; refine ⟨fun _ => rfl, hK _ ?_⟩; clear hK K)); (refine wpH_take 5 (by rfl) (by kernel_rfl) (by intro _ _ _ h; first | exact h | (cases h.1)) (by intro _ _ _ _ h; first | exact h | (cases h.1)) (by assumption) (fun K hK => ?_); simp only [List.setIfInBounds_toArray, List.set_cons_zero, List.set_cons_succ] at hK; go_simp; first | (refine hK _ ?_; clear hK K) | (apply Exists.intro; refine ⟨fun _ => rfl, hK _ ?_⟩; clear hK K))
            (refine wpH_only 7 (by rfl) (by kernel_rfl) (fun K hK => ?_); simp only [List.setIfInBounds_toArray, List.set_cons_zero, List.set_cons_succ] at hK; go_simp)
            have h5 := Blk.new u3 24 z4
            have q5 : wr.heap.size ≤ u3.heap.size := Below.size hS3
            have hS4 : Below wr.heap.size wr (u3.alloc (.cells z4.toArray 24)) := Below.alloc hS3 (Below.size hS3) _
            have hne : u1.heap.size ≠ u3.heap.size := by have := h4.lt; omega
            replace h4 := h4.alloc (.cells z4.toArray 24)
            refine hK _ _ hS4 ?_; clear hK K
            obtain ⟨u4, hu4⟩ : ∃ x, x = u3.alloc (.cells z4.toArray 24) := ⟨_, rfl⟩
            try rw [← hu4] at h4
            try rw [← hu4] at h5
            rw [← hu4] at hS4
            rw [show u3.alloc (.cells #[.int .u64 0, .int .u64 0, .int .u64 0, .int .u64 0] 24) = u4 from hu4.symm]
            clear hu4
            refine wpH_only 8 (by rfl) (by kernel_rfl) (fun K hK => ?_)
            refine step_storeA (by rfl) 24 (.tmp 4) (.tmp 10) (by rfl) u1.heap.size (wcs Q) (by rfl) (by rfl) aggWord h4 (wcs_len _) (by rfl) (wcs_one _) (fun v1 o4 c4 r4 => ?_)
            have T1 : Below wr.heap.size wr v1 := Below.trans hS4 (c4.mono q4)
            refine hK _ _ T1 ?_; clear hK K
            refine wpH_only 9 (by rfl) (by kernel_rfl) (fun K hK => ?_)
            refine step_storeA (by rfl) 24 (.tmp 5) (.tmp 11) (by rfl) u3.heap.size (wcs r) (by rfl) (by rfl) aggWord (h5.grown r4 (by simpa using hne)) (wcs_len _) (by rfl) (wcs_one _) (fun v2 o5 c5 r5 => ?_)
            have T2 : Below wr.heap.size wr v2 := Below.trans T1 (c5.mono q5)
            refine hK _ _ T2 ?_; clear hK K
            exact wpH_done (by kernel_rfl) ⟨rfl, u1.heap.size, u3.heap.size, rfl, hne, q4, q5, o4.grown r5 (by simpa using Ne.symm hne), o5, T2⟩
          · (refine brH_of (i := 7) (by rfl) (fun K hK => ?_); simp only [List.setIfInBounds_toArray, List.set_cons_zero, List.set_cons_succ] at hK; go_simp)
            have h5 := Blk.new u2 24 z4
            have q5 : wr.heap.size ≤ u2.heap.size := Below.size hS2
            have hS3 : Below wr.heap.size wr (u2.alloc (.cells z4.toArray 24)) := Below.alloc hS2 (Below.size hS2) _
            have hne : u1.heap.size ≠ u2.heap.size := by have := h4.lt; omega
            replace h4 := h4.alloc (.cells z4.toArray 24)
            refine hK _ _ hS3 ?_; clear hK K
            obtain ⟨u3, hu3⟩ : ∃ x, x = u2.alloc (.cells z4.toArray 24) := ⟨_, rfl⟩
            try rw [← hu3] at h4
            try rw [← hu3] at h5
            rw [← hu3] at hS3
            rw [show u2.alloc (.cells #[.int .u64 0, .int .u64 0, .int .u64 0, .int .u64 0] 24) = u3 from hu3.symm]
            clear hu3
            (refine wpH_only 2 (by rfl) (by kernel_rfl) (fun K hK => ?_); simp only [List.setIfInBounds_toArray, List.set_cons_zero, List.set_cons_succ] at hK; go_simp)
            (with_reducible refine (C2.out _).mono ?_)
            rintro e u4 ⟨rfl, b⟩
            have hS4 : Below wr.heap.size wr u4 := Below.trans hS3 (b.mono (Below.size hS3))
            replace h4 := h4.kept b
            replace h5 := h5.kept b
            refine hK _ _ hS4 ?_; clear hK K b
            (refine wpH_take 3 (by rfl) (by kernel_rfl) (by intro _ _ _ h; first | exact h | (cases h.1)) (by intro _ _ _ _ h; first | exact h | (cases h.1)) (by assumption) (fun K hK => ?_); simp only [List.setIfInBounds_toArray, List.set_cons_zero, List.set_cons_succ] at hK; go_simp; first | (refine hK _ ?_; clear hK K) | (apply Exists.intro; refine ⟨fun _ => rfl, hK _ ?_⟩; clear hK K)); (refine wpH_take 4 (by rfl) (by kernel_rfl) (by intro _ _ _ h; first | exact h | (cases h.1)) (by intro _ _ _ _ h; first | exact h | (cases h.1)) (by assumption) (fun K hK => ?_); simp only [List.setIfInBounds_toArray, List.set_cons_zero, List.set_cons_succ] at hK; go_simp; first | (refine hK _ ?_; clear hK K) | (apply Exists.intro; refine ⟨fun _ => rfl, hK _ ?_⟩; clear hK K)); (refine wpH_take 5 (by rfl) (by kernel_rfl) (by intro _ _ _ h; first | exact h | (cases h.1)) (by intro _ _ _ _ h; first | exact h | (cases h.1)) (by assumption) (fun K hK => ?_); simp only [List.setIfInBounds_toArray, List.set_cons_zero, List.set_cons_succ] at hK; go_simp; first | (refine hK _ ?_; clear hK K) | (apply Exists.intro; refine ⟨fun _ => rfl, hK _ ?_⟩; clear hK K))
            refine wpH_only 8 (by rfl) (by kernel_rfl) (fun K hK => ?_)
            refine step_storeA (by rfl) 24 (.tmp 4) (.tmp 10) (by rfl) u1.heap.size (wcs Q) (by rfl) (by rfl) aggWord h4 (wcs_len _) (by rfl) (wcs_one _) (fun v1 o4 c4 r4 => ?_)
            have T1 : Below wr.heap.size wr v1 := Below.trans hS4 (c4.mono q4)
            refine hK _ _ T1 ?_; clear hK K
            refine wpH_only 9 (by rfl) (by kernel_rfl) (fun K hK => ?_)
            refine step_storeA (by rfl) 24 (.tmp 5) (.tmp 11) (by rfl) u2.heap.size (wcs r) (by rfl) (by rfl) aggWord (h5.grown r4 (by simpa using hne)) (wcs_len _) (by rfl) (wcs_one _) (fun v2 o5 c5 r5 => ?_)
            have T2 : Below wr.heap.size wr v2 := Below.trans T1 (c5.mono q5)
            refine hK _ _ T2 ?_; clear hK K
            exact wpH_done (by kernel_rfl) ⟨rfl, u1.heap.size, u2.heap.size, rfl, hne, q4, q5, o4.grown r5 (by simpa using Ne.symm hne), o5, T2⟩
        · (refine brH_of (i := 7) (by rfl) (fun K hK => ?_); simp only [List.setIfInBounds_toArray, List.set_cons_zero, List.set_cons_succ] at hK; go_simp)
          have h5 := Blk.new u1 24 z4
          have q5 : wr.heap.size ≤ u1.heap.size := Below.size hS1
          have hS2 : Below wr.heap.size wr (u1.alloc (.cells z4.toArray 24)) := Below.alloc hS1 (Below.size hS1) _
          refine hK _ _ hS2 ?_; clear hK K
          obtain ⟨u2, hu2⟩ : ∃ x, x = u1.alloc (.cells z4.toArray 24) := ⟨_, rfl⟩
          try rw [← hu2] at h4
          try rw [← hu2] at h5
          rw [← hu2] at hS2
          rw [show u1.alloc (.cells #[.int .u64 0, .int .u64 0, .int .u64 0, .int .u64 0] 24) = u2 from hu2.symm]
          clear hu2
          refine wpH_all [2, 6] (by kernel_rfl) (by simp) ?_
          intro i hi
          simp only [List.mem_cons, List.not_mem_nil, or_false] at hi
          rcases hi with rfl | rfl
          · (refine brH_of (i := 2) (by rfl) (fun K hK => ?_); simp only [List.setIfInBounds_toArray, List.set_cons_zero, List.set_cons_succ] at hK; go_simp)
            (with_reducible refine (C2.out _).mono ?_)
            rintro e u3 ⟨rfl, b⟩
            have hS3 : Below wr.heap.size wr u3 := Below.trans hS2 (b.mono (Below.size hS2))
            replace h5 := h5.kept b
            refine hK _ _ hS3 ?_; clear hK K b
            (refine wpH_take 3 (by rfl) (by kernel_rfl) (by intro _ _ _ h; first | exact h | (cases h.1)) (by intro _ _ _ _ h; first | exact h | (cases h.1)) (by assumption) (fun K hK => ?_); simp only [List.setIfInBounds_toArray, List.set_cons_zero, List.set_cons_succ] at hK; go_simp; first | (refine hK _ ?_; clear hK K) | (apply Exists.intro; refine ⟨fun _ => rfl, hK _ ?_⟩; clear hK K)); (refine wpH_take 4 (by rfl) (by kernel_rfl) (by intro _ _ _ h; first | exact h | (cases h.1)) (by intro _ _ _ _ h; first | exact h | (cases h.1)) (by assumption) (fun K hK => ?_); simp only [List.setIfInBounds_toArray, List.set_cons_zero, List.set_cons_succ] at hK; go_simp; first | (refine hK _ ?_; clear hK K) | (apply Exists.intro; refine ⟨fun _ => rfl, hK _ ?_⟩; clear hK K)); (refine wpH_take 5 (by rfl) (by kernel_rfl) (by intro _ _ _ h; first | exact h | (cases h.1)) (by intro _ _ _ _ h; first | exact h | (cases h.1)) (by assumption) (fun K hK => ?_); simp only [List.setIfInBounds_toArray, List.set_cons_zero, List.set_cons_succ] at hK; go_simp; first | (refine hK _ ?_; clear hK K) | (apply Exists.intro; refine ⟨fun _ => rfl, hK _ ?_⟩; clear hK K))
            (refine wpH_only 6 (by rfl) (by kernel_rfl) (fun K hK => ?_); simp only [List.setIfInBounds_toArray, List.set_cons_zero, List.set_cons_succ] at hK; go_simp)
            have h4 := Blk.new u3 24 z4
            have q4 : wr.heap.size ≤ u3.heap.size := Below.size hS3
            have hS4 : Below wr.heap.size wr (u3.alloc (.cells z4.toArray 24)) := Below.alloc hS3 (Below.size hS3) _
            have hne : u3.heap.size ≠ u1.heap.size := by have := h5.lt; omega
            replace h5 := h5.alloc (.cells z4.toArray 24)
            refine hK _ _ hS4 ?_; clear hK K
            obtain ⟨u4, hu4⟩ : ∃ x, x = u3.alloc (.cells z4.toArray 24) := ⟨_, rfl⟩
            try rw [← hu4] at h4
            try rw [← hu4] at h5
            rw [← hu4] at hS4
            rw [show u3.alloc (.cells #[.int .u64 0, .int .u64 0, .int .u64 0, .int .u64 0] 24) = u4 from hu4.symm]
            clear hu4
            refine wpH_only 8 (by rfl) (by kernel_rfl) (fun K hK => ?_)
            refine step_storeA (by rfl) 24 (.tmp 4) (.tmp 10) (by rfl) u3.heap.size (wcs Q) (by rfl) (by rfl) aggWord h4 (wcs_len _) (by rfl) (wcs_one _) (fun v1 o4 c4 r4 => ?_)
            have T1 : Below wr.heap.size wr v1 := Below.trans hS4 (c4.mono q4)
            refine hK _ _ T1 ?_; clear hK K
            refine wpH_only 9 (by rfl) (by kernel_rfl) (fun K hK => ?_)
            refine step_storeA (by rfl) 24 (.tmp 5) (.tmp 11) (by rfl) u1.heap.size (wcs r) (by rfl) (by rfl) aggWord (h5.grown r4 (by simpa using hne)) (wcs_len _) (by rfl) (wcs_one _) (fun v2 o5 c5 r5 => ?_)
            have T2 : Below wr.heap.size wr v2 := Below.trans T1 (c5.mono q5)
            refine hK _ _ T2 ?_; clear hK K
            exact wpH_done (by kernel_rfl) ⟨rfl, u3.heap.size, u1.heap.size, rfl, hne, q4, q5, o4.grown r5 (by simpa using Ne.symm hne), o5, T2⟩
          · (refine brH_of (i := 6) (by rfl) (fun K hK => ?_); simp only [List.setIfInBounds_toArray, List.set_cons_zero, List.set_cons_succ] at hK; go_simp)
            have h4 := Blk.new u2 24 z4
            have q4 : wr.heap.size ≤ u2.heap.size := Below.size hS2
            have hS3 : Below wr.heap.size wr (u2.alloc (.cells z4.toArray 24)) := Below.alloc hS2 (Below.size hS2) _
            have hne : u2.heap.size ≠ u1.heap.size := by have := h5.lt; omega
            replace h5 := h5.alloc (.cells z4.toArray 24)
            refine hK _ _ hS3 ?_; clear hK K
            obtain ⟨u3, hu3⟩ : ∃ x, x = u2.alloc (.cells z4.toArray 24) := ⟨_, rfl⟩
            try rw [← hu3] at h4
            try rw [← hu3] at h5
            rw [← hu3] at hS3
            rw [show u2.alloc (.cells #[.int .u64 0, .int .u64 0, .int .u64 0, .int .u64 0] 24) = u3 from hu3.symm]
            clear hu3
            (refine wpH_only 2 (by rfl) (by kernel_rfl) (fun K hK => ?_); simp only [List.setIfInBounds_toArray, List.set_cons_zero, List.set_cons_succ] at hK; go_simp)
            (with_reducible refine (C2.out _).mono ?_)
            rintro e u4 ⟨rfl, b⟩
            have hS4 : Below wr.heap.size wr u4 := Below.trans hS3 (b.mono (Below.size hS3))
            replace h4 := h4.kept b
            replace h5 := h5.kept b
            refine hK _ _ hS4 ?_; clear hK K b
            (refine wpH_take 3 (by rfl) (by kernel_rfl) (by intro _ _ _ h; first | exact h | (cases h.1)) (by intro _ _ _ _ h; first | exact h | (cases h.1)) (by assumption) (fun K hK => ?_); simp only [List.setIfInBounds_toArray, List.set_cons_zero, List.set_cons_succ] at hK; go_simp; first | (refine hK _ ?_; clear hK K) | (apply Exists.intro; refine ⟨fun _ => rfl, hK _ ?_⟩; clear hK K)); (refine wpH_take 4 (by rfl) (by kernel_rfl) (by intro _ _ _ h; first | exact h | (cases h.1)) (by intro _ _ _ _ h; first | exact h | (cases h.1)) (by assumption) (fun K hK => ?_); simp only [List.setIfInBounds_toArray, List.set_cons_zero, List.set_cons_succ] at hK; go_simp; first | (refine hK _ ?_; clear hK K) | (apply Exists.intro; refine ⟨fun _ => rfl, hK _ ?_⟩; clear hK K)); (refine wpH_take 5 (by rfl) (by kernel_rfl) (by intro _ _ _ h; first | exact h | (cases h.1)) (by intro _ _ _ _ h; first | exact h | (cases h.1)) (by assumption) (fun K hK => ?_); simp only [List.setIfInBounds_toArray, List.set_cons_zero, List.set_cons_succ] at hK; go_simp; first | (refine hK _ ?_; clear hK K) | (apply Exists.intro; refine ⟨fun _ => rfl, hK _ ?_⟩; clear hK K))
            refine wpH_only 8 (by rfl) (by kernel_rfl) (fun K hK => ?_)
            refine step_storeA (by rfl) 24 (.tmp 4) (.tmp 10) (by rfl) u2.heap.size (wcs Q) (by rfl) (by rfl) aggWord h4 (wcs_len _) (by rfl) (wcs_one _) (fun v1 o4 c4 r4 => ?_)
            have T1 : Below wr.heap.size wr v1 := Below.trans hS4 (c4.mono q4)
            refine hK _ _ T1 ?_; clear hK K
            refine wpH_only 9 (by rfl) (by kernel_rfl) (fun K hK => ?_)
            refine step_storeA (by rfl) 24 (.tmp 5) (.tmp 11) (by rfl) u1.heap.size (wcs r) (by rfl) (by rfl) aggWord (h5.grown r4 (by simpa using hne)) (wcs_len _) (by rfl) (wcs_one _) (fun v2 o5 c5 r5 => ?_)
            have T2 : Below wr.heap.size wr v2 := Below.trans T1 (c5.mono q5)
            refine hK _ _ T2 ?_; clear hK K
            exact wpH_done (by kernel_rfl) ⟨rfl, u2.heap.size, u1.heap.size, rfl, hne, q4, q5, o4.grown r5 (by simpa using Ne.symm hne), o5, T2⟩
      · (refine brH_of (i := 6) (by rfl) (fun K hK => ?_); simp only [List.setIfInBounds_toArray, List.set_cons_zero, List.set_cons_succ] at hK; go_simp)
        have h4 := Blk.new u0 24 z4
        have q4 : wr.heap.size ≤ u0.heap.size := Below.size hS0
        have hS1 : Below wr.heap.size wr (u0.alloc (.cells z4.toArray 24)) := Below.alloc hS0 (Below.size hS0) _
        refine hK _ _ hS1 ?_; clear hK K
        obtain ⟨u1, hu1⟩ : ∃ x, x = u0.alloc (.cells z4.toArray 24) := ⟨_, rfl⟩
        try rw [← hu1] at h4
        try rw [← hu1] at h5
        rw [← hu1] at hS1
        rw [show u0.alloc (.cells #[.int .u64 0, .int .u64 0, .int .u64 0, .int .u64 0] 24) = u1 from hu1.symm]
        clear hu1
        refine wpH_all [1, 7] (by kernel_rfl) (by simp) ?_
        intro i hi
        simp only [List.mem_cons, List.not_mem_nil, or_false] at hi
        rcases hi with rfl | rfl
        · (refine brH_of (i := 1) (by rfl) (fun K hK => ?_); simp only [List.setIfInBounds_toArray, List.set_cons_zero, List.set_cons_succ] at hK; go_simp)
          (with_reducible refine (C1.out _).mono ?_)
          rintro e u2 ⟨rfl, b⟩
          have hS2 : Below wr.heap.size wr u2 := Below.trans hS1 (b.mono (Below.size hS1))
          replace h4 := h4.kept b
          refine hK _ _ hS2 ?_; clear hK K b
          refine wpH_all [2, 7] (by kernel_rfl) (by simp) ?_
          intro i hi
          simp only [List.mem_cons, List.not_mem_nil, or_false] at hi
          rcases hi with rfl | rfl
          · (refine brH_of (i := 2) (by rfl) (fun K hK => ?_); simp only [List.setIfInBounds_toArray, List.set_cons_zero, List.set_cons_succ] at hK; go_simp)
            (with_reducible refine (C2.out _).mono ?_)
            rintro e u3 ⟨rfl, b⟩
            have hS3 : Below wr.heap.size wr u3 := Below.trans hS2 (b.mono (Below.size hS2))
            replace h4 := h4.kept b
            refine hK _ _ hS3 ?_; clear hK K b
            (refine wpH_take 3 (by rfl) (by kernel_rfl) (by intro _ _ _ h; first | exact h | (cases h.1)) (by intro _ _ _ _ h; first | exact h | (cases h.1)) (by assumption) (fun K hK => ?_); simp only [List.setIfInBounds_toArray, List.set_cons_zero, List.set_cons_succ] at hK; go_simp; first | (refine hK _ ?_; clear hK K) | (apply Exists.intro; refine ⟨fun _ => rfl, hK _ ?_⟩; clear hK K)); (refine wpH_take 4 (by rfl) (by kernel_rfl) (by intro _ _ _ h; first | exact h | (cases h.1)) (by intro _ _ _ _ h; first | exact h | (cases h.1)) (by assumption) (fun K hK => ?_); simp only [List.setIfInBounds_toArray, List.set_cons_zero, List.set_cons_succ] at hK; go_simp; first | (refine hK _ ?_; clear hK K) | (apply Exists.intro; refine ⟨fun _ => rfl, hK _ ?_⟩; clear hK K)); (refine wpH_take 5 (by rfl) (by kernel_rfl) (by intro _ _ _ h; first | exact h | (cases h.1)) (by intro _ _ _ _ h; first | exact h | (cases h.1)) (by assumption) (fun K hK => ?_); simp only [List.setIfInBounds_toArray, List.set_cons_zero, List.set_cons_succ] at hK; go_simp; first | (refine hK _ ?_; clear hK K) | (apply Exists.intro; refine ⟨fun _ => rfl, hK _ ?_⟩; clear hK K))
            (refine wpH_only 7 (by rfl) (by kernel_rfl) (fun K hK => ?_); simp only [List.setIfInBounds_toArray, List.set_cons_zero, List.set_cons_succ] at hK; go_simp)
            have h5 := Blk.new u3 24 z4
            have q5 : wr.heap.size ≤ u3.heap.size := Below.size hS3
            have hS4 : Below wr.heap.size wr (u3.alloc (.cells z4.toArray 24)) := Below.alloc hS3 (Below.size hS3) _
            have hne : u0.heap.size ≠ u3.heap.size := by have := h4.lt; omega
            replace h4 := h4.alloc (.cells z4.toArray 24)
            refine hK _ _ hS4 ?_; clear hK K
            obtain ⟨u4, hu4⟩ : ∃ x, x = u3.alloc (.cells z4.toArray 24) := ⟨_, rfl⟩
            try rw [← hu4] at h4
            try rw [← hu4] at h5
            rw [← hu4] at hS4
            rw [show u3.alloc (.cells #[.int .u64 0, .int .u64 0, .int .u64 0, .int .u64 0] 24) = u4 from hu4.symm]
            clear hu4
            refine wpH_only 8 (by rfl) (by kernel_rfl) (fun K hK => ?_)
            refine step_storeA (by rfl) 24 (.tmp 4) (.tmp 10) (by rfl) u0.heap.size (wcs Q) (by rfl) (by rfl) aggWord h4 (wcs_len _) (by rfl) (wcs_one _) (fun v1 o4 c4 r4 => ?_)
            have T1 : Below wr.heap.size wr v1 := Below.trans hS4 (c4.mono q4)
            refine hK _ _ T1 ?_; clear hK K
            refine wpH_only 9 (by rfl) (by kernel_rfl) (fun K hK => ?_)
            refine step_storeA (by rfl) 24 (.tmp 5) (.tmp 11) (by rfl) u3.heap.size (wcs r) (by rfl) (by rfl) aggWord (h5.grown r4 (by simpa using hne)) (wcs_len _) (by rfl) (wcs_one _) (fun v2 o5 c5 r5 => ?_)
            have T2 : Below wr.heap.size wr v2 := Below.trans T1 (c5.mono q5)
            refine hK _ _ T2 ?_; clear hK K
            exact wpH_done (by kernel_rfl) ⟨rfl, u0.heap.size, u3.heap.size, rfl, hne, q4, q5, o4.grown r5 (by simpa using Ne.symm hne), o5, T2⟩
          · (refine brH_of (i := 7) (by rfl) (fun K hK => ?_); simp only [List.setIfInBounds_toArray, List.set_cons_zero, List.set_cons_succ] at hK; go_simp)
            have h5 := Blk.new u2 24 z4
            have q5 : wr.heap.size ≤ u2.heap.size := Below.size hS2
            have hS3 : Below wr.heap.size wr (u2.alloc (.cells z4.toArray 24)) := Below.alloc hS2 (Below.size hS2) _
            have hne : u0.heap.size ≠ u2.heap.size := by have := h4.lt; omega
            replace h4 := h4.alloc (.cells z4.toArray 24)
            refine hK _ _ hS3 ?_; clear hK K
            obtain ⟨u3, hu3⟩ : ∃ x, x = u2.alloc (.cells z4.toArray 24) := ⟨_, rfl⟩
            try rw [← hu3] at h4
            try rw [← hu3] at h5
            rw [← hu3] at hS3
            rw [show u2.alloc (.cells #[.int .u64 0, .int .u64 0, .int .u64 0, .int .u64 0] 24) = u3 from hu3.symm]
            clear hu3
            (refine wpH_only 2 (by rfl) (by kernel_rfl) (fun K hK => ?_); simp only [List.setIfInBounds_toArray, List.set_cons_zero, List.set_cons_succ] at hK; go_simp)
            (with_reducible refine (C2.out _).mono ?_)
            rintro e u4 ⟨rfl, b⟩
            have hS4 : Below wr.heap.size wr u4 := Below.trans hS3 (b.mono (Below.size hS3))
            replace h4 := h4.kept b
            replace h5 := h5.kept b
            refine hK _ _ hS4 ?_; clear hK K b
            (refine wpH_take 3 (by rfl) (by kernel_rfl) (by intro _ _ _ h; first | exact h | (cases h.1)) (by intro _ _ _ _ h; first | exact h | (cases h.1)) (by assumption) (fun K hK => ?_); simp only [List.setIfInBounds_toArray, List.set_cons_zero, List.set_cons_succ] at hK; go_simp; first | (refine hK _ ?_; clear hK K) | (apply Exists.intro; refine ⟨fun _ => rfl, hK _ ?_⟩; clear hK K)); (refine wpH_take 4 (by rfl) (by kernel_rfl) (by intro _ _ _ h; first | exact h | (cases h.1)) (by intro _ _ _ _ h; first | exact h | (cases h.1)) (by assumption) (fun K hK => ?_); simp only [List.setIfInBounds_toArray, List.set_cons_zero, List.set_cons_succ] at hK; go_simp; first | (refine hK _ ?_; clear hK K) | (apply Exists.intro; refine ⟨fun _ => rfl, hK _ ?_⟩; clear hK K)); (refine wpH_take 5 (by rfl) (by kernel_rfl) (by intro _ _ _ h; first | exact h | (cases h.1)) (by intro _ _ _ _ h; first | exact h | (cases h.1)) (by assumption) (fun K hK => ?_); simp only [List.setIfInBounds_toArray, List.set_cons_zero, List.set_cons_succ] at hK; go_simp; first | (refine hK _ ?_; clear hK K) | (apply Exists.intro; refine ⟨fun _ => rfl, hK _ ?_⟩; clear hK K))
            refine wpH_only 8 (by rfl) (by kernel_rfl) (fun K hK => ?_)
            refine step_storeA (by rfl) 24 (.tmp 4) (.tmp 10) (by rfl) u0.heap.size (wcs Q) (by rfl) (by rfl) aggWord h4 (wcs_len _) (by rfl) (wcs_one _) (fun v1 o4 c4 r4 => ?_)
            have T1 : Below wr.heap.size wr v1 := Below.trans hS4 (c4.mono q4)
            refine hK _ _ T1 ?_; clear hK K
            refine wpH_only 9 (by rfl) (by kernel_rfl) (fun K hK => ?_)
            refine step_storeA (by rfl) 24 (.tmp 5) (.tmp 11) (by rfl) u2.heap.size (wcs r) (by rfl) (by rfl) aggWord (h5.grown r4 (by simpa using hne)) (wcs_len _) (by rfl) (wcs_one _) (fun v2 o5 c5 r5 => ?_)
            have T2 : Below wr.heap.size wr v2 := Below.trans T1 (c5.mono q5)
            refine hK _ _ T2 ?_; clear hK K
            exact wpH_done (by kernel_rfl) ⟨rfl, u0.heap.size, u2.heap.size, rfl, hne, q4, q5, o4.grown r5 (by simpa using Ne.symm hne), o5, T2⟩
        · (refine brH_of (i := 7) (by rfl) (fun K hK => ?_); simp only [List.setIfInBounds_toArray, List.set_cons_zero, List.set_cons_succ] at hK; go_simp)
          have h5 := Blk.new u1 24 z4
          have q5 : wr.heap.size ≤ u1.heap.size := Below.size hS1
          have hS2 : Below wr.heap.size wr (u1.alloc (.cells z4.toArray 24)) := Below.alloc hS1 (Below.size hS1) _
          have hne : u0.heap.size ≠ u1.heap.size := by have := h4.lt; omega
          replace h4 := h4.alloc (.cells z4.toArray 24)
          refine hK _ _ hS2 ?_; clear hK K
          obtain ⟨u2, hu2⟩ : ∃ x, x = u1.alloc (.cells z4.toArray 24) := ⟨_, rfl⟩
          try rw [← hu2] at h4
          try rw [← hu2] at h5
          rw [← hu2] at hS2
          rw [show u1.alloc (.cells #[.int .u64 0, .int .u64 0, .int .u64 0, .int .u64 0] 24) = u2 from hu2.symm]
          clear hu2
          (refine wpH_only 1 (by rfl) (by kernel_rfl) (fun K hK => ?_); simp only [List.setIfInBounds_toArray, List.set_cons_zero, List.set_cons_succ] at hK; go_simp)
          (with_reducible refine (C1.out _).mono ?_)
          rintro e u3 ⟨rfl, b⟩
          have hS3 : Below wr.heap.size wr u3 := Below.trans hS2 (b.mono (Below.size hS2))
          replace h4 := h4.kept b
          replace h5 := h5.kept b
          refine hK _ _ hS3 ?_; clear hK K b
          (refine wpH_only 2 (by rfl) (by kernel_rfl) (fun K hK => ?_); simp only [List.setIfInBounds_toArray, List.set_cons_zero, List.set_cons_succ] at hK; go_simp)
          (with_reducible refine (C2.out _).mono ?_)
          rintro e u4 ⟨rfl, b⟩
          have hS4 : Below wr.heap.size wr u4 := Below.trans hS3 (b.mono (Below.size hS3))
          replace h4 := h4.kept b
          replace h5 := h5.kept b
          refine hK _ _ hS4 ?_; clear hK K b
          (refine wpH_take 3 (by rfl) (by kernel_rfl) (by intro _ _ _ h; first | exact h | (cases h.1)) (by intro _ _ _ _ h; first | exact h | (cases h.1)) (by assumption) (fun K hK => ?_); simp only [List.setIfInBounds_toArray, List.set_cons_zero, List.set_cons_succ] at hK; go_simp; first | (refine hK _ ?_; clear hK K) | (apply Exists.intro; refine ⟨fun _ => rfl, hK _ ?_⟩; clear hK K)); (refine wpH_take 4 (by rfl) (by kernel_rfl) (by intro _ _ _ h; first | exact h | (cases h.1)) (by intro _ _ _ _ h; first | exact h | (cases h.1)) (by assumption) (fun K hK => ?_); simp only [List.setIfInBounds_toArray, List.set_cons_zero, List.set_cons_succ] at hK; go_simp; first | (refine hK _ ?_; clear hK K) | (apply Exists.intro; refine ⟨fun _ => rfl, hK _ ?_⟩; clear hK K)); (refine wpH_take 5 (by rfl) (by kernel_rfl) (by intro _ _ _ h; first | exact h | (cases h.1)) (by intro _ _ _ _ h; first | exact h | (cases h.1)) (by assumption) (fun K hK => ?_); simp only [List.setIfInBounds_toArray, List.set_cons_zero, List.set_cons_succ] at hK; go_simp; first | (refine hK _ ?_; clear hK K) | (apply Exists.intro; refine ⟨fun _ => rfl, hK _ ?_⟩; clear hK K))
          refine wpH_only 8 (by rfl) (by kernel_rfl) (fun K hK => ?_)
          refine step_storeA (by rfl) 24 (.tmp 4) (.tmp 10) (by rfl) u0.heap.size (wcs Q) (by rfl) (by rfl) aggWord h4 (wcs_len _) (by rfl) (wcs_one _) (fun v1 o4 c4 r4 => ?_)
          have T1 : Below wr.heap.size wr v1 := Below.trans hS4 (c4.mono q4)
          refine hK _ _ T1 ?_; clear hK K
          refine wpH_only 9 (by rfl) (by kernel_rfl) (fun K hK => ?_)
          refine step_storeA (by rfl) 24 (.tmp 5) (.tmp 11) (by rfl) u1.heap.size (wcs r) (by rfl) (by rfl) aggWord (h5.grown r4 (by simpa using hne)) (wcs_len _) (by rfl) (wcs_one _) (fun v2 o5 c5 r5 => ?_)
          have T2 : Below wr.heap.size wr v2 := Below.trans T1 (c5.mono q5)
          refine hK _ _ T2 ?_; clear hK K
          exact wpH_done (by kernel_rfl) ⟨rfl, u0.heap.size, u1.heap.size, rfl, hne, q4, q5, o4.grown r5 (by simpa using Ne.symm hne), o5, T2⟩
      · (refine brH_of (i := 7) (by rfl) (fun K hK => ?_); simp only [List.setIfInBounds_toArray, List.set_cons_zero, List.set_cons_succ] at hK; go_simp)
        have h5 := Blk.new u0 24 z4
        have q5 : wr.heap.size ≤ u0.heap.size := Below.size hS0
        have hS1 : Below wr.heap.size wr (u0.alloc (.cells z4.toArray 24)) := Below.alloc hS0 (Below.size hS0) _
        refine hK _ _ hS1 ?_; clear hK K
        obtain ⟨u1, hu1⟩ : ∃ x, x = u0.alloc (.cells z4.toArray 24) := ⟨_, rfl⟩
        try rw [← hu1] at h4
        try rw [← hu1] at h5
        rw [← hu1] at hS1
        rw [show u0.alloc (.cells #[.int .u64 0, .int .u64 0, .int .u64 0, .int .u64 0] 24) = u1 from hu1.symm]
        clear hu1
        refine wpH_all [1, 6] (by kernel_rfl) (by simp) ?_
        intro i hi
        simp only [List.mem_cons, List.not_mem_nil, or_false] at hi
        rcases hi with rfl | rfl
        · (refine brH_of (i := 1) (by rfl) (fun K hK => ?_); simp only [List.setIfInBounds_toArray, List.set_cons_zero, List.set_cons_succ] at hK; go_simp)
          (with_reducible refine (C1.out _).mono ?_)
          rintro e u2 ⟨rfl, b⟩
          have hS2 : Below wr.heap.size wr u2 := Below.trans hS1 (b.mono (Below.size hS1))
          replace h5 := h5.kept b
          refine hK _ _ hS2 ?_; clear hK K b
          refine wpH_all [2, 6] (by kernel_rfl) (by simp) ?_
          intro i hi
          simp only [List.mem_cons, List.not_mem_nil, or_false] at hi
          rcases hi with rfl | rfl
          · (refine brH_of (i := 2) (by rfl) (fun K hK => ?_); simp only [List.setIfInBounds_toArray, List.set_cons_zero, List.set_cons_succ] at hK; go_simp)
            (with_reducible refine (C2.out _).mono ?_)
            rintro e u3 ⟨rfl, b⟩
            have hS3 : Below wr.heap.size wr u3 := Below.trans hS2 (b.mono (Below.size hS2))
            replace h5 := h5.kept b
            refine hK _ _ hS3 ?_; clear hK K b
            (refine wpH_take 3 (by rfl) (by kernel_rfl) (by intro _ _ _ h; first | exact h | (cases h.1)) (by intro _ _ _ _ h; first | exact h | (cases h.1)) (by assumption) (fun K hK => ?_); simp only [List.setIfInBounds_toArray, List.set_cons_zero, List.set_cons_succ] at hK; go_simp; first | (refine hK _ ?_; clear hK K) | (apply Exists.intro; refine ⟨fun _ => rfl, hK _ ?_⟩; clear hK K)); (refine wpH_take 4 (by rfl) (by kernel_rfl) (by intro _ _ _ h; first | exact h | (cases h.1)) (by intro _ _ _ _ h; first | exact h | (cases h.1)) (by assumption) (fun K hK => ?_); simp only [List.setIfInBounds_toArray, List.set_cons_zero, List.set_cons_succ] at hK; go_simp; first | (refine hK _ ?_; clear hK K) | (apply Exists.intro; refine ⟨fun _ => rfl, hK _ ?_⟩; clear hK K)); (refine wpH_take 5 (by rfl) (by kernel_rfl) (by intro _ _ _ h; first | exact h | (cases h.1)) (by intro _ _ _ _ h; first | exact h | (cases h.1)) (by assumption) (fun K hK => ?_); simp only [List.setIfInBounds_toArray, List.set_cons_zero, List.set_cons_succ] at hK; go_simp; first | (refine hK _ ?_; clear hK K) | (apply Exists.intro; refine ⟨fun _ => rfl, hK _ ?_⟩; clear hK K))
            (refine wpH_only 6 (by rfl) (by kernel_rfl) (fun K hK => ?_); simp only [List.setIfInBounds_toArray, List.set_cons_zero, List.set_cons_succ] at hK; go_simp)
            have h4 := Blk.new u3 24 z4
            have q4 : wr.heap.size ≤ u3.heap.size := Below.size hS3
            have hS4 : Below wr.heap.size wr (u3.alloc (.cells z4.toArray 24)) := Below.alloc hS3 (Below.size hS3) _
            have hne : u3.heap.size ≠ u0.heap.size := by have := h5.lt; omega
            replace h5 := h5.alloc (.cells z4.toArray 24)
            refine hK _ _ hS4 ?_; clear hK K
            obtain ⟨u4, hu4⟩ : ∃ x, x = u3.alloc (.cells z4.toArray 24) := ⟨_, rfl⟩
            try rw [← hu4] at h4
            try rw [← hu4] at h5
            rw [← hu4] at hS4
            rw [show u3.alloc (.cells #[.int .u64 0, .int .u64 0, .int .u64 0, .int .u64 0] 24) = u4 from hu4.symm]
            clear hu4
            refine wpH_only 8 (by rfl) (by kernel_rfl) (fun K hK => ?_)
            refine step_storeA (by rfl) 24 (.tmp 4) (.tmp 10) (by rfl) u3.heap.size (wcs Q) (by rfl) (by rfl) aggWord h4 (wcs_len _) (by rfl) (wcs_one _) (fun v1 o4 c4 r4 => ?_)
            have T1 : Below wr.heap.size wr v1 := Below.trans hS4 (c4.mono q4)
            refine hK _ _ T1 ?_; clear hK K
            refine wpH_only 9 (by rfl) (by kernel_rfl) (fun K hK => ?_)
            refine step_storeA (by rfl) 24 (.tmp 5) (.tmp 11) (by rfl) u0.heap.size (wcs r) (by rfl) (by rfl) aggWord (h5.grown r4 (by simpa using hne)) (wcs_len _) (by rfl) (wcs_one _) (fun v2 o5 c5 r5 => ?_)
            have T2 : Below wr.heap.size wr v2 := Below.trans T1 (c5.mono q5)
            refine hK _ _ T2 ?_; clear hK K
            exact wpH_done (by kernel_rfl) ⟨rfl, u3.heap.size, u0.heap.size, rfl, hne, q4, q5, o4.grown r5 (by simpa using Ne.symm hne), o5, T2⟩
          · (refine brH_of (i := 6) (by rfl) (fun K hK => ?_); simp only [List.setIfInBounds_toArray, List.set_cons_zero, List.set_cons_succ] at hK; go_simp)
            have h4 := Blk.new u2 24 z4
            have q4 : wr.heap.size ≤ u2.heap.size := Below.size hS2
            have hS3 : Below wr.heap.size wr (u2.alloc (.cells z4.toArray 24)) := Below.alloc hS2 (Below.size hS2) _
            have hne : u2.heap.size ≠ u0.heap.size := by have := h5.lt; omega
            replace h5 := h5.alloc (.cells z4.toArray 24)
            refine hK _ _ hS3 ?_; clear hK K
            obtain ⟨u3, hu3⟩ : ∃ x, x = u2.alloc (.cells z4.toArray 24) := ⟨_, rfl⟩
            try rw [← hu3] at h4
            try rw [← hu3] at h5
            rw [← hu3] at hS3
            rw [show u2.alloc (.cells #[.int .u64 0, .int .u64 0, .int .u64 0, .int .u64 0] 24) = u3 from hu3.symm]
            clear hu3
            (refine wpH_only 2 (by rfl) (by kernel_rfl) (fun K hK => ?_); simp only [List.setIfInBounds_toArray, List.set_cons_zero, List.set_cons_succ] at hK; go_simp)
            (with_reducible refine (C2.out _).mono ?_)
            rintro e u4 ⟨rfl, b⟩
            have hS4 : Below wr.heap.size wr u4 := Below.trans hS3 (b.mono (Below.size hS3))
            replace h4 := h4.kept b
            replace h5 := h5.kept b
            refine hK _ _ hS4 ?_; clear hK K b
            (refine wpH_take 3 (by rfl) (by kernel_rfl) (by intro _ _ _ h; first | exact h | (cases h.1)) (by intro _ _ _ _ h; first | exact h | (cases h.1)) (by assumption) (fun K hK => ?_); simp only [List.setIfInBounds_toArray, List.set_cons_zero, List.set_cons_succ] at hK; go_simp; first | (refine hK _ ?_; clear hK K) | (apply Exists.intro; refine ⟨fun _ => rfl, hK _ ?_⟩; clear hK K)); (refine wpH_take 4 (by rfl) (by kernel_rfl) (by intro _ _ _ h; first | exact h | (cases h.1)) (by intro _ _ _ _ h; first | exact h | (cases h.1)) (by assumption) (fun K hK => ?_); simp only [List.setIfInBounds_toArray, List.set_cons_zero, List.set_cons_succ] at hK; go_simp; first | (refine hK _ ?_; clear hK K) | (apply Exists.intro; refine ⟨fun _ => rfl, hK _ ?_⟩; clear hK K)); (refine wpH_take 5 (by rfl) (by kernel_rfl) (by intro _ _ _ h; first | exact h | (cases h.1)) (by intro _ _ _ _ h; first | exact h | (cases h.1)) (by assumption) (fun K hK => ?_); simp only [List.setIfInBounds_toArray, List.set_cons_zero, List.set_cons_succ] at hK; go_simp; first | (refine hK _ ?_; clear hK K) | (apply Exists.intro; refine ⟨fun _ => rfl, hK _ ?_⟩; clear hK K))
            refine wpH_only 8 (by rfl) (by kernel_rfl) (fun K hK => ?_)
            refine step_storeA (by rfl) 24 (.tmp 4) (.tmp 10) (by rfl) u2.heap.size (wcs Q) (by rfl) (by rfl) aggWord h4 (wcs_len _) (by rfl) (wcs_one _) (fun v1 o4 c4 r4 => ?_)
            have T1 : Below wr.heap.size wr v1 := Below.trans hS4 (c4.mono q4)
            refine hK _ _ T1 ?_; clear hK K
            refine wpH_only 9 (by rfl) (by kernel_rfl) (fun K hK => ?_)
            refine step_storeA (by rfl) 24 (.tmp 5) (.tmp 11) (by rfl) u0.heap.size (wcs r) (by rfl) (by rfl) aggWord (h5.grown r4 (by simpa using hne)) (wcs_len _) (by rfl) (wcs_one _) (fun v2 o5 c5 r5 => ?_)
            have T2 : Below wr.heap.size wr v2 := Below.trans T1 (c5.mono q5)
            refine hK _ _ T2 ?_; clear hK K
            exact wpH_done (by kernel_rfl) ⟨rfl, u2.heap.size, u0.heap.size, rfl, hne, q4, q5, o4.grown r5 (by simpa using Ne.symm hne), o5, T2⟩
        · (refine brH_of (i := 6) (by rfl) (fun K hK => ?_); simp only [List.setIfInBounds_toArray, List.set_cons_zero, List.set_cons_succ] at hK; go_simp)
          have h4 := Blk.new u1 24 z4
          have q4 : wr.heap.size ≤ u1.heap.size := Below.size hS1
          have hS2 : Below wr.heap.size wr (u1.alloc (.cells z4.toArray 24)) := Below.alloc hS1 (Below.size hS1) _
          have hne : u1.heap.size ≠ u0.heap.size := by have := h5.lt; omega
          replace h5 := h5.alloc (.cells z4.toArray 24)
          refine hK _ _ hS2 ?_; clear hK K
          obtain ⟨u2, hu2⟩ : ∃ x, x = u1.alloc (.cells z4.toArray 24) := ⟨_, rfl⟩
          try rw [← hu2] at h4
          try rw [← hu2] at h5
          rw [← hu2] at hS2
          rw [show u1.alloc (.cells #[.int .u64 0, .int .u64 0, .int .u64 0, .int .u64 0] 24) = u2 from hu2.symm]
          clear hu2
          (refine wpH_only 1 (by rfl) (by kernel_rfl) (fun K hK => ?_); simp only [List.setIfInBounds_toArray, List.set_cons_zero, List.set_cons_succ] at hK; go_simp)
          (with_reducible refine (C1.out _).mono ?_)
          rintro e u3 ⟨rfl, b⟩
          have hS3 : Below wr.heap.size wr u3 := Below.trans hS2 (b.mono (Below.size hS2))
          replace h4 := h4.kept b
          replace h5 := h5.kept b
          refine hK _ _ hS3 ?_; clear hK K b
          (refine wpH_only 2 (by rfl) (by kernel_rfl) (fun K hK => ?_); simp only [List.setIfInBounds_toArray, List.set_cons_zero, List.set_cons_succ] at hK; go_simp)
          (with_reducible refine (C2.out _).mono ?_)
          rintro e u4 ⟨rfl, b⟩
          have hS4 : Below wr.heap.size wr u4 := Below.trans hS3 (b.mono (Below.size hS3))
          replace h4 := h4.kept b
          replace h5 := h5.kept b
          refine hK _ _ hS4 ?_; clear hK K b
          (refine wpH_take 3 (by rfl) (by kernel_rfl) (by intro _ _ _ h; first | exact h | (cases h.1)) (by intro _ _ _ _ h; first | exact h | (cases h.1)) (by assumption) (fun K hK => ?_); simp only [List.setIfInBounds_toArray, List.set_cons_zero, List.set_cons_succ] at hK; go_simp; first | (refine hK _ ?_; clear hK K) | (apply Exists.intro; refine ⟨fun _ => rfl, hK _ ?_⟩; clear hK K)); (refine wpH_take 4 (by rfl) (by kernel_rfl) (by intro _ _ _ h; first | exact h | (cases h.1)) (by intro _ _ _ _ h; first | exact h | (cases h.1)) (by assumption) (fun K hK => ?_); simp only [List.setIfInBounds_toArray, List.set_cons_zero, List.set_cons_succ] at hK; go_simp; first | (refine hK _ ?_; clear hK K) | (apply Exists.intro; refine ⟨fun _ => rfl, hK _ ?_⟩; clear hK K)); (refine wpH_take 5 (by rfl) (by kernel_rfl) (by intro _ _ _ h; first | exact h | (cases h.1)) (by intro _ _ _ _ h; first | exact h | (cases h.1)) (by assumption) (fun K hK => ?_); simp only [List.setIfInBounds_toArray, List.set_cons_zero, List.set_cons_succ] at hK; go_simp; first | (refine hK _ ?_; clear hK K) | (apply Exists.intro; refine ⟨fun _ => rfl, hK _ ?_⟩; clear hK K))
          refine wpH_only 8 (by rfl) (by kernel_rfl) (fun K hK => ?_)
          refine step_storeA (by rfl) 24 (.tmp 4) (.tmp 10) (by rfl) u1.heap.size (wcs Q) (by rfl) (by rfl) aggWord h4 (wcs_len _) (by rfl) (wcs_one _) (fun v1 o4 c4 r4 => ?_)
          have T1 : Below wr.heap.size wr v1 := Below.trans hS4 (c4.mono q4)
          refine hK _ _ T1 ?_; clear hK K
          refine wpH_only 9 (by rfl) (by kernel_rfl) (fun K hK => ?_)
          refine step_storeA (by rfl) 24 (.tmp 5) (.tmp 11) (by rfl) u0.heap.size (wcs r) (by rfl) (by rfl) aggWord (h5.grown r4 (by simpa using hne)) (wcs_len _) (by rfl) (wcs_one _) (fun v2 o5 c5 r5 => ?_)
          have T2 : Below wr.heap.size wr v2 := Below.trans T1 (c5.mono q5)
          refine hK _ _ T2 ?_; clear hK K
          exact wpH_done (by kernel_rfl) ⟨rfl, u1.heap.size, u0.heap.size, rfl, hne, q4, q5, o4.grown r5 (by simpa using Ne.symm hne), o5, T2⟩
    rintro b w5 ⟨g4, g5, rfl, hne, hg4, hg5, h4, h5, hw5⟩
    simp only [Act.put, List.setIfInBounds_toArray, List.set_cons_zero, List.set_cons_succ]
    have hbB := hb.kept hw5
    have hbelB := Below.then hbel hw5
    have hl5 : lim r 0 = r := by rw [lim0]; omega
    have hc5 := h5.wat 0 (by omega)
    rw [hl5] at hc5
    have hri : (r : Int) ≤ 15 := by omega
    have hdg := dig_one r hr16
    obtain ⟨sx, hsx⟩ : ∃ sx, sx = (⟨#[48, 49, 50, 51, 52, 53, 54, 55, 56, 57, 97, 98, 99, 100, 101, 102]⟩ : ByteArray).extract r (r + 1) := ⟨_, rfl⟩
    rw [← hsx] at hdg
    have hrs : ∀ (k k' : IntKind) (w' : World), (Instr.slice 9 (.string (⟨#[48, 49, 50, 51, 52, 53, 54, 55, 56, 57, 97, 98, 99, 100, 101, 102]⟩ : ByteArray)) (some (.int k (r : Int))) (some (.int k' ((r : Int) + 1))) none).run Try.prog w' = .ok (.string sx) w' := by
      intro k k' w'
      have := run_slice_string (P := Try.prog) w' 9 (⟨#[48, 49, 50, 51, 52, 53, 54, 55, 56, 57, 97, 98, 99, 100, 101, 102]⟩ : ByteArray) k k' (r : Int) ((r : Int) + 1) (by kernel_rfl) (by omega) (by omega) (by show (r : Int) + 1 ≤ 16; omega)
      rw [this, hsx]
      congr 2
    have hsx1 : sx.size ≤ 1 := by
      show sx.data.size ≤ 1
      rw [← Array.length_toList, hdg]; simp
    have hnew : (sx ++ s).data.toList = (UInt8.ofNat r :: D).map hexd := by rw [ba_add, hdg, Hs.out]; rfl
    have hnsz : (sx ++ s).size = D.length + 1 := by
      show (sx ++ s).data.size = _
      rw [← Array.length_toList, hnew]; simp
    have hq0 := eq_zero Q hQW
    have Hnew := Lib.hid hnew
    have Hnsz := Lib.hid hnsz
    clear hdg hsx hnew hnsz hl5 h5 hb hbel hw5
    by_cases hQ0 : Q = 0
    · rw [decide_eq_true hQ0] at hq0
      have hfin : (⟨#[48, 120]⟩ : ByteArray) ++ (sx ++ s) = ⟨(numS N).toArray⟩ := ba_ext (by
        rw [ba_add, Hnew.out]
        unfold numS
        rw [HD.out, numD_zero_div (by rw [← HQ.out]; exact hQ0), ← Hr.out]
        rfl)
      have hsz2 : (sx ++ s).size ≤ 64 := by rw [Hnsz.out]; omega
      have Hfin := Lib.hid hfin
      clear hfin hQ0
      go_wp2_with ((refine wpList_loadA (o := ⟨some 20, _, _, _, _, _⟩) (by rfl) 24 (.tmp 4) (by rfl) (g4) (by rfl) aggWord h4 (wcs_len _) ?_))
      go_ret
      exact ⟨ret_str Hfin.out, hbelB⟩
    · rw [decide_eq_false hQ0] at hq0
      have hstep : numD N = numD Q ++ (UInt8.ofNat r :: D) := by
        rw [HD.out, numD_big (N := X) (by have := HQ.out; omega), ← HQ.out, ← Hr.out]; simp
      have Hstep := Lib.hid hstep
      clear hstep hQ0
      go_wp2_with (first
        | (refine wpList_loadA (o := ⟨some 20, _, _, _, _, _⟩) (by rfl) 24 (.tmp 4) (by rfl) (g4) (by rfl) aggWord h4 (wcs_len _) ?_)
        | (refine wpList_loadA (o := ⟨some 25, _, _, _, _, _⟩) (by rfl) 24 (.tmp 4) (by rfl) (g4) (by rfl) aggWord h4 (wcs_len _) ?_)
        | (refine wpList_storeA (by rfl) 24 (.tmp 1) (.tmp 25) (by rfl) (w.heap.size) (wcs (Q)) (by rfl) (by rfl) aggWord hbB (wcs_len _) (by first | exact wcs_len _ | rfl) (wcs_one _) (Below.refl _ _) (Nat.le_refl _) ?_; intro u3 o3 b3 g3; have hbelC := hbelB.trans b3))
      simp only [Act.put, List.setIfInBounds_toArray, List.set_cons_zero, List.set_cons_succ]
      go_roundw
      case rel => exact ⟨sx ++ s, Q, UInt8.ofNat r :: D, rfl, Hnew.out, hQW, Hstep.out, o3, hbelC⟩
      case measure =>
        show 100 - (sx ++ s).size < 100 - s.size
        rw [Hnsz.out, Hlen.out]; omega
end Go.Proofs.Ytgmdbleeagfhpaa
