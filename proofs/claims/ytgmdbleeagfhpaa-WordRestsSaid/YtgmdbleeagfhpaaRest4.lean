/- word.AddMod. -/
import Derived.Test.YtgmdbleeagfhpaaRest3
set_option linter.unusedSimpArgs false
set_option linter.unusedVariables false
namespace Go.Proofs.Ytgmdbleeagfhpaa
open Go.RowKit
set_option maxHeartbeats 1000000 in
set_option maxRecDepth 100000 in
theorem addmod_any (N M P : Nat) (hN : N < W256) (hM : M < W256) (hP : P < W256) (w : World) :
    Calls Try.prog 19 #[wv N, wv M, wv P] w fun e w' => e = .returned (wv (modN (N + M) P)) ∧ Below w.heap.size w w' := by
  have hF := box33 w N M P
  obtain ⟨w1, hw1⟩ : ∃ w1, w1 = (((w.alloc (.cells (wcs N).toArray 24)).alloc (.cells (wcs M).toArray 24)).alloc (.cells (wcs P).toArray 24)).alloc (.cells z4.toArray 24) := ⟨_, rfl⟩
  rw [← hw1] at hF
  have Hw1 := Lib.hid hw1
  show Calls Try.prog 19 #[.agg (wcs N).toArray, .agg (wcs M).toArray, .agg (wcs P).toArray] w _
  have hq := eq_zero P hP
  clear hw1
  by_cases hP0 : P = 0
  · rw [decide_eq_true hP0] at hq
    have HS := Lib.hid (show modN (N + M) P = 0 from if_pos hP0)
    clear hP0
    go_enter Try.func19, Try.ntmps19
    go_wp2_with (first
      | (rw [show (((w.alloc (.cells (wcs N).toArray 24)).alloc (.cells (wcs M).toArray 24)).alloc (.cells (wcs P).toArray 24)).alloc (.cells #[.int .u64 0, .int .u64 0, .int .u64 0, .int .u64 0] 24) = w1 from by rw [Hw1.out]; rfl])
      | (refine wpList_loadA (o := ⟨some 9, _, _, _, _, _⟩) (by rfl) 24 (.tmp 5) (by rfl) (w.heap.size + 2) (by rfl) aggWord hF.c (wcs_len _) ?_)
      | (refine wpList_loadA (o := ⟨some 12, _, _, _, _, _⟩) (by rfl) 24 (.tmp 6) (by rfl) (w.heap.size + 3) (by rfl) aggWord hF.r (wcs_len _) ?_)
      | (refine wpList_storeA (by rfl) 24 (.tmp 6) (.tmp 12) (by rfl) (w.heap.size + 3) (wcs (0)) (by rfl) (by rfl) aggWord hF.r (wcs_len _) (by first | exact wcs_len _ | rfl) (wcs_one _) (Below.refl _ _) (Nat.le_refl _) ?_; intro w7 o7 b7 g7; have hF7 := hF.put o7 b7 g7))
    exact bodyPost_ret (results_blk rfl _ _ (w.heap.size + 3) aggWord hF7.r (wcs_len _) rfl) rfl ⟨by rw [HS.out]; rfl, hF7.bel⟩
  · rw [decide_eq_false hP0] at hq
    have hpos : 0 < P := Nat.pos_of_ne_zero hP0
    rw [modN_pos hpos]
    obtain ⟨S, hS⟩ : ∃ S, S = addN N M := ⟨_, rfl⟩
    obtain ⟨k, hk⟩ : ∃ k, k = car 64 N M 4 := ⟨_, rfl⟩
    have hval := valL_sum N M hN hM
    rw [← hS, ← hk] at hval
    have hkB : k < B64 := by have := car_le 64 N M 4; rw [hk]; unfold B64; omega
    have hcon : ∀ (a : Option Addr) (c : Nat) (u : World), Nums u (.slice a 5 c) [lim S 0, lim S 1, lim S 2, lim S 3, k] →
        Calls Try.prog 72 #[.slice a 5 c, .agg (wcs P).toArray] u fun e w' => e = .returned (.tuple #[wv ((N + M) / P % W256), wv ((N + M) % P)]) ∧ Below u.heap.size u w' := by
      intro a c u hr
      have := divide_any a c [lim S 0, lim S 1, lim S 2, lim S 3, k] (by simp) (fun d hd => by
        simp only [List.mem_cons, List.not_mem_nil, or_false] at hd
        rcases hd with rfl | rfl | rfl | rfl | rfl
        · exact lim_lt _ _
        · exact lim_lt _ _
        · exact lim_lt _ _
        · exact lim_lt _ _
        · exact hkB) P hP hpos u hr
      rw [hval] at this; exact this
    have cs := fun w => wsum_l N M w
    rw [← hS, ← hk] at cs
    have Hcon := Lib.hid hcon
    have Hcs := Lib.hid cs
    clear hP0 hpos hcon cs hval hS hk hkB
    go_enter Try.func19, Try.ntmps19
    go_wp2_with (first
      | (rw [show (((w.alloc (.cells (wcs N).toArray 24)).alloc (.cells (wcs M).toArray 24)).alloc (.cells (wcs P).toArray 24)).alloc (.cells #[.int .u64 0, .int .u64 0, .int .u64 0, .int .u64 0] 24) = w1 from by rw [Hw1.out]; rfl])
      | (refine wpList_loadA (o := ⟨some 9, _, _, _, _, _⟩) (by rfl) 24 (.tmp 5) (by rfl) (w.heap.size + 2) (by rfl) aggWord hF.c (wcs_len _) ?_)
      | (refine wpList_loadA (o := ⟨some 14, _, _, _, _, _⟩) (by rfl) 24 (.tmp 3) (by rfl) (w.heap.size) (by rfl) aggWord hF.a (wcs_len _) ?_)
      | (refine wpList_loadA (o := ⟨some 15, _, _, _, _, _⟩) (by rfl) 24 (.tmp 4) (by rfl) (w.heap.size + 1) (by rfl) aggWord hF.b (wcs_len _) ?_)
      | (go_at_call 71; (with_reducible refine (Hcs.out _).mono ?_); rintro e w2 ⟨rfl, b2⟩; have hF2 := hF.kept b2; have hs2 := hF2.size)
      | (refine wpList_storeA (by rfl) 24 (.tmp 7) (.tmp 17) (by rfl) (w2.heap.size) (wcs (S)) (by rfl) (by rfl) aggWord (Blk.new w2 24 z4) (wcs_len _) (by first | exact wcs_len _ | rfl) (wcs_one _) (Below.refl _ _) (Nat.le_refl _) ?_; intro w3 o3 b3 g3; have hF3 := (hF2.alloc (by omega) (.cells z4.toArray 24)).far g3 b3 (by omega)))
    refine wp_region_h (fun u => Blk 24 u (w.heap.size + 2) (wcs P)) (by kernel_rfl) ?_; intro u0 hu0; simp only [List.length_cons, List.length_nil, Nat.reduceAdd, List.replicate_succ, List.replicate_zero]
    have hU0 : Fr33 w N M P 0 u0 := (by rw [hu0]; exact hF3.drew)
    have o0 : Blk 24 u0 w2.heap.size (wcs S) := (by rw [hu0]; exact o3.drew)
    have hS0 : (fun u => Blk 24 u (w.heap.size + 2) (wcs P)) u0 := hU0.c
    clear hu0 hF hF2 hF3 o3 b3 g3 b2
    generalize w2.heap.size = g at *
    (refine wpH_take 0 (by rfl) (by kernel_rfl) (by intro _ _ _ h; first | exact h | (cases h.1)) (by intro _ _ _ _ h; first | exact h | (cases h.1)) (by assumption) (fun K hK => ?_); simp only [List.setIfInBounds_toArray, List.set_cons_zero, List.set_cons_succ] at hK; go_simp; first | (refine hK _ ?_; clear hK K) | (apply Exists.intro; refine ⟨fun _ => rfl, hK _ ?_⟩; clear hK K))
    (refine wpH_take 1 (by rfl) (by kernel_rfl) (by intro _ _ _ h; first | exact h | (cases h.1)) (by intro _ _ _ _ h; first | exact h | (cases h.1)) (by assumption) (fun K hK => ?_); simp only [List.setIfInBounds_toArray, List.set_cons_zero, List.set_cons_succ] at hK; go_simp; first | (refine hK _ ?_; clear hK K) | (apply Exists.intro; refine ⟨fun _ => rfl, hK _ ?_⟩; clear hK K))
    (refine wpH_take 4 (by rfl) (by kernel_rfl) (by intro _ _ _ h; first | exact h | (cases h.1)) (by intro _ _ _ _ h; first | exact h | (cases h.1)) (by assumption) (fun K hK => ?_); simp only [List.setIfInBounds_toArray, List.set_cons_zero, List.set_cons_succ] at hK; refine take_loadA (by rfl) 24 (.tmp 5) (by rfl) (w.heap.size + 2) (by rfl) aggWord (fun u hu => hu) (wcs_len _) (hK _ ?_); clear hK K; simp only [Act.put, List.getElem_toArray, List.getElem_cons_zero, List.getElem_cons_succ, List.setIfInBounds_toArray, List.set_cons_zero, List.set_cons_succ])
    have hsz0 := hU0.size
    (refine wpH_only 2 (by rfl) (by kernel_rfl) (fun K hK => ?_); simp only [List.setIfInBounds_toArray, List.set_cons_zero, List.set_cons_succ] at hK; go_simp)
    have hU1 := hU0.alloc (by omega) (.cells #[.int .u64 (k : Int)] 22)
    have o1 := o0.alloc (.cells #[.int .u64 (k : Int)] 22)
    have n1 := Blk.new u0 22 [.int .u64 (k : Int)]
    have hS1 : (fun u => Blk 24 u (w.heap.size + 2) (wcs P)) (u0.alloc (.cells #[.int .u64 (k : Int)] 22)) := hU1.c
    refine hK _ _ hS1 ?_; clear hK K
    obtain ⟨i, hi, hz, hsi, hby⟩ := elU64.info
    refine wpH_only 3 (by rfl) (by kernel_rfl) (fun K hK => ?_)
    simp only [List.setIfInBounds_toArray, List.set_cons_zero, List.set_cons_succ] at hK
    refine step_append_grows (by rfl) (.tmp 20) (.tmp 22) 82 (by rfl) 22 i (.int .u64 0) 1 8 elU64.ht hi hz hsi hby elU64.hzs elU64.hsz (some ⟨g, 0, none⟩) 4 4 (wcs S) (by rfl) (fun h => by cases h) (by rfl) (fun b hb j y hj => ?_) ⟨u0.heap.size, 0, none⟩ 1 1 [.int .u64 (k : Int)] (by rfl) (by rfl) (fun j y hj => ?_) (fun y hy => ?_) (by omega) (by unfold maxLen; omega) (by omega) ?_
    · obtain rfl : (⟨g, 0, none⟩ : Addr) = b := by simpa using hb
      have hadd : (⟨g, 0, none⟩ : Addr).add j = ⟨g, 0 + j, none⟩ := by unfold Addr.add; split <;> simp_all
      rw [hadd, Nat.zero_add, o1.cell]; exact hj
    · have hadd : (⟨u0.heap.size, 0, none⟩ : Addr).add j = ⟨u0.heap.size, 0 + j, none⟩ := by unfold Addr.add; split <;> simp_all
      rw [hadd, Nat.zero_add]
      have := n1.cell j
      rw [hj] at this; exact this
    · simp only [List.mem_cons, List.not_mem_nil, or_false] at hy
      subst hy; rfl
    intro v2 u2 hown hgr
    have hb2 : Below (u0.alloc (.cells #[.int .u64 (k : Int)] 22)).heap.size (u0.alloc (.cells #[.int .u64 (k : Int)] 22)) u2 := (Below.refl _ _).grown hgr (Nat.le_refl _) (fun k hk => by cases hk)
    have hU2 := hU1.kept hb2
    have hrow : OwnOf n64 1 22 u2 (u0.alloc (.cells #[.int .u64 (k : Int)] 22)).heap.size v2 [lim S 0, lim S 1, lim S 2, lim S 3, k] := hown
    obtain ⟨a, c, rfl, _⟩ := hrow.form' 5 rfl
    have hS2 : (fun u => Blk 24 u (w.heap.size + 2) (wcs P)) u2 := hU2.c
    refine hK _ _ hS2 ?_; clear hK K
    simp only [Act.put, List.getElem_toArray, List.getElem_cons_zero, List.getElem_cons_succ, List.setIfInBounds_toArray, List.set_cons_zero, List.set_cons_succ]
    (refine wpH_only 5 (by rfl) (by kernel_rfl) (fun K hK => ?_); simp only [List.setIfInBounds_toArray, List.set_cons_zero, List.set_cons_succ] at hK; go_simp)
    (with_reducible refine (Hcon.out _ _ _ hrow.row).mono ?_)
    rintro e u3 ⟨rfl, b3⟩
    have hU3 := hU2.kept b3
    have hS3 : (fun u => Blk 24 u (w.heap.size + 2) (wcs P)) u3 := hU3.c
    refine hK _ _ hS3 ?_; clear hK K
    (refine wpH_take 6 (by rfl) (by kernel_rfl) (by intro _ _ _ h; first | exact h | (cases h.1)) (by intro _ _ _ _ h; first | exact h | (cases h.1)) (by assumption) (fun K hK => ?_); simp only [List.setIfInBounds_toArray, List.set_cons_zero, List.set_cons_succ] at hK; go_simp; first | (refine hK _ ?_; clear hK K) | (apply Exists.intro; refine ⟨fun _ => rfl, hK _ ?_⟩; clear hK K)); (refine wpH_take 7 (by rfl) (by kernel_rfl) (by intro _ _ _ h; first | exact h | (cases h.1)) (by intro _ _ _ _ h; first | exact h | (cases h.1)) (by assumption) (fun K hK => ?_); simp only [List.setIfInBounds_toArray, List.set_cons_zero, List.set_cons_succ] at hK; go_simp; first | (refine hK _ ?_; clear hK K) | (apply Exists.intro; refine ⟨fun _ => rfl, hK _ ?_⟩; clear hK K)); (refine wpH_take 8 (by rfl) (by kernel_rfl) (by intro _ _ _ h; first | exact h | (cases h.1)) (by intro _ _ _ _ h; first | exact h | (cases h.1)) (by assumption) (fun K hK => ?_); simp only [List.setIfInBounds_toArray, List.set_cons_zero, List.set_cons_succ] at hK; go_simp; first | (refine hK _ ?_; clear hK K) | (apply Exists.intro; refine ⟨fun _ => rfl, hK _ ?_⟩; clear hK K))
    (refine wpH_only 9 (by rfl) (by kernel_rfl) (fun K hK => ?_); simp only [List.setIfInBounds_toArray, List.set_cons_zero, List.set_cons_succ] at hK; refine step_storeA (by rfl) 24 (.tmp 6) (.tmp 27) (by rfl) (w.heap.size + 3) (wcs ((N + M) % P)) (by rfl) (by rfl) aggWord hU3.r (wcs_len _) (by first | exact wcs_len _ | rfl) (wcs_one _) ?_; intro u4 o4 b4 g4; simp only [Act.put, List.getElem_toArray, List.getElem_cons_zero, List.getElem_cons_succ, List.setIfInBounds_toArray, List.set_cons_zero, List.set_cons_succ])
    have hU4 := hU3.put o4 b4 g4
    have hS4 : (fun u => Blk 24 u (w.heap.size + 2) (wcs P)) u4 := hU4.c
    refine hK _ _ hS4 ?_; clear hK K
    refine wpH_done (by kernel_rfl) ?_
    go_wp2_with (first
      | (refine wpList_loadA (o := ⟨some 28, _, _, _, _, _⟩) (by rfl) 24 (.tmp 6) (by rfl) (w.heap.size + 3) (by rfl) aggWord hU4.r (wcs_len _) ?_)
      | (refine wpList_storeA (by rfl) 24 (.tmp 6) (.tmp 28) (by rfl) (w.heap.size + 3) (wcs ((N + M) % P)) (by rfl) (by rfl) aggWord hU4.r (wcs_len _) (by first | exact wcs_len _ | rfl) (wcs_one _) (Below.refl _ _) (Nat.le_refl _) ?_; intro w8 o8 b8 g8; have hF8 := hU4.put o8 b8 g8))
    exact bodyPost_ret (results_blk rfl _ _ (w.heap.size + 3) aggWord hF8.r (wcs_len _) rfl) rfl ⟨rfl, hF8.bel⟩
end Go.Proofs.Ytgmdbleeagfhpaa
