/- The reference's TExtend. -/
import Derived.Test.YtgmdbleeagfhpaaByte2
set_option linter.unusedSimpArgs false
set_option linter.unusedVariables false
namespace Go.Proofs.Ytgmdbleeagfhpaa
open Go.RowKit
theorem OwnOf.set1 {α : Type} {f : α → List Value} {c1 : α → Value} (hf : One f c1) {e : TypeId} {w : World} {B g n c : Nat} {l : List α} (h : OwnOf f 1 e w B (.slice (some ⟨g, 0, none⟩) n c) l) (k : Nat) (x : α) :
    OwnOf f 1 e (w.setCell ⟨g, k, none⟩ (c1 x)) B (.slice (some ⟨g, 0, none⟩) n c) (l.set k x) := by
  obtain ⟨h1, h2⟩ := h
  refine ⟨by rw [hf.map, List.length_map, Nat.mul_one], ?_⟩
  rcases h2 with ⟨h2, h3⟩ | ⟨g', cap, cur, h2, h3, h4, h5, h6, h7, h8⟩
  · cases h2
  · simp only [Value.slice.injEq, Option.some.injEq, Addr.mk.injEq, and_true] at h2
    obtain ⟨rfl, rfl, rfl⟩ := h2
    refine .inr ⟨g, c, cur.setIfInBounds k (c1 x), ?_, h3, ?_, ?_, h6, ?_, ?_⟩
    · rw [List.length_set]
    · exact heap_setCell_same w g k cur e (c1 x) h4
    · rw [List.length_set]; exact h5
    · simpa using h7
    · rw [hf.map] at h8 ⊢
      rw [List.length_set, Array.toList_setIfInBounds, List.map_set, ← h8]
      rw [List.take_set]
/-- What lies in an own row's block. -/
theorem OwnOf.blk1 {α : Type} {f : α → List Value} {c1 : α → Value} (hf : One f c1) {e : TypeId} {w : World} {B g n c : Nat} {l : List α} (h : OwnOf f 1 e w B (.slice (some ⟨g, 0, none⟩) n c) l) :
    ∃ cur, B ≤ g ∧ Blk e w g cur ∧ ∀ (k : Nat) (x : α), l[k]? = some x → cur[k]? = some (c1 x) := by
  obtain ⟨h1, h2⟩ := h
  rcases h2 with ⟨h2, h3⟩ | ⟨g', cap, cur, h2, h3, h4, h5, h6, h7, h8⟩
  · cases h2
  · simp only [Value.slice.injEq, Option.some.injEq, Addr.mk.injEq, and_true] at h2
    obtain ⟨rfl, rfl, rfl⟩ := h2
    refine ⟨cur.toList, h3, by unfold Blk; simpa using h4, fun k x hx => ?_⟩
    rw [hf.map, Nat.mul_one] at h8
    have h9 : (l.map c1)[k]? = some (c1 x) := by rw [List.getElem?_map, hx]; rfl
    rw [← h8, List.getElem?_take] at h9
    split at h9
    · exact h9
    · cases h9
theorem bitsOf_own (N : Nat) (w : World) : Calls Try.prog 79 #[.agg (wcs N).toArray] w fun e w' => ∃ v, e = .returned v ∧ OwnOf bbool 1 4 w' w.heap.size v (bitsL N) ∧ Below w.heap.size w w' := bitsOf_any N w
/-- the bits of A, those from n up to i the sign's -/
def extB (A n i : Nat) : List Bool := (List.range 256).map fun j => if n ≤ j ∧ j < i then A.testBit (n - 1) else A.testBit j
theorem extB_at (A n i j : Nat) (h : j < 256) : (extB A n i)[j]? = some (if n ≤ j ∧ j < i then A.testBit (n - 1) else A.testBit j) := by simp [extB, h]
theorem extB_len (A n i : Nat) : (extB A n i).length = 256 := by simp [extB]
theorem extB_start (A n : Nat) : extB A n n = bitsL A := by
  unfold extB bitsL
  apply List.map_congr_left
  intro j _
  rw [if_neg (by omega)]
theorem extB_step (A n i : Nat) (hn : n ≤ i) (hi : i < 256) : (extB A n i).set i (A.testBit (n - 1)) = extB A n (i + 1) := by
  apply List.ext_getElem?
  intro j
  rw [List.getElem?_set]
  by_cases hj : j < 256
  · rw [extB_at A n (i + 1) j hj, extB_at A n i j hj, extB_len]
    by_cases hij : i = j
    · subst hij; simp [hn, hi]
    · simp only [if_neg hij]
      by_cases h1 : n ≤ j ∧ j < i
      · rw [if_pos h1, if_pos (by omega)]
      · rw [if_neg h1, if_neg (by omega)]
  · rw [List.getElem?_eq_none (by rw [extB_len]; omega), List.getElem?_eq_none (by rw [extB_len]; omega), extB_len]
    simp; omega
theorem extB_end (N A n : Nat) (hA : A < W256) (hN : N < 31) (hn : n = 8 * N + 8) : ofT (extB A n 256) = extN N A := by
  unfold extN
  rw [if_pos hN]
  have hX : shlN A (8 * (31 - N)) < W256 := shlN_lt _ _
  apply Nat.eq_of_testBit_eq
  intro i
  rw [ofT_bit, sarN_bit _ _ _ hX]
  by_cases hi : i < 256
  · rw [List.getD_eq_getElem?_getD, extB_at A n 256 i hi]
    rw [show decide (i < 256) = true from decide_eq_true hi, Bool.true_and, Bool.true_and, Option.getD_some]
    have hb : ∀ j, 8 * (31 - N) ≤ j → j < 256 → (shlN A (8 * (31 - N))).testBit j = A.testBit (j - 8 * (31 - N)) := by
      intro j h1 h2
      unfold shlN
      rw [W256_pow, Nat.testBit_mod_two_pow, Nat.mul_comm, Nat.testBit_two_pow_mul]
      simp [h1, h2]
    by_cases h1 : i < n
    · rw [if_neg (show ¬ (n ≤ i ∧ i < 256) by omega), if_pos (show i + 8 * (31 - N) < 256 by omega), hb _ (by omega) (by omega)]
      congr 1; omega
    · rw [if_pos (show n ≤ i ∧ i < 256 by omega), if_neg (show ¬ (i + 8 * (31 - N) < 256) by omega), hb 255 (by omega) (by omega)]
      congr 1; omega
  · simp [hi]
set_option maxHeartbeats 800000 in
set_option maxRecDepth 100000 in
theorem rextend_any (N A : Nat) (hN : N < W256) (hA : A < W256) (w : World) : Calls Try.prog 32 #[wv N, wv A] w fun e w' => e = .returned (wv (extN N A)) ∧ Below w.heap.size w w' := by
  obtain ⟨hb0, hd0, hz0, hbel0⟩ := box3 w N A
  obtain ⟨w1, hw1⟩ : ∃ w1, w1 = ((w.alloc (.cells (wcs N).toArray 24)).alloc (.cells (wcs A).toArray 24)).alloc (.cells z4.toArray 24) := ⟨_, rfl⟩
  rw [← hw1] at hb0 hd0 hz0 hbel0
  show Calls Try.prog 32 #[.agg (wcs N).toArray, .agg (wcs A).toArray] w _
  have Hw1 := Lib.hid hw1
  clear hw1
  have k0 := fun u : Ext w1 => u.cell (hb0.wat 0 (by omega))
  have k1 := fun u : Ext w1 => u.cell (hb0.wat 1 (by omega))
  have k2 := fun u : Ext w1 => u.cell (hb0.wat 2 (by omega))
  have k3 := fun u : Ext w1 => u.cell (hb0.wat 3 (by omega))
  obtain ⟨M, hM⟩ : ∃ M : Nat, M = 31 := ⟨_, rfl⟩
  have hMW : M < W256 := by rw [hM]; unfold W256; omega
  have c2 : ∀ w, Calls Try.prog 84 #[.int .u64 31] w fun e w' => e = .returned (wv M) ∧ Below w.heap.size w w' := fun w => by rw [hM]; exact wint_any 31 (by omega) w
  have C2 := Lib.hid c2
  clear c2
  have c3 := fun w => less_any N M hN hMW w
  by_cases hlt : N < 31
  · rw [decide_eq_true (show N < M by omega)] at c3
    have C3 := Lib.hid c3
    have HL := Lib.hid (show lim N 0 = N by rw [lim0]; omega)
    obtain ⟨n, hn⟩ : ∃ n, n = 8 * N + 8 := ⟨_, rfl⟩
    obtain ⟨m, hm⟩ : ∃ m, m = n - 1 := ⟨_, rfl⟩
    have e0 : IntKind.i64.wrap (N : Int) = (N : Int) := IntWalk.i64_in _ (by omega)
    have e1 : (N : Int) * 8 + 8 = (n : Int) := by omega
    have e2 : (n : Int) - 1 = (m : Int) := by omega
    have hm256 : (m : Int) < 256 := by omega
    have hm2 : m < 256 := by omega
    have hn256 : n ≤ 248 := by omega
    have hN31 : (N : Int) ≤ 30 := by omega
    have HX := Lib.hid (extB_end N A n hA hlt hn)
    have hstep := fun i => extB_step A n i
    rw [← hm] at hstep
    have Hstep := Lib.hid hstep
    obtain ⟨sg, hsg⟩ : ∃ sg, sg = A.testBit m := ⟨_, rfl⟩
    have hrd : ∀ i, (extB A n i)[m]? = some sg := fun i => by rw [extB_at A n i m hm2, if_neg (by omega), hsg]
    have Hrd := Lib.hid hrd
    have Hsg := Lib.hid hsg
    clear c3 hM hlt hstep hrd hsg hm hn
    go_enter Try.func32, Try.ntmps32
    go_wp2
    rw [show ((w.alloc (.cells (wcs N).toArray 24)).alloc (.cells (wcs A).toArray 24)).alloc (.cells #[.int .u64 0, .int .u64 0, .int .u64 0, .int .u64 0] 24) = w1 from by rw [Hw1.out]; rfl]
    refine wp_region_typed w1 4 (by kernel_rfl) (by kernel_rfl) (Below.refl _ _) ?_; simp only [List.take_succ_cons, List.take_zero, List.take_nil]
    (refine wpX_step (by rfl) (fun K hK => ?_); go_simp; first | (refine hK _ ?_; clear hK K) | (apply Exists.intro; refine ⟨fun _ => ?_, hK _ ?_⟩; fail; clear hK K))
    (refine wpX_step (by rfl) (fun K hK => ?_); go_simp; first | (refine hK _ ?_; clear hK K) | (apply Exists.intro; refine ⟨fun _ => ?_, hK _ ?_⟩; exact C2.out _; clear hK K))
    (refine wpX_step (by rfl) (fun K hK => ?_); go_simp; first | (refine hK _ ?_; clear hK K) | (apply Exists.intro; refine ⟨fun _ => ?_, hK _ ?_⟩; exact C3.out _; clear hK K))
    (refine wpX_step (by rfl) (fun K hK => ?_); go_simp; first | (refine hK _ ?_; clear hK K) | (apply Exists.intro; refine ⟨fun _ => ?_, hK _ ?_⟩; fail; clear hK K))
    refine wpX_end rfl ?_
    rintro w4 hw4
    simp only [List.reverse_nil, forallRel]
    have hb4 := hb0.kept hw4
    have hd4 := hd0.kept hw4
    have hz4 := hz0.kept hw4
    have hbel4 := Below.then hbel0 hw4
    clear k0 k1 k2 k3 hw4
    have n0 := hb4.wat 0 (by omega)
    rw [HL.out] at n0
    go_wp2_with (first
      | (refine wpList_loadA (o := ⟨some 18, _, _, _, _, _⟩) (by rfl) 24 (.tmp 3) (by rfl) (w.heap.size + 1) (by rfl) aggWord hd4 (wcs_len _) ?_)
      | (go_at_call 79; (with_reducible refine (bitsOf_own A _).mono ?_); rintro e w5 ⟨v5, rfl, h5, b5⟩; have hz5 := hz4.kept b5; have hbel5 := Below.then hbel4 b5; obtain ⟨a5, c5, rfl, _⟩ := h5.form' 256 (bitsL_len A); obtain ⟨g, rfl, hg, _⟩ := h5.lies (by omega); rw [← extB_start A n] at h5))
    have hzlt := hz4.lt
    go_loopw [7] (fun ix wr => ∃ i : Nat, n ≤ i ∧ i ≤ 256 ∧ ix = .int .i64 (i : Int) ∧ OwnOf bbool 1 4 wr w4.heap.size (.slice (some ⟨g, 0, none⟩) 256 c5) (extB A n i) ∧ Below w.heap.size w wr ∧ Blk 24 wr (w.heap.size + 2) z4) (fun ix _ => 256 - (intOf ix).toNat)
    case atStart => exact ⟨n, Nat.le_refl _, by omega, rfl, h5, hbel5, hz5⟩
    case round =>
      clear h5 hbel5 hz5 n0
      obtain ⟨i, hni, hi, rfl, hown, hbel, hz⟩ := hrel
      by_cases hlt : i < 256
      · have hii : (i : Int) < 256 := by omega
        obtain ⟨cur, hgB, hblk, hcur⟩ := hown.blk1 one_bool
        have hcm : wr.cell? ⟨g, m, none⟩ = some (.bool sg) := by rw [hblk.cell]; exact hcur m sg (Hrd.out i)
        obtain ⟨yi, hyi⟩ : ∃ y, wr.cell? ⟨g, i, none⟩ = some y := ⟨_, (hblk.cell i).trans (hcur i _ (extB_at A n i i hlt))⟩
        have hfi := hblk.free i
        have hset := hown.set1 one_bool i sg
        have hst := Hstep.out i hni hlt
        rw [← Hsg.out] at hst
        rw [hst] at hset
        have hbel2 := hbel.setCell (p := ⟨g, i, none⟩) (by show w.heap.size ≤ g; have := hbel4.size; omega) (.bool sg)
        have hz2 := hz.other ⟨g, i, none⟩ (by show g ≠ _; omega) (.bool sg)
        clear hcur hst hblk hown hbel hz
        go_wp2
        go_roundw
        case rel => exact ⟨i + 1, by omega, by omega, by go_num, hset, hbel2, hz2⟩
        case measure => simp [intOf]; omega
      · obtain rfl : i = 256 := by omega
        go_wp2_with (first
          | (go_at_call 77; (with_reducible refine (ofBits_l _ 256 c5 _ _ (extB_len A n 256) HX.out _ hown.row).mono ?_); rintro e w6 ⟨rfl, b6⟩; have hz6 := hz.kept b6; have hbel6 := Below.then hbel b6)
          | (refine wpList_storeA (by rfl) 24 (.tmp 4) (.tmp 34) (by rfl) (w.heap.size + 2) (wcs (extN N A)) (by rfl) (by rfl) aggWord hz6 (wcs_len _) (by first | exact wcs_len _ | rfl) (wcs_one _) (Below.refl _ _) (Nat.le_refl _) ?_; intro w7 hb7 b7 g7; have hbel7 := hbel6.trans (b7.mono (by omega))))
        exact bodyPost_ret (results_blk rfl _ _ (w.heap.size + 2) aggWord hb7 (wcs_len _) rfl) rfl ⟨rfl, hbel7⟩
  · rw [decide_eq_false (show ¬ N < M by omega)] at c3
    have C3 := Lib.hid c3
    have HX := Lib.hid (show extN N A = A from if_neg hlt)
    clear c3 hM hlt
    go_enter Try.func32, Try.ntmps32
    go_wp2
    rw [show ((w.alloc (.cells (wcs N).toArray 24)).alloc (.cells (wcs A).toArray 24)).alloc (.cells #[.int .u64 0, .int .u64 0, .int .u64 0, .int .u64 0] 24) = w1 from by rw [Hw1.out]; rfl]
    refine wp_region_typed w1 4 (by kernel_rfl) (by kernel_rfl) (Below.refl _ _) ?_; simp only [List.take_succ_cons, List.take_zero, List.take_nil]
    (refine wpX_step (by rfl) (fun K hK => ?_); go_simp; first | (refine hK _ ?_; clear hK K) | (apply Exists.intro; refine ⟨fun _ => ?_, hK _ ?_⟩; fail; clear hK K))
    (refine wpX_step (by rfl) (fun K hK => ?_); go_simp; first | (refine hK _ ?_; clear hK K) | (apply Exists.intro; refine ⟨fun _ => ?_, hK _ ?_⟩; exact C2.out _; clear hK K))
    (refine wpX_step (by rfl) (fun K hK => ?_); go_simp; first | (refine hK _ ?_; clear hK K) | (apply Exists.intro; refine ⟨fun _ => ?_, hK _ ?_⟩; exact C3.out _; clear hK K))
    (refine wpX_step (by rfl) (fun K hK => ?_); go_simp; first | (refine hK _ ?_; clear hK K) | (apply Exists.intro; refine ⟨fun _ => ?_, hK _ ?_⟩; fail; clear hK K))
    refine wpX_end rfl ?_
    rintro w4 hw4
    simp only [List.reverse_nil, forallRel]
    have hb4 := hb0.kept hw4
    have hd4 := hd0.kept hw4
    have hz4 := hz0.kept hw4
    have hbel4 := Below.then hbel0 hw4
    clear k0 k1 k2 k3 hw4
    go_wp2_with (first
      | (refine wpList_loadA (o := ⟨some 12, _, _, _, _, _⟩) (by rfl) 24 (.tmp 3) (by rfl) (w.heap.size + 1) (by rfl) aggWord hd4 (wcs_len _) ?_)
      | (refine wpList_storeA (by rfl) 24 (.tmp 4) (.tmp 12) (by rfl) (w.heap.size + 2) (wcs (A)) (by rfl) (by rfl) aggWord hz4 (wcs_len _) (by first | exact wcs_len _ | rfl) (wcs_one _) (Below.refl _ _) (Nat.le_refl _) ?_; intro w7 hb7 b7 g7; have hbel7 := hbel4.trans (b7.mono (by omega))))
    exact bodyPost_ret (results_blk rfl _ _ (w.heap.size + 2) aggWord hb7 (wcs_len _) rfl) rfl ⟨by rw [HX.out]; rfl, hbel7⟩
end Go.Proofs.Ytgmdbleeagfhpaa
