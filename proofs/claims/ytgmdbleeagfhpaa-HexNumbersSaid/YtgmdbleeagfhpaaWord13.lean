/- word.sum, word.Add; math/bits.Mul64. -/
import Derived.Test.YtgmdbleeagfhpaaWord12
import Derived.Shelf.Bits.Mul64
set_option linter.unusedSimpArgs false
set_option linter.unusedVariables false
namespace Go.Proofs.Ytgmdbleeagfhpaa
open Go.RowKit
theorem add64_run (x y c : Nat) (hc : c ≤ 1) (w : World) :
    (callFunc 116 #[.int .u64 x, .int .u64 y, .int .u64 c]).run Try.prog w =
      .ok (.value (.tuple #[.int .u64 (((x + y + c) % 18446744073709551616 : Nat) : Int), .int .u64 (((x + y + c) / 18446744073709551616 : Nat) : Int)])) w := by
  rw [run_callFunc_extern Try.func116 (by kernel_rfl) (by kernel_rfl) (by kernel_rfl) (e := add64Entry) (by kernel_rfl), run_add64 x y c (by omega) (by omega) (by omega) (by omega)]
  simp only [Result.andThen]
  congr 5 <;> omega
set_option maxHeartbeats 1000000 in
theorem mul64_any (x y : Nat) (hx : x < 18446744073709551616) (hy : y < 18446744073709551616) (w : World) :
    Calls Try.prog 117 #[.int .u64 x, .int .u64 y] w fun e w' => e = .returned (.tuple #[.int .u64 ((x * y / 18446744073709551616 : Nat) : Int), .int .u64 ((x * y % 18446744073709551616 : Nat) : Int)]) ∧ w' = w := by
  obtain ⟨bd, bt, bw, hhi⟩ := Lib.mul64_hi x y hx hy
  have ba := Lib.half_mul_le (a := x / 4294967296) (b := y / 4294967296) (by omega) (by omega)
  have bb := Lib.half_mul_le (a := x / 4294967296) (b := y % 4294967296) (by omega) (by omega)
  have bc := Lib.half_mul_le (a := x % 4294967296) (b := y / 4294967296) (by omega) (by omega)
  have ba' : x / 4294967296 * (y / 4294967296) < 18446744073709551616 := by omega
  have bb' : x / 4294967296 * (y % 4294967296) < 18446744073709551616 := by omega
  have bc' : x % 4294967296 * (y / 4294967296) < 18446744073709551616 := by omega
  have bh1 : x / 4294967296 * (y / 4294967296) + (x / 4294967296 * (y % 4294967296) + x % 4294967296 * (y % 4294967296) / 4294967296) / 4294967296 < 18446744073709551616 := by omega
  have bh : x / 4294967296 * (y / 4294967296) + (x / 4294967296 * (y % 4294967296) + x % 4294967296 * (y % 4294967296) / 4294967296) / 4294967296 + ((x / 4294967296 * (y % 4294967296) + x % 4294967296 * (y % 4294967296) / 4294967296) % 4294967296 + x % 4294967296 * (y / 4294967296)) / 4294967296 < 18446744073709551616 := by omega
  go_enter Try.func117, Try.ntmps117
  go_wp2
  simp only [Mul64.maskN x hx, Mul64.maskN y hy, Mul64.divN, Mul64.mulN, Mul64.addN, Mul64.wrapN _ bd, Mul64.wrapN _ bb', Mul64.wrapN _ bt, Mul64.maskN _ bt, Mul64.wrapN _ bc', Mul64.wrapN _ bw, Mul64.wrapN _ ba', Mul64.wrapN _ bh1, Mul64.wrapN _ bh, Mul64.wrapM (x * y)]
  rw [hhi]
  go_ret2
  exact ⟨rfl, rfl⟩
set_option maxHeartbeats 400000 in
set_option maxRecDepth 100000 in
theorem wsum_any (N M : Nat) (w : World) :
    Calls Try.prog 71 #[wv N, wv M] w fun e w' => e = .returned (.tuple #[wv (addN N M), .int .u64 (car 64 N M 4 : Int)]) ∧ Below w.heap.size w w' := by
  obtain ⟨w1, hw1⟩ : ∃ w1, w1 = ((w.alloc (.cells (wcs N).toArray 24)).alloc (.cells (wcs M).toArray 24)).alloc (.cells z4.toArray 24) := ⟨_, rfl⟩
  have hb0 : Blk 24 w1 w.heap.size (wcs N) := by rw [hw1]; exact ((boxW w N).alloc _).alloc _
  have hd0 : Blk 24 w1 (w.heap.size + 1) (wcs M) := by
    have := Blk.new (w.alloc (.cells (wcs N).toArray 24)) 24 (wcs M)
    rw [hw1]; simpa using (this.alloc (.cells z4.toArray 24))
  have hz0 : Blk 24 w1 (w.heap.size + 2) z4 := by
    have := Blk.new ((w.alloc (.cells (wcs N).toArray 24)).alloc (.cells (wcs M).toArray 24)) 24 z4
    rw [hw1]; simpa using this
  have hbel0 : Below w.heap.size w w1 := by rw [hw1]; exact (((Below.refl _ _).alloc (Nat.le_refl _) _).alloc (by simp) _).alloc (by simp; omega) _
  show Calls Try.prog 71 #[.agg (wcs N).toArray, .agg (wcs M).toArray] w _
  obtain ⟨T, hT⟩ : ∃ T, T = wcs (addN N M) := ⟨_, rfl⟩
  have hTn : T.length = 4 := by rw [hT]; rfl
  have HT := Lib.hid hT
  have HTn := Lib.hid hTn
  clear hT hTn
  go_enter Try.func71, Try.ntmps71
  go_wp2
  rw [show ((w.alloc (.cells (wcs N).toArray 24)).alloc (.cells (wcs M).toArray 24)).alloc (.cells #[.int .u64 0, .int .u64 0, .int .u64 0, .int .u64 0] 24) = w1 from hw1.symm]
  clear hw1
  go_loopw [5, 6, 7] (fun b _ i wr => ∃ k : Nat, k ≤ 4 ∧ i = .int .i64 (k : Int) ∧ b = .int .u64 (car 64 N M k : Int) ∧ Blk 24 wr w.heap.size (wcs N) ∧ Blk 24 wr (w.heap.size + 1) (wcs M) ∧ Blk 24 wr (w.heap.size + 2) (fillL T (.int .u64 0) k) ∧ Below w.heap.size w wr) (fun _ _ i _ => 4 - (intOf i).toNat)
  case atStart => exact ⟨0, by omega, rfl, by rw [car_zero]; rfl, hb0, hd0, by rw [fill_zero, HTn.out]; exact hz0, hbel0⟩
  case round =>
    clear hb0 hd0 hz0 hbel0
    obtain ⟨k, hk, rfl, rfl, hb, hd, hz, hbel⟩ := hrel
    by_cases hlt : k < 4
    · have hc := hb.wat k hlt
      have hc2 := hd.wat k hlt
      have hki : (k : Int) < 4 := by omega
      have hbl := car_le 64 N M k
      have hss := car_dgt 64 N M k (by omega)
      have hbs := car_step 64 N M k
      rw [dgt64, dgt64, dgt64] at hss
      rw [dgt64, dgt64] at hbs
      have hrun := fun w2 : World => add64_run (lim N k) (lim M k) (car 64 N M k) hbl w2
      rw [show (18446744073709551616 : Nat) = 2 ^ 64 from rfl, hss, ← hbs] at hrun
      have hTk : T[k]? = some (.int .u64 (lim (addN N M) k : Int)) := by rw [HT.out, wcs_at _ k hlt]
      have hset := fill_set' T (.int .u64 0) k _ hTk
      have hfl : k < (fillL T (.int .u64 0) k).length := by rw [fill_len _ _ _ (by rw [HTn.out]; omega), HTn.out]; exact hlt
      have Hset := Lib.hid hset
      have Hfl := Lib.hid hfl
      clear hset hTk hss hbs hfl hc hc2
      go_wp2
      refine wp_region_h (fun u => Blk 24 u w.heap.size (wcs N) ∧ Blk 24 u (w.heap.size + 1) (wcs M)) (by kernel_rfl) ?_; intro w2 hw2; simp only [List.length_cons, List.length_nil, Nat.reduceAdd, List.replicate_succ, List.replicate_zero]
      have k0 : ∀ u : In (fun u => Blk 24 u w.heap.size (wcs N) ∧ Blk 24 u (w.heap.size + 1) (wcs M)), u.val.cell? ⟨w.heap.size, k, none⟩ = some (.int .u64 (lim N k : Int)) := fun u => Blk.wat (u.held.1) k hlt
      have k1 : ∀ u : In (fun u => Blk 24 u w.heap.size (wcs N) ∧ Blk 24 u (w.heap.size + 1) (wcs M)), u.val.cell? ⟨w.heap.size + 1, k, none⟩ = some (.int .u64 (lim M k : Int)) := fun u => Blk.wat (u.held.2) k hlt
      replace hb : Blk 24 w2 w.heap.size (wcs N) := by rw [hw2]; exact hb.drew
      replace hd : Blk 24 w2 (w.heap.size + 1) (wcs M) := by rw [hw2]; exact hd.drew
      replace hz : Blk 24 w2 (w.heap.size + 2) (fillL T (.int .u64 0) k) := by rw [hw2]; exact hz.drew
      replace hbel : Below w.heap.size w w2 := by rw [hw2]; exact hbel.drew
      have hS : (fun u => Blk 24 u w.heap.size (wcs N) ∧ Blk 24 u (w.heap.size + 1) (wcs M)) w2 := ⟨hb, hd⟩
      clear hw2
      obtain ⟨y2, hy2⟩ := hz.has k Hfl.out
      have hf2 := hz.free k
      have hy3 := hz.set k (.int .u64 (lim (addN N M) k : Int))
      rw [Hset.out] at hy3
      have hb' := hb.other ⟨w.heap.size + 2, k, none⟩ (by simp) (.int .u64 (lim (addN N M) k : Int))
      have hd' := hd.other ⟨w.heap.size + 2, k, none⟩ (by simp) (.int .u64 (lim (addN N M) k : Int))
      have hbel' := hbel.setCell (p := ⟨w.heap.size + 2, k, none⟩) (by simp) (.int .u64 (lim (addN N M) k : Int))
      clear hb hd hz hbel
      (refine wpH_take 0 (by rfl) (by kernel_rfl) (by intro _ _ _ h; first | exact h | (cases h.1)) (by intro _ _ _ _ h; first | exact h | (cases h.1)) (by assumption) (fun K hK => ?_); simp only [List.setIfInBounds_toArray, List.set_cons_zero, List.set_cons_succ] at hK; go_simp; first | (refine hK _ ?_; clear hK K) | (apply Exists.intro; refine ⟨fun _ => rfl, hK _ ?_⟩; clear hK K)); (refine wpH_take 1 (by rfl) (by kernel_rfl) (by intro _ _ _ h; first | exact h | (cases h.1)) (by intro _ _ _ _ h; first | exact h | (cases h.1)) (by assumption) (fun K hK => ?_); simp only [List.setIfInBounds_toArray, List.set_cons_zero, List.set_cons_succ] at hK; go_simp; first | (refine hK _ ?_; clear hK K) | (apply Exists.intro; refine ⟨fun _ => rfl, hK _ ?_⟩; clear hK K)); (refine wpH_take 2 (by rfl) (by kernel_rfl) (by intro _ _ _ h; first | exact h | (cases h.1)) (by intro _ _ _ _ h; first | exact h | (cases h.1)) (by assumption) (fun K hK => ?_); simp only [List.setIfInBounds_toArray, List.set_cons_zero, List.set_cons_succ] at hK; go_simp; first | (refine hK _ ?_; clear hK K) | (apply Exists.intro; refine ⟨fun _ => rfl, hK _ ?_⟩; clear hK K)); (refine wpH_take 3 (by rfl) (by kernel_rfl) (by intro _ _ _ h; first | exact h | (cases h.1)) (by intro _ _ _ _ h; first | exact h | (cases h.1)) (by assumption) (fun K hK => ?_); simp only [List.setIfInBounds_toArray, List.set_cons_zero, List.set_cons_succ] at hK; go_simp; first | (refine hK _ ?_; clear hK K) | (apply Exists.intro; refine ⟨fun _ => rfl, hK _ ?_⟩; clear hK K)); (refine wpH_take 4 (by rfl) (by kernel_rfl) (by intro _ _ _ h; first | exact h | (cases h.1)) (by intro _ _ _ _ h; first | exact h | (cases h.1)) (by assumption) (fun K hK => ?_); simp only [List.setIfInBounds_toArray, List.set_cons_zero, List.set_cons_succ] at hK; go_simp; first | (refine hK _ ?_; clear hK K) | (apply Exists.intro; refine ⟨fun _ => rfl, hK _ ?_⟩; clear hK K)); (refine wpH_take 5 (by rfl) (by kernel_rfl) (by intro _ _ _ h; first | exact h | (cases h.1)) (by intro _ _ _ _ h; first | exact h | (cases h.1)) (by assumption) (fun K hK => ?_); simp only [List.setIfInBounds_toArray, List.set_cons_zero, List.set_cons_succ] at hK; go_simp; first | (refine hK _ ?_; clear hK K) | (apply Exists.intro; refine ⟨fun _ => rfl, hK _ ?_⟩; clear hK K)); (refine wpH_take 6 (by rfl) (by kernel_rfl) (by intro _ _ _ h; first | exact h | (cases h.1)) (by intro _ _ _ _ h; first | exact h | (cases h.1)) (by assumption) (fun K hK => ?_); simp only [List.setIfInBounds_toArray, List.set_cons_zero, List.set_cons_succ] at hK; go_simp; first | (refine hK _ ?_; clear hK K) | (apply Exists.intro; refine ⟨fun _ => rfl, hK _ ?_⟩; clear hK K)); (refine wpH_take 7 (by rfl) (by kernel_rfl) (by intro _ _ _ h; first | exact h | (cases h.1)) (by intro _ _ _ _ h; first | exact h | (cases h.1)) (by assumption) (fun K hK => ?_); simp only [List.setIfInBounds_toArray, List.set_cons_zero, List.set_cons_succ] at hK; go_simp; first | (refine hK _ ?_; clear hK K) | (apply Exists.intro; refine ⟨fun _ => rfl, hK _ ?_⟩; clear hK K)); (refine wpH_take 8 (by rfl) (by kernel_rfl) (by intro _ _ _ h; first | exact h | (cases h.1)) (by intro _ _ _ _ h; first | exact h | (cases h.1)) (by assumption) (fun K hK => ?_); simp only [List.setIfInBounds_toArray, List.set_cons_zero, List.set_cons_succ] at hK; go_simp; first | (refine hK _ ?_; clear hK K) | (apply Exists.intro; refine ⟨fun _ => rfl, hK _ ?_⟩; clear hK K)); (refine wpH_take 9 (by rfl) (by kernel_rfl) (by intro _ _ _ h; first | exact h | (cases h.1)) (by intro _ _ _ _ h; first | exact h | (cases h.1)) (by assumption) (fun K hK => ?_); simp only [List.setIfInBounds_toArray, List.set_cons_zero, List.set_cons_succ] at hK; go_simp; first | (refine hK _ ?_; clear hK K) | (apply Exists.intro; refine ⟨fun _ => rfl, hK _ ?_⟩; clear hK K)); (refine wpH_take 10 (by rfl) (by kernel_rfl) (by intro _ _ _ h; first | exact h | (cases h.1)) (by intro _ _ _ _ h; first | exact h | (cases h.1)) (by assumption) (fun K hK => ?_); simp only [List.setIfInBounds_toArray, List.set_cons_zero, List.set_cons_succ] at hK; go_simp; first | (refine hK _ ?_; clear hK K) | (apply Exists.intro; refine ⟨fun _ => rfl, hK _ ?_⟩; clear hK K)); (refine wpH_take 11 (by rfl) (by kernel_rfl) (by intro _ _ _ h; first | exact h | (cases h.1)) (by intro _ _ _ _ h; first | exact h | (cases h.1)) (by assumption) (fun K hK => ?_); simp only [List.setIfInBounds_toArray, List.set_cons_zero, List.set_cons_succ] at hK; go_simp; first | (refine hK _ ?_; clear hK K) | (apply Exists.intro; refine ⟨fun _ => rfl, hK _ ?_⟩; clear hK K)); (refine wpH_take 12 (by rfl) (by kernel_rfl) (by intro _ _ _ h; first | exact h | (cases h.1)) (by intro _ _ _ _ h; first | exact h | (cases h.1)) (by assumption) (fun K hK => ?_); simp only [List.setIfInBounds_toArray, List.set_cons_zero, List.set_cons_succ] at hK; go_simp; first | (refine hK _ ?_; clear hK K) | (apply Exists.intro; refine ⟨fun _ => rfl, hK _ ?_⟩; clear hK K))
      (refine wpH_only 13 (by rfl) (by kernel_rfl) (fun K hK => ?_); simp only [List.setIfInBounds_toArray, List.set_cons_zero, List.set_cons_succ] at hK; go_simp)
      have hS' : (fun u => Blk 24 u w.heap.size (wcs N) ∧ Blk 24 u (w.heap.size + 1) (wcs M)) (w2.setCell ⟨w.heap.size + 2, k, none⟩ (.int .u64 (lim (addN N M) k : Int))) := ⟨hb', hd'⟩
      refine hK _ _ hS' ?_; clear hK K
      (refine wpH_take 14 (by rfl) (by kernel_rfl) (by intro _ _ _ h; first | exact h | (cases h.1)) (by intro _ _ _ _ h; first | exact h | (cases h.1)) (by assumption) (fun K hK => ?_); simp only [List.setIfInBounds_toArray, List.set_cons_zero, List.set_cons_succ] at hK; go_simp; first | (refine hK _ ?_; clear hK K) | (apply Exists.intro; refine ⟨fun _ => rfl, hK _ ?_⟩; clear hK K))
      refine wpH_done (by kernel_rfl) ?_
      clear k0 k1
      go_wp2
      go_roundw
      case rel => exact ⟨k + 1, by omega, by go_num, rfl, hb', hd', hy3, hbel'⟩
      case measure => simp [intOf]; omega
    · obtain rfl : k = 4 := by omega
      have hfe : fillL T (.int .u64 0) 4 = wcs (addN N M) := by have := fill_end T (.int .u64 0); rw [HTn.out] at this; rw [this, HT.out]
      rw [hfe] at hz
      clear hfe
      go_wp2_with (first
        | (refine wpList_loadA rfl 24 (.tmp 4) rfl (w.heap.size + 2) rfl aggWord hz (wcs_len _) ?_)
        | (refine wpList_storeA rfl 24 (.tmp 4) (.tmp 24) rfl (w.heap.size + 2) (wcs (addN N M)) rfl rfl aggWord hz (wcs_len _) rfl (wcs_one _) hbel (by omega) ?_; intro w2 hb2 hbel2 _))
      exact bodyPost_ret (results_blk_tmp rfl _ _ (w.heap.size + 2) aggWord hb2 (wcs_len _) rfl rfl) rfl ⟨rfl, hbel2⟩
theorem box2 (w : World) (N M : Nat) : Blk 24 ((w.alloc (.cells (wcs N).toArray 24)).alloc (.cells (wcs M).toArray 24)) w.heap.size (wcs N) ∧
    Blk 24 ((w.alloc (.cells (wcs N).toArray 24)).alloc (.cells (wcs M).toArray 24)) (w.heap.size + 1) (wcs M) ∧
    Below w.heap.size w ((w.alloc (.cells (wcs N).toArray 24)).alloc (.cells (wcs M).toArray 24)) := by
  refine ⟨(boxW w N).alloc _, ?_, ((Below.refl _ _).alloc (Nat.le_refl _) _).alloc (by simp) _⟩
  have := Blk.new (w.alloc (.cells (wcs N).toArray 24)) 24 (wcs M)
  simpa using this
/-- Two words and a result: the world of a function of two words, at its start. -/
theorem box3 (w : World) (N M : Nat) : Blk 24 (((w.alloc (.cells (wcs N).toArray 24)).alloc (.cells (wcs M).toArray 24)).alloc (.cells z4.toArray 24)) w.heap.size (wcs N) ∧
    Blk 24 (((w.alloc (.cells (wcs N).toArray 24)).alloc (.cells (wcs M).toArray 24)).alloc (.cells z4.toArray 24)) (w.heap.size + 1) (wcs M) ∧
    Blk 24 (((w.alloc (.cells (wcs N).toArray 24)).alloc (.cells (wcs M).toArray 24)).alloc (.cells z4.toArray 24)) (w.heap.size + 2) z4 ∧
    Below w.heap.size w (((w.alloc (.cells (wcs N).toArray 24)).alloc (.cells (wcs M).toArray 24)).alloc (.cells z4.toArray 24)) := by
  refine ⟨((boxW w N).alloc _).alloc _, ?_, ?_, (((Below.refl _ _).alloc (Nat.le_refl _) _).alloc (by simp) _).alloc (by simp; omega) _⟩
  · have := Blk.new (w.alloc (.cells (wcs N).toArray 24)) 24 (wcs M)
    simpa using (this.alloc (.cells z4.toArray 24))
  · have := Blk.new ((w.alloc (.cells (wcs N).toArray 24)).alloc (.cells (wcs M).toArray 24)) 24 z4
    simpa using this
set_option maxHeartbeats 400000 in
set_option maxRecDepth 100000 in
theorem add_any (N M : Nat) (w : World) :
    Calls Try.prog 103 #[wv N, wv M] w fun e w' => e = .returned (wv (addN N M)) ∧ Below w.heap.size w w' := by
  obtain ⟨hb0, hd0, hz0, hbel0⟩ := box3 w N M
  show Calls Try.prog 103 #[.agg (wcs N).toArray, .agg (wcs M).toArray] w _
  go_enter Try.func103, Try.ntmps103
  go_wp2_with (first
    | (refine wpList_loadA rfl 24 (.tmp 2) rfl w.heap.size rfl aggWord hb0 (wcs_len _) ?_)
    | (refine wpList_loadA rfl 24 (.tmp 3) rfl (w.heap.size + 1) rfl aggWord hd0 (wcs_len _) ?_)
    | (go_at_call 71; refine (wsum_any N M _).mono ?_; rintro e w2 ⟨rfl, b2⟩; have hz2 := hz0.kept b2; have hbel2 := hbel0.trans (b2.mono hbel0.size))
    | (refine wpList_storeA rfl 24 (.tmp 5) (.tmp 11) rfl w2.heap.size (wcs (addN N M)) rfl rfl aggWord (Blk.new w2 24 z4) (wcs_len _) rfl (wcs_one _) (Below.alloc (Below.refl w2.heap.size w2) (Nat.le_refl _) _) (Nat.le_refl _) ?_; intro w3 hh3 b3 _; have hz3 := hz2.kept b3; have hbel3 := hbel2.trans (b3.mono hbel2.size))
    | (refine wpList_loadA rfl 24 (.tmp 5) rfl w2.heap.size rfl aggWord hh3 (wcs_len _) ?_)
    | (refine wpList_storeA rfl 24 (.tmp 4) (.tmp 13) rfl (w.heap.size + 2) (wcs (addN N M)) rfl rfl aggWord hz3 (wcs_len _) rfl (wcs_one _) hbel3 (by omega) ?_; intro w4 hb4 hbel4 _))
  exact bodyPost_ret (results_blk rfl _ _ (w.heap.size + 2) aggWord hb4 (wcs_len _) rfl) rfl ⟨rfl, hbel4⟩
end Go.Proofs.Ytgmdbleeagfhpaa
