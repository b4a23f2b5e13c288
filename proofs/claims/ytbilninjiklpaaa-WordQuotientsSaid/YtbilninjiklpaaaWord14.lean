/- The reference's WBit, WMul. -/
import Derived.Test.YtbilninjiklpaaaWord13
namespace Go.Proofs.Ytbilninjiklpaaa
open Go.RowKit
theorem byte_bit (N i : Nat) : (byteN N (i / 8) / 2 ^ (i % 8) % 2 == 1) = N.testBit i := by
  rw [Nat.testBit_eq_decide_div_mod_eq]
  have h : byteN N (i / 8) / 2 ^ (i % 8) % 2 = N / 2 ^ i % 2 := by
    unfold byteN
    obtain ⟨r, hr⟩ : ∃ r, r = i % 8 := ⟨_, rfl⟩
    have hi : i = 8 * (i / 8) + r := by omega
    rw [← hr]
    have : N / 2 ^ i = N / 2 ^ (8 * (i / 8)) / 2 ^ r := by rw [Nat.div_div_eq_div_mul, ← Nat.pow_add, ← hi]
    rw [this]
    generalize N / 2 ^ (8 * (i / 8)) = a
    have hr8 : r < 8 := by omega
    clear hi this hr
    rcases (show r = 0 ∨ r = 1 ∨ r = 2 ∨ r = 3 ∨ r = 4 ∨ r = 5 ∨ r = 6 ∨ r = 7 from by omega) with rfl | rfl | rfl | rfl | rfl | rfl | rfl | rfl <;> omega
  rw [h, Bool.eq_iff_iff]
  simp
set_option maxHeartbeats 400000 in
set_option maxRecDepth 100000 in
theorem wbit_any (N i : Nat) (hi : i < 256) (w : World) :
    Calls Try.prog 68 #[wv N, .int .i64 (i : Int)] w fun e w' => e = .returned (.bool (N.testBit i)) ∧ Below w.heap.size w w' := by
  have hb0 := boxW w N
  have hbel0 : Below w.heap.size w (w.alloc (.cells (wcs N).toArray 24)) := (Below.refl _ _).alloc (Nat.le_refl _) _
  show Calls Try.prog 68 #[.agg (wcs N).toArray, .int .i64 (i : Int)] w _
  obtain ⟨q, hq⟩ : ∃ q, q = i / 8 := ⟨_, rfl⟩
  obtain ⟨r, hr⟩ : ∃ r, r = i % 8 := ⟨_, rfl⟩
  have hbit := byte_bit N i
  rw [← hq, ← hr] at hbit
  have e1 : (i : Int) / 8 = (q : Int) := by omega
  have e2 : (i : Int) % 8 = (r : Int) := by omega
  obtain ⟨j, hj⟩ : ∃ j, j = 31 - q := ⟨_, rfl⟩
  have e3 : (31 : Int) - (q : Int) = (j : Int) := by omega
  have hji : (j : Int) < 32 := by omega
  have hj32 : j < 32 := by omega
  have hr8 : (r : Int) < 8 := by omega
  have hx8 : byteN N q < 256 := by unfold byteN; omega
  have hxn : (wbyte N j).toNat = byteN N q := by rw [wbyte_nat]; congr 1; omega
  have hdiv : byteN N q / 2 ^ r < 256 := Nat.lt_of_le_of_lt (Nat.div_le_self _ _) hx8
  obtain ⟨y, hy⟩ : ∃ y, y = byteN N q / 2 ^ r := ⟨_, rfl⟩
  rw [← hy] at hbit
  have e4 : (byteN N q : Int) / 2 ^ r = (y : Int) := by rw [hy]; simp
  have e5 : ((y : Int) % 2 == 1) = N.testBit i := by rw [← hbit, Bool.eq_iff_iff]; simp; omega
  rw [← hy] at hdiv
  generalize byteN N q = x at *
  have Hxn := Lib.hid hxn
  clear hq hr hbit hj hy hxn
  go_enter Try.func68, Try.ntmps68
  go_wp2_with (first
    | (refine wpList_loadA rfl 24 (.tmp 2) rfl w.heap.size rfl aggWord hb0 (wcs_len _) ?_)
    | (go_at_call 93; refine (wbytes_any N _).mono ?_; rintro e w2 ⟨v, rfl, hv, b2⟩; obtain ⟨a, c, rfl, hc⟩ := hv.form' 32 (wb_len N); obtain ⟨g, rfl, hg, hg2⟩ := hv.lies (by omega); have hbel2 := hbel0.trans (b2.mono hbel0.size); have hcell := hv.cellAt one_u8 j _ (wb_at N j hj32); unfold u8v at hcell; rw [Hxn.out] at hcell))
  go_ret
  exact ⟨rfl, hbel2⟩
/-- The contracts with their arguments as a load leaves them. -/
theorem wadd_l (N M : Nat) (w : World) : Calls Try.prog 50 #[.agg (wcs N).toArray, .agg (wcs M).toArray] w fun e w' => e = .returned (.agg (wcs (addN N M)).toArray) ∧ Below w.heap.size w w' := wadd_any N M w
theorem wsub_l (N M : Nat) (hN : N < W256) (hM : M < W256) (w : World) : Calls Try.prog 52 #[.agg (wcs N).toArray, .agg (wcs M).toArray] w fun e w' => e = .returned (.agg (wcs (subN N M)).toArray) ∧ Below w.heap.size w w' := wsub_any N M hN hM w
theorem wbit_l (N i : Nat) (hi : i < 256) (b : Bool) (hb : N.testBit i = b) (w : World) : Calls Try.prog 68 #[.agg (wcs N).toArray, .int .i64 (i : Int)] w fun e w' => e = .returned (.bool b) ∧ Below w.heap.size w w' := by subst hb; exact wbit_any N i hi w
def mulN (N M : Nat) : Nat := (N * M) % W256
theorem mulN_lt (N M : Nat) : mulN N M < W256 := Nat.mod_lt _ (by unfold W256; omega)
theorem add_mod_l (a b W : Nat) : (a % W + b) % W = (a + b) % W := by rw [Nat.add_mod, Nat.mod_mod, ← Nat.add_mod]
theorem mul_dbl (N K : Nat) : addN (mulN N K) (mulN N K) = mulN N (2 * K) := by
  unfold addN mulN
  rw [← Nat.add_mod, show N * (2 * K) = N * K + N * K from by rw [← Nat.mul_assoc, Nat.mul_comm N 2, Nat.mul_assoc]; omega]
theorem mul_one_more (N K : Nat) : addN (mulN N K) N = mulN N (K + 1) := by
  unfold addN mulN
  rw [add_mod_l, Nat.mul_add, Nat.mul_one]
theorem half_bit (M j : Nat) : M / 2 ^ j = 2 * (M / 2 ^ (j + 1)) + (if M.testBit j then 1 else 0) := by
  rw [Nat.testBit_eq_decide_div_mod_eq, Nat.pow_succ, ← Nat.div_div_eq_div_mul]
  generalize M / 2 ^ j = a
  by_cases h : a % 2 = 1
  · simp [h]; omega
  · simp [h]; omega
set_option maxHeartbeats 400000 in
set_option maxRecDepth 100000 in
theorem wmul_any (N M : Nat) (hM : M < W256) (w : World) :
    Calls Try.prog 54 #[wv N, wv M] w fun e w' => e = .returned (wv (mulN N M)) ∧ Below w.heap.size w w' := by
  obtain ⟨hb0, hd0, hz0, hbel0⟩ := box3 w N M
  show Calls Try.prog 54 #[.agg (wcs N).toArray, .agg (wcs M).toArray] w _
  obtain ⟨w1, hw1⟩ : ∃ w1, w1 = ((w.alloc (.cells (wcs N).toArray 24)).alloc (.cells (wcs M).toArray 24)).alloc (.cells z4.toArray 24) := ⟨_, rfl⟩
  have ho0 := Blk.new w1 24 z4
  rw [← hw1] at hb0 hd0 hz0 hbel0
  have hs1 : w1.heap.size = w.heap.size + 3 := by rw [hw1]; simp
  replace hb0 := hb0.alloc (.cells z4.toArray 24)
  replace hd0 := hd0.alloc (.cells z4.toArray 24)
  replace hz0 := hz0.alloc (.cells z4.toArray 24)
  replace hbel0 := hbel0.alloc (by omega) (.cells z4.toArray 24)
  rw [hs1] at ho0
  obtain ⟨w2, hw2⟩ : ∃ w2, w2 = w1.alloc (.cells z4.toArray 24) := ⟨_, rfl⟩
  rw [← hw2] at hb0 hd0 hz0 hbel0 ho0
  have Hw2 := Lib.hid hw2
  have Hw1 := Lib.hid hw1
  clear hw2 hw1 hs1
  go_enter Try.func54, Try.ntmps54
  go_wp2
  rw [show (((w.alloc (.cells (wcs N).toArray 24)).alloc (.cells (wcs M).toArray 24)).alloc (.cells #[.int .u64 0, .int .u64 0, .int .u64 0, .int .u64 0] 24)).alloc (.cells #[.int .u64 0, .int .u64 0, .int .u64 0, .int .u64 0] 24) = w2 from by rw [Hw2.out, Hw1.out]; rfl]
  clear Hw2 Hw1
  go_loopw [6] (fun i wr => ∃ q : Nat, q ≤ 256 ∧ i = .int .i64 ((q : Int) - 1) ∧ Blk 24 wr w.heap.size (wcs N) ∧ Blk 24 wr (w.heap.size + 1) (wcs M) ∧ Blk 24 wr (w.heap.size + 2) z4 ∧ Blk 24 wr (w.heap.size + 3) (wcs (mulN N (M / 2 ^ q))) ∧ Below w.heap.size w wr) (fun i _ => ((intOf i) + 1).toNat)
  case atStart => exact ⟨256, by omega, rfl, hb0, hd0, hz0, by rw [show M / 2 ^ 256 = 0 from Nat.div_eq_of_lt hM]; unfold mulN; rw [Nat.mul_zero, Nat.zero_mod, z4_zero]; exact ho0, hbel0⟩
  case round =>
    clear hb0 hd0 hz0 ho0 hbel0
    obtain ⟨q, hq, rfl, hb, hd, hz, ho, hbel⟩ := hrel
    by_cases hlt : 1 ≤ q
    · obtain ⟨j, rfl⟩ : ∃ j, q = j + 1 := ⟨q - 1, by omega⟩
      have hj : ((j + 1 : Nat) : Int) - 1 = (j : Int) := by omega
      rw [hj]
      have hj2 : j < 256 := by omega
      have hstep := half_bit M j
      have hd1 := mul_dbl N (M / 2 ^ (j + 1))
      have hd2 := mul_one_more N (2 * (M / 2 ^ (j + 1)))
      have hjm : ((j : Int) + 1 - 1).toNat = j := by omega
      obtain ⟨X, hX⟩ : ∃ X, X = mulN N (M / 2 ^ (j + 1)) := ⟨_, rfl⟩
      obtain ⟨Y, hY⟩ : ∃ Y, Y = addN X X := ⟨_, rfl⟩
      rw [← hX] at ho hd1
      rw [← hY] at hd1
      rw [← hd1] at hd2
      have Hst := Lib.hid hstep
      have HY := Lib.hid hY
      have Hd1 := Lib.hid hd1
      have Hd2 := Lib.hid hd2
      clear hstep hd1 hd2 hX hY hj hq hlt hjm
      by_cases hbit : M.testBit j = true
      · go_wp2_with (first
          | (refine wpList_loadA (o := ⟨some 11, _, _, _, _, _⟩) (by rfl) 24 (.tmp 5) (by rfl) (w.heap.size + 3) (by rfl) aggWord ho (wcs_len _) ?_)
          | (refine wpList_loadA (o := ⟨some 12, _, _, _, _, _⟩) (by rfl) 24 (.tmp 5) (by rfl) (w.heap.size + 3) (by rfl) aggWord ho (wcs_len _) ?_)
          | (go_at_call 50; (with_reducible refine (wadd_l X X _).mono ?_); rintro e w3 ⟨rfl, b3⟩; rw [← HY.out]; have hb3 := hb.kept b3; have hd3 := hd.kept b3; have hz3 := hz.kept b3; have ho3 := ho.kept b3; have hbel3 := hbel.trans (b3.mono hbel.size))
          | (refine wpList_storeA (by rfl) 24 (.tmp 5) (.tmp 13) (by rfl) (w.heap.size + 3) (wcs (Y)) (by rfl) (by rfl) aggWord ho3 (wcs_len _) (by first | exact wcs_len _ | rfl) (wcs_one _) (Below.refl _ _) (Nat.le_refl _) ?_; intro w4 ho4 b4 g4; have hb4 := hb3.grown g4 (by simp); have hd4 := hd3.grown g4 (by simp); have hz4 := hz3.grown g4 (by simp); have hbel4 := hbel3.trans (b4.mono (by omega)))
          | (refine wpList_loadA (o := ⟨some 14, _, _, _, _, _⟩) (by rfl) 24 (.tmp 3) (by rfl) (w.heap.size + 1) (by rfl) aggWord hd4 (wcs_len _) ?_)
          | (go_at_call 68; (with_reducible refine (wbit_l M j hj2 true hbit _).mono ?_); rintro e w5 ⟨rfl, b5⟩; have hb5 := hb4.kept b5; have hd5 := hd4.kept b5; have hz5 := hz4.kept b5; have ho5 := ho4.kept b5; have hbel5 := hbel4.trans (b5.mono hbel4.size))
          | (refine wpList_loadA (o := ⟨some 17, _, _, _, _, _⟩) (by rfl) 24 (.tmp 5) (by rfl) (w.heap.size + 3) (by rfl) aggWord ho5 (wcs_len _) ?_)
          | (refine wpList_loadA (o := ⟨some 18, _, _, _, _, _⟩) (by rfl) 24 (.tmp 2) (by rfl) (w.heap.size) (by rfl) aggWord hb5 (wcs_len _) ?_)
          | (go_at_call 50; (with_reducible refine (wadd_l Y N _).mono ?_); rintro e w6 ⟨rfl, b6⟩; have hb6 := hb5.kept b6; have hd6 := hd5.kept b6; have hz6 := hz5.kept b6; have ho6 := ho5.kept b6; have hbel6 := hbel5.trans (b6.mono hbel5.size))
          | (refine wpList_storeA (by rfl) 24 (.tmp 5) (.tmp 19) (by rfl) (w.heap.size + 3) (wcs (addN Y N)) (by rfl) (by rfl) aggWord ho6 (wcs_len _) (by first | exact wcs_len _ | rfl) (wcs_one _) (Below.refl _ _) (Nat.le_refl _) ?_; intro w7 ho7 b7 g7; have hb7 := hb6.grown g7 (by simp); have hd7 := hd6.grown g7 (by simp); have hz7 := hz6.grown g7 (by simp); have hbel7 := hbel6.trans (b7.mono (by omega))))
        go_roundw
        case rel => exact ⟨j, by omega, rfl, hb7, hd7, hz7, by rw [Hst.out, if_pos hbit, ← Hd2.out]; exact ho7, hbel7⟩
        case measure => simp [intOf]
      · replace hbit : M.testBit j = false := by simpa using hbit
        go_wp2_with (first
          | (refine wpList_loadA (o := ⟨some 11, _, _, _, _, _⟩) (by rfl) 24 (.tmp 5) (by rfl) (w.heap.size + 3) (by rfl) aggWord ho (wcs_len _) ?_)
          | (refine wpList_loadA (o := ⟨some 12, _, _, _, _, _⟩) (by rfl) 24 (.tmp 5) (by rfl) (w.heap.size + 3) (by rfl) aggWord ho (wcs_len _) ?_)
          | (go_at_call 50; (with_reducible refine (wadd_l X X _).mono ?_); rintro e w3 ⟨rfl, b3⟩; rw [← HY.out]; have hb3 := hb.kept b3; have hd3 := hd.kept b3; have hz3 := hz.kept b3; have ho3 := ho.kept b3; have hbel3 := hbel.trans (b3.mono hbel.size))
          | (refine wpList_storeA (by rfl) 24 (.tmp 5) (.tmp 13) (by rfl) (w.heap.size + 3) (wcs (Y)) (by rfl) (by rfl) aggWord ho3 (wcs_len _) (by first | exact wcs_len _ | rfl) (wcs_one _) (Below.refl _ _) (Nat.le_refl _) ?_; intro w4 ho4 b4 g4; have hb4 := hb3.grown g4 (by simp); have hd4 := hd3.grown g4 (by simp); have hz4 := hz3.grown g4 (by simp); have hbel4 := hbel3.trans (b4.mono (by omega)))
          | (refine wpList_loadA (o := ⟨some 14, _, _, _, _, _⟩) (by rfl) 24 (.tmp 3) (by rfl) (w.heap.size + 1) (by rfl) aggWord hd4 (wcs_len _) ?_)
          | (go_at_call 68; (with_reducible refine (wbit_l M j hj2 false hbit _).mono ?_); rintro e w5 ⟨rfl, b5⟩; have hb5 := hb4.kept b5; have hd5 := hd4.kept b5; have hz5 := hz4.kept b5; have ho5 := ho4.kept b5; have hbel5 := hbel4.trans (b5.mono hbel4.size)))
        go_roundw
        case rel => exact ⟨j, by omega, rfl, hb5, hd5, hz5, by rw [Hst.out, hbit, if_neg (by simp)]; show Blk _ _ _ (wcs (mulN N (2 * (M / 2 ^ (j + 1))))); rw [← Hd1.out]; exact ho5, hbel5⟩
        case measure => simp [intOf]
    · obtain rfl : q = 0 := by omega
      rw [Nat.pow_zero, Nat.div_one] at ho
      go_wp2_with (first
        | (refine wpList_loadA (o := ⟨some 20, _, _, _, _, _⟩) (by rfl) 24 (.tmp 5) (by rfl) (w.heap.size + 3) (by rfl) aggWord ho (wcs_len _) ?_)
        | (refine wpList_storeA (by rfl) 24 (.tmp 4) (.tmp 20) (by rfl) (w.heap.size + 2) (wcs (mulN N M)) (by rfl) (by rfl) aggWord hz (wcs_len _) (by first | exact wcs_len _ | rfl) (wcs_one _) (Below.refl _ _) (Nat.le_refl _) ?_; intro w7 hb7 b7 g7; have hbel7 := hbel.trans (b7.mono (by omega))))
      exact bodyPost_ret (results_blk rfl _ _ (w.heap.size + 2) aggWord hb7 (wcs_len _) rfl) rfl ⟨rfl, hbel7⟩
end Go.Proofs.Ytbilninjiklpaaa
