/- word.Cmp, word.Int and the reference's WInt, WLess, WCmp. -/
import Derived.Test.YtohenjgegkgncaaWord1
import Derived.Test.YtohenjgegkgncaaEq
set_option linter.unusedSimpArgs false
set_option linter.unusedVariables false
namespace Go.Proofs.Ytohenjgegkgncaa
open Go.RowKit
theorem lim0 (N : Nat) : lim N 0 = N % 18446744073709551616 := by unfold lim; simp
theorem lim1 (N : Nat) : lim N 1 = N / 18446744073709551616 % 18446744073709551616 := rfl
theorem lim2 (N : Nat) : lim N 2 = N / 340282366920938463463374607431768211456 % 18446744073709551616 := rfl
theorem lim3 (N : Nat) : lim N 3 = N / 6277101735386680763835789423207666416102355444464034512896 % 18446744073709551616 := rfl
/-- 2^256 -/
def W256 : Nat := 115792089237316195423570985008687907853269984665640564039457584007913129639936
theorem lim_sum (N : Nat) (h : N < W256) : N = lim N 0 + 18446744073709551616 * lim N 1 + 340282366920938463463374607431768211456 * lim N 2 + 6277101735386680763835789423207666416102355444464034512896 * lim N 3 := by
  rw [lim0, lim1, lim2, lim3]; unfold W256 at h; omega
theorem lim_less (N M : Nat) (hN : N < W256) (hM : M < W256) (p : Nat) (hp : p < 4) (he : ∀ i, p < i → i < 4 → lim N i = lim M i) (hl : lim N p < lim M p) : N < M := by
  have h0 := lim_sum N hN
  have h1 := lim_sum M hM
  have a0 := lim_lt N 0; have a1 := lim_lt N 1; have a2 := lim_lt N 2; have a3 := lim_lt N 3
  have b0 := lim_lt M 0; have b1 := lim_lt M 1; have b2 := lim_lt M 2; have b3 := lim_lt M 3
  rcases (show p = 0 ∨ p = 1 ∨ p = 2 ∨ p = 3 from by omega) with rfl | rfl | rfl | rfl
  · have e1 := he 1 (by omega) (by omega); have e2 := he 2 (by omega) (by omega); have e3 := he 3 (by omega) (by omega)
    rw [e1, e2, e3] at h0; omega
  · have e2 := he 2 (by omega) (by omega); have e3 := he 3 (by omega) (by omega)
    rw [e2, e3] at h0; omega
  · have e3 := he 3 (by omega) (by omega)
    rw [e3] at h0; omega
  · omega
theorem lim_ext (N M : Nat) (hN : N < W256) (hM : M < W256) (he : ∀ i, i < 4 → lim N i = lim M i) : N = M := by
  rw [lim_sum N hN, lim_sum M hM, he 0 (by omega), he 1 (by omega), he 2 (by omega), he 3 (by omega)]
theorem limI_eq (N M : Nat) (hN : N < W256) (hM : M < W256) : (limI N == limI M) = decide (N = M) := by
  by_cases h : N = M
  · subst h; simp
  · have : limI N ≠ limI M := fun e => h (lim_ext N M hN hM fun i hi => by
      unfold limI at e
      simp only [List.cons.injEq, and_true, Int.natCast_inj] at e
      rcases (show i = 0 ∨ i = 1 ∨ i = 2 ∨ i = 3 from by omega) with rfl | rfl | rfl | rfl
      · exact e.1
      · exact e.2.1
      · exact e.2.2.1
      · exact e.2.2.2)
    simp [this, h]
def cmpI (N M : Nat) : Int := if N < M then -1 else if M < N then 1 else 0
theorem cmp_lt {N M : Nat} (h : N < M) : cmpI N M = -1 := if_pos h
theorem cmp_gt {N M : Nat} (h : M < N) : cmpI N M = 1 := by unfold cmpI; rw [if_neg (by omega), if_pos h]
theorem cmp_eq {N M : Nat} (h : N = M) : cmpI N M = 0 := by unfold cmpI; rw [if_neg (by omega), if_neg (by omega)]
set_option maxHeartbeats 400000 in
set_option maxRecDepth 100000 in
theorem cmp_any (N M : Nat) (hN : N < W256) (hM : M < W256) (w : World) :
    Calls Try.prog 155 #[wv N, wv M] w fun e w' => e = .returned (.int .i64 (cmpI N M)) ∧ Below w.heap.size w w' := by
  obtain ⟨w1, hw1⟩ : ∃ w1, w1 = (w.alloc (.cells (wcs N).toArray 73)).alloc (.cells (wcs M).toArray 73) := ⟨_, rfl⟩
  have hb0 : Blk 73 w1 w.heap.size (wcs N) := by rw [hw1]; exact (boxW w N).alloc _
  have hd0 : Blk 73 w1 (w.heap.size + 1) (wcs M) := by
    have := Blk.new (w.alloc (.cells (wcs N).toArray 73)) 73 (wcs M)
    rw [hw1]; simpa using this
  have hbel0 : Below w.heap.size w w1 := by rw [hw1]; exact ((Below.refl _ _).alloc (Nat.le_refl _) _).alloc (by simp) _
  show Calls Try.prog 155 #[.agg (wcs N).toArray, .agg (wcs M).toArray] w _
  go_enter Try.func155, Try.ntmps155
  go_wp2
  go_loopw [5] (fun i wr => ∃ (q : Nat) (x : Int), q ≤ 4 ∧ i = .int .i64 x ∧ x + 1 = (q : Int) ∧ (∀ j, q ≤ j → j < 4 → lim N j = lim M j) ∧ Blk 73 wr w.heap.size (wcs N) ∧ Blk 73 wr (w.heap.size + 1) (wcs M) ∧ Below w.heap.size w wr) (fun i _ => ((intOf i) + 1).toNat)
  case atStart =>
    rw [hw1] at hb0 hd0 hbel0
    exact ⟨4, 3, by omega, rfl, rfl, fun j h1 h2 => by omega, hb0, hd0, hbel0⟩
  case round =>
    clear hb0 hbel0 hd0 hw1
    obtain ⟨q, x, hq, rfl, hx, he, hb, hd, hbel⟩ := hrel
    by_cases hlt : 0 < q
    · obtain ⟨p, rfl⟩ : ∃ p, q = p + 1 := ⟨q - 1, by omega⟩
      obtain rfl : x = (p : Int) := by omega
      have hd2 : decide (0 ≤ (p : Int)) = true := by rw [decide_eq_true_eq]; omega
      have hc := hb.wat p (by omega)
      have hc2 := hd.wat p (by omega)
      have hl := lim_lt N p
      have hl2 := lim_lt M p
      have hp4 : p < 4 := by omega
      have hpi : (p : Int) < 4 := by omega
      have He := Lib.hid he
      clear he
      have k0 := fun u : Ext wr => u.cell hc
      have k1 := fun u : Ext wr => u.cell hc2
      go_wp2
      refine wp_region_typed wr 8 (by kernel_rfl) (by kernel_rfl) (Below.refl _ _) ?_; simp only [List.take_succ_cons, List.take_zero, List.take_nil]
      iterate 8 (refine wpX_step (by rfl) (fun K hK => ?_); go_simp; first | (refine hK _ ?_; clear hK K) | (apply Exists.intro; refine ⟨fun _ => ?_, hK _ ?_⟩; fail; clear hK K))
      refine wpX_end rfl ?_
      rintro w2 hw2
      simp only [List.reverse_nil, forallRel]
      have hb2 := hb.kept hw2
      have hd3 := hd.kept hw2
      have hc3 := hb2.wat p (by omega)
      have hc4 := hd3.wat p (by omega)
      have hbel2 := hbel.trans (hw2.mono hbel.size)
      clear hc hc2 hb hd k0 k1
      by_cases h1 : lim N p < lim M p
      · have hd5 : decide (lim N p < lim M p) = true := by rw [decide_eq_true_eq]; exact h1
        have hz := cmp_lt (lim_less N M hN hM p (by omega) (fun i h1 h2 => He.out i h1 h2) h1)
        go_wp2
        go_ret
        exact ⟨ret_int hz.symm, hbel2⟩
      · have hd5 : decide (lim N p < lim M p) = false := by rw [decide_eq_false_iff_not]; exact h1
        have k0 := fun u : Ext w2 => u.cell hc3
        have k1 := fun u : Ext w2 => u.cell hc4
        go_wp2
        refine wp_region_typed w2 8 (by kernel_rfl) (by kernel_rfl) (Below.refl _ _) ?_; simp only [List.take_succ_cons, List.take_zero, List.take_nil]
        iterate 8 (refine wpX_step (by rfl) (fun K hK => ?_); go_simp; first | (refine hK _ ?_; clear hK K) | (apply Exists.intro; refine ⟨fun _ => ?_, hK _ ?_⟩; fail; clear hK K))
        refine wpX_end rfl ?_
        rintro w3 hw3
        simp only [List.reverse_nil, forallRel]
        have hb4 := hb2.kept hw3
        have hd4 := hd3.kept hw3
        have hbel3 := hbel2.trans (hw3.mono hbel2.size)
        clear hc3 hc4 hb2 hd3 k0 k1
        by_cases h2 : lim M p < lim N p
        · have hd6 : decide (lim M p < lim N p) = true := by rw [decide_eq_true_eq]; exact h2
          have hz := cmp_gt (lim_less M N hM hN p (by omega) (fun i h1 h2 => (He.out i h1 h2).symm) h2)
          go_wp2
          go_ret
          exact ⟨ret_int hz.symm, hbel3⟩
        · have hd6 : decide (lim M p < lim N p) = false := by rw [decide_eq_false_iff_not]; exact h2
          go_wp2
          go_roundw
          case rel =>
            refine ⟨p, (p : Int) - 1, by omega, by go_num, by omega, fun j h3 h4 => ?_, hb4, hd4, hbel3⟩
            rcases Nat.lt_or_ge p j with h5 | h5
            · exact He.out j h5 h4
            · obtain rfl : j = p := by omega
              omega
          case measure => simp [intOf]
    · obtain rfl : q = 0 := by omega
      obtain rfl : x = -1 := by omega
      have hz := cmp_eq (lim_ext N M hN hM fun i hi => he i (by omega) hi)
      go_wp2
      go_ret
      exact ⟨ret_int hz.symm, hbel⟩
end Go.Proofs.Ytohenjgegkgncaa
