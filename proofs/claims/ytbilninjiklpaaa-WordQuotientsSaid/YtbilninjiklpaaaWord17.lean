/- Powers of words: plain laws; word.Exp. -/
import Derived.Test.YtbilninjiklpaaaWord16
import Derived.Laws.Bits64b
namespace Go.Proofs.Ytbilninjiklpaaa
open Go.RowKit
def pw (N K : Nat) : Nat := N ^ K % W256
theorem pw_lt (N K : Nat) : pw N K < W256 := Nat.mod_lt _ (by unfold W256; omega)
theorem mul_pw (N a b : Nat) : mulN (pw N a) (pw N b) = pw N (a + b) := by
  unfold mulN pw
  rw [← Nat.mul_mod, Nat.pow_add]
theorem mul_pw1 (N a : Nat) : mulN (pw N a) N = pw N (a + 1) := by
  unfold mulN pw
  rw [Nat.pow_succ, Nat.mul_mod, Nat.mod_mod, ← Nat.mul_mod]
theorem pw_zero (N : Nat) : pw N 0 = 1 := by unfold pw; simp [W256]
theorem pw_one (N : Nat) (h : N < W256) : pw N 1 = N := by unfold pw; rw [Nat.pow_one, Nat.mod_eq_of_lt h]
theorem lim_bit (N i : Nat) : (lim N (i / 64) / 2 ^ (i % 64) % 2 == 1) = N.testBit i := by
  rw [Nat.testBit_eq_decide_div_mod_eq]
  have h : lim N (i / 64) / 2 ^ (i % 64) % 2 = N / 2 ^ i % 2 := by
    unfold lim
    obtain ⟨r, hr⟩ : ∃ r, r = i % 64 := ⟨_, rfl⟩
    have hi : i = 64 * (i / 64) + r := by omega
    rw [← hr]
    have : N / 2 ^ i = N / 2 ^ (64 * (i / 64)) / 2 ^ r := by rw [Nat.div_div_eq_div_mul, ← Nat.pow_add, ← hi]
    rw [this]
    generalize N / 2 ^ (64 * (i / 64)) = a
    have hr8 : r < 64 := by omega
    obtain ⟨s, hs⟩ : ∃ s, 64 = r + (s + 1) := ⟨63 - r, by omega⟩
    rw [show (18446744073709551616 : Nat) = 2 ^ r * (2 ^ s * 2) from by rw [← Nat.pow_succ, ← Nat.pow_add, ← hs]]
    rw [Nat.mod_mul_right_div_self]
    exact Nat.mod_mod_of_dvd _ ⟨2 ^ s, by rw [Nat.mul_comm]⟩
  rw [h, Bool.eq_iff_iff]
  simp
theorem and_one (y : Nat) (hy : y < 18446744073709551616) : bits .and .u64 (y : Int) 1 = (y : Int) % 2 := by
  have h := bits_and_u64_nat y 1 hy (by omega)
  rw [Nat.and_one_is_mod] at h
  have e : ((y % 2 : Nat) : Int) = (y : Int) % 2 := by omega
  rw [e] at h
  exact h
theorem mul_l (N M : Nat) (hN : N < W256) (hM : M < W256) (w : World) : Calls Try.prog 53 #[.agg (wcs N).toArray, .agg (wcs M).toArray] w fun e w' => e = .returned (.agg (wcs (mulN N M)).toArray) ∧ Below w.heap.size w w' := mul_any N M hN hM w
theorem wmul_l (N M : Nat) (hM : M < W256) (w : World) : Calls Try.prog 54 #[.agg (wcs N).toArray, .agg (wcs M).toArray] w fun e w' => e = .returned (.agg (wcs (mulN N M)).toArray) ∧ Below w.heap.size w w' := wmul_any N M hM w
theorem int_one (w : World) : Calls Try.prog 79 #[.int .u64 1] w fun e w' => e = .returned (.agg (wcs 1).toArray) ∧ Below w.heap.size w w' := int_any 1 (by omega) w
theorem wint_one (w : World) : Calls Try.prog 69 #[.int .u64 1] w fun e w' => e = .returned (.agg (wcs 1).toArray) ∧ Below w.heap.size w w' := wint_any 1 (by omega) w
/-- What a loop over a word keeps: the arguments, the result's block, a word of its own. -/
structure Fr3 (w : World) (N M g X : Nat) (u : World) : Prop where
  b : Blk 24 u w.heap.size (wcs N)
  d : Blk 24 u (w.heap.size + 1) (wcs M)
  z : Blk 24 u (w.heap.size + 2) z4
  o : Blk 24 u g (wcs X)
  bel : Below w.heap.size w u
theorem Fr3.kept {w u u' : World} {N M g X : Nat} (h : Fr3 w N M g X u) (hb : Below u.heap.size u u') : Fr3 w N M g X u' :=
  ⟨h.b.kept hb, h.d.kept hb, h.z.kept hb, h.o.kept hb, h.bel.trans (hb.mono h.bel.size)⟩
theorem Fr3.put {w u u' : World} {N M g X Y : Nat} (h : Fr3 w N M g X u) (hg : w.heap.size + 3 ≤ g) (ho : Blk 24 u' g (wcs Y)) (hb : Below g u u') (hr : u.grownBy u' (some g)) : Fr3 w N M g Y u' :=
  ⟨h.b.grown hr (by simp; omega), h.d.grown hr (by simp; omega), h.z.grown hr (by simp; omega), ho, h.bel.trans (hb.mono (by omega))⟩
set_option maxHeartbeats 400000 in
set_option maxRecDepth 100000 in
theorem exp_any (N M : Nat) (hN : N < W256) (hM : M < W256) (w : World) :
    Calls Try.prog 35 #[wv N, wv M] w fun e w' => e = .returned (wv (pw N M)) ∧ Below w.heap.size w w' := by
  obtain ⟨hb0, hd0, hz0, hbel0⟩ := box3 w N M
  show Calls Try.prog 35 #[.agg (wcs N).toArray, .agg (wcs M).toArray] w _
  have hs3 : ∀ g, (((w.alloc (.cells (wcs N).toArray 24)).alloc (.cells (wcs M).toArray 24)).alloc (.cells z4.toArray 24)).heap.size ≤ g → w.heap.size + 3 ≤ g := by intro g hg; simpa using hg
  go_enter Try.func35, Try.ntmps35
  go_wp2_with (first
    | (go_at_call 79; (with_reducible refine (int_one _).mono ?_); rintro e w2 ⟨rfl, b2⟩; have hb2 := hb0.kept b2; have hd2 := hd0.kept b2; have hz2 := hz0.kept b2; have hbel2 := hbel0.trans (b2.mono hbel0.size); have hg := hs3 _ b2.size; clear hb0 hd0 hz0 hbel0 hs3)
    | (refine wpList_storeA (by rfl) 24 (.tmp 5) (.tmp 7) (by rfl) (w2.heap.size) (wcs (1)) (by rfl) (by rfl) aggWord (Blk.new w2 24 z4) (wcs_len _) (by first | exact wcs_len _ | rfl) (wcs_one _) (Below.refl _ _) (Nat.le_refl _) ?_; intro w3 ho3 b3 g3; have hb3 := (hb2.alloc (.cells z4.toArray 24)).grown g3 (by simp; omega); have hd3 := (hd2.alloc (.cells z4.toArray 24)).grown g3 (by simp; omega); have hz3 := (hz2.alloc (.cells z4.toArray 24)).grown g3 (by simp; omega); have hbel3 := hbel2.trans (((Below.refl _ w2).alloc (by omega) (.cells z4.toArray 24)).trans (b3.mono (by omega)))))
  have hF0 : Fr3 w N M w2.heap.size 1 w3 := ⟨hb3, hd3, hz3, ho3, hbel3⟩
  clear b2 hb2 hd2 hz2 hbel2 ho3 b3 g3 hb3 hd3 hz3 hbel3
  generalize w2.heap.size = g at *
  have Hg := Lib.hid hg
  clear hg
  go_loopw [6] (fun i wr => ∃ q : Nat, q ≤ 256 ∧ i = .int .i64 ((q : Int) - 1) ∧ Fr3 w N M g (pw N (M / 2 ^ q)) wr) (fun i _ => ((intOf i) + 1).toNat)
  case atStart => exact ⟨256, by omega, rfl, by rw [show M / 2 ^ 256 = 0 from Nat.div_eq_of_lt hM, pw_zero]; exact hF0⟩
  case round =>
    clear hF0
    obtain ⟨q, hq, rfl, hF⟩ := hrel
    by_cases hlt : 1 ≤ q
    · obtain ⟨j, rfl⟩ : ∃ j, q = j + 1 := ⟨q - 1, by omega⟩
      have hj : ((j + 1 : Nat) : Int) - 1 = (j : Int) := by omega
      rw [hj]
      have hj2 : j < 256 := by omega
      have hstep := half_bit M j
      have hd1 := mul_pw N (M / 2 ^ (j + 1)) (M / 2 ^ (j + 1))
      have hd2 := mul_pw1 N (2 * (M / 2 ^ (j + 1)))
      rw [← Nat.two_mul] at hd1
      have hXl := pw_lt N (M / 2 ^ (j + 1))
      have hYl := pw_lt N (2 * (M / 2 ^ (j + 1)))
      obtain ⟨X, hX⟩ : ∃ X, X = pw N (M / 2 ^ (j + 1)) := ⟨_, rfl⟩
      obtain ⟨Y, hY⟩ : ∃ Y, Y = pw N (2 * (M / 2 ^ (j + 1))) := ⟨_, rfl⟩
      rw [← hX] at hF hd1 hXl
      rw [← hY] at hd1 hd2 hYl
      obtain ⟨q, hq2⟩ : ∃ q, q = j / 64 := ⟨_, rfl⟩
      obtain ⟨r, hr⟩ : ∃ r, r = j % 64 := ⟨_, rfl⟩
      have hbit := lim_bit M j
      rw [← hq2, ← hr] at hbit
      have hq4 : q < 4 := by omega
      have e1 : (j : Int) / 64 = (q : Int) := by omega
      have e2 : (j : Int) % 64 = (r : Int) := by omega
      have hqi : (q : Int) < 4 := by omega
      have hr64 : (r : Int) < 64 := by omega
      have hl64 := lim_lt M q
      have hdiv : lim M q / 2 ^ r < 18446744073709551616 := Nat.lt_of_le_of_lt (Nat.div_le_self _ _) hl64
      obtain ⟨y, hy⟩ : ∃ y, y = lim M q / 2 ^ r := ⟨_, rfl⟩
      have e4 : (lim M q : Int) / 2 ^ r = (y : Int) := by rw [hy]; simp
      rw [← hy] at hbit hdiv
      have e5 : ((y : Int) % 2 == 1) = M.testBit j := by rw [← hbit, Bool.eq_iff_iff]; simp; omega
      have e6 := and_one y hdiv
      have Hst := Lib.hid hstep
      have HYX := Lib.hid hd1
      have Hd2 := Lib.hid hd2
      have HY := Lib.hid hY
      clear hstep hd1 hd2 hX hY hj hq hlt hq2 hr hbit hy
      cases hbit : M.testBit j with
      | true =>
        rw [hbit] at e5
        go_wp2_with (first
          | (refine wpList_loadA (o := ⟨some 12, _, _, _, _, _⟩) (by rfl) 24 (.tmp 5) (by rfl) (g) (by rfl) aggWord hF.o (wcs_len _) ?_)
          | (refine wpList_loadA (o := ⟨some 13, _, _, _, _, _⟩) (by rfl) 24 (.tmp 5) (by rfl) (g) (by rfl) aggWord hF.o (wcs_len _) ?_)
          | (go_at_call 53; (with_reducible refine (mul_l X X hXl hXl _).mono ?_); rintro e w3 ⟨rfl, b3⟩; rw [HYX.out]; have hF3 := hF.kept b3)
          | (refine wpList_storeA (by rfl) 24 (.tmp 5) (.tmp 14) (by rfl) (g) (wcs (Y)) (by rfl) (by rfl) aggWord hF3.o (wcs_len _) (by first | exact wcs_len _ | rfl) (wcs_one _) (Below.refl _ _) (Nat.le_refl _) ?_; intro w4 ho4 b4 g4; have hF4 := hF3.put Hg.out ho4 b4 g4; have hc := hF4.d.wat q hq4)
          | (refine wpList_loadA (o := ⟨some 24, _, _, _, _, _⟩) (by rfl) 24 (.tmp 5) (by rfl) (g) (by rfl) aggWord hF4.o (wcs_len _) ?_)
          | (refine wpList_loadA (o := ⟨some 25, _, _, _, _, _⟩) (by rfl) 24 (.tmp 2) (by rfl) (w.heap.size) (by rfl) aggWord hF4.b (wcs_len _) ?_)
          | (go_at_call 53; (with_reducible refine (mul_l Y N hYl hN _).mono ?_); rintro e w6 ⟨rfl, b6⟩; have hF6 := hF4.kept b6)
          | (refine wpList_storeA (by rfl) 24 (.tmp 5) (.tmp 26) (by rfl) (g) (wcs (mulN Y N)) (by rfl) (by rfl) aggWord hF6.o (wcs_len _) (by first | exact wcs_len _ | rfl) (wcs_one _) (Below.refl _ _) (Nat.le_refl _) ?_; intro w7 ho7 b7 g7; have hF7 := hF6.put Hg.out ho7 b7 g7))
        go_roundw
        case rel => exact ⟨j, by omega, rfl, by rw [Hst.out, if_pos hbit, ← Hd2.out]; exact hF7⟩
        case measure => simp [intOf]
      | false =>
        rw [hbit] at e5
        go_wp2_with (first
          | (refine wpList_loadA (o := ⟨some 12, _, _, _, _, _⟩) (by rfl) 24 (.tmp 5) (by rfl) (g) (by rfl) aggWord hF.o (wcs_len _) ?_)
          | (refine wpList_loadA (o := ⟨some 13, _, _, _, _, _⟩) (by rfl) 24 (.tmp 5) (by rfl) (g) (by rfl) aggWord hF.o (wcs_len _) ?_)
          | (go_at_call 53; (with_reducible refine (mul_l X X hXl hXl _).mono ?_); rintro e w3 ⟨rfl, b3⟩; rw [HYX.out]; have hF3 := hF.kept b3)
          | (refine wpList_storeA (by rfl) 24 (.tmp 5) (.tmp 14) (by rfl) (g) (wcs (Y)) (by rfl) (by rfl) aggWord hF3.o (wcs_len _) (by first | exact wcs_len _ | rfl) (wcs_one _) (Below.refl _ _) (Nat.le_refl _) ?_; intro w4 ho4 b4 g4; have hF4 := hF3.put Hg.out ho4 b4 g4; have hc := hF4.d.wat q hq4))
        go_roundw
        case rel => exact ⟨j, by omega, rfl, by rw [Hst.out, hbit, if_neg (by simp)]; show Fr3 w N M g (pw N (2 * (M / 2 ^ (j + 1)))) _; rw [← HY.out]; exact hF4⟩
        case measure => simp [intOf]
    · obtain rfl : q = 0 := by omega
      rw [Nat.pow_zero, Nat.div_one] at hF
      go_wp2_with (first
        | (refine wpList_loadA (o := ⟨some 27, _, _, _, _, _⟩) (by rfl) 24 (.tmp 5) (by rfl) (g) (by rfl) aggWord hF.o (wcs_len _) ?_)
        | (refine wpList_storeA (by rfl) 24 (.tmp 4) (.tmp 27) (by rfl) (w.heap.size + 2) (wcs (pw N M)) (by rfl) (by rfl) aggWord hF.z (wcs_len _) (by first | exact wcs_len _ | rfl) (wcs_one _) (Below.refl _ _) (Nat.le_refl _) ?_; intro w7 hb7 b7 g7; have hbel7 := hF.bel.trans (b7.mono (by omega))))
      exact bodyPost_ret (results_blk rfl _ _ (w.heap.size + 2) aggWord hb7 (wcs_len _) rfl) rfl ⟨rfl, hbel7⟩
end Go.Proofs.Ytbilninjiklpaaa
