/- The reference's WBit, WMul. -/
import Derived.Test.YtgmdbleeagfhpaaWord13
set_option linter.unusedSimpArgs false
set_option linter.unusedVariables false
namespace Go.Proofs.Ytgmdbleeagfhpaa
open Go.RowKit
theorem byte_bit (N i : Nat) : (byteN N (i / 8) / 2 ^ (i % 8) % 2 == 1) = N.testBit i := by
  rw [Nat.testBit_eq_decide_div_mod_eq]
  have h : byteN N (i / 8) / 2 ^ (i % 8) % 2 = N / 2 ^ i % 2 := by
    unfold byteN
    obtain ⟨r, hr⟩ : ∃ r, r = i % 8 := ⟨_, rfl⟩
    have hi : i = 8 * (i / 8) + r := by omega
    rw [← hr]
    have : N / 2 ^ i = N / 2 ^ (8 * (i / 8)) / 2 ^ r := by rw [Nat.div_div_eq_div_mul, ← Nat.pow_add, ← hi]
    rw [this]
    generalize N / 2 ^ (8 * (i / 8)) = a
    have hr8 : r < 8 := by omega
    clear hi this hr
    rcases (show r = 0 ∨ r = 1 ∨ r = 2 ∨ r = 3 ∨ r = 4 ∨ r = 5 ∨ r = 6 ∨ r = 7 from by omega) with rfl | rfl | rfl | rfl | rfl | rfl | rfl | rfl <;> omega
  rw [h, Bool.eq_iff_iff]
  simp
set_option maxHeartbeats 400000 in
set_option maxRecDepth 100000 in
theorem wbit_any (N i : Nat) (hi : i < 256) (w : World) :
    Calls Try.prog 75 #[wv N, .int .i64 (i : Int)] w fun e w' => e = .returned (.bool (N.testBit i)) ∧ Below w.heap.size w w' := by
  have hb0 := boxW w N
  have hbel0 : Below w.heap.size w (w.alloc (.cells (wcs N).toArray 24)) := (Below.refl _ _).alloc (Nat.le_refl _) _
  show Calls Try.prog 75 #[.agg (wcs N).toArray, .int .i64 (i : Int)] w _
  obtain ⟨q, hq⟩ : ∃ q, q = i / 8 := ⟨_, rfl⟩
  obtain ⟨r, hr⟩ : ∃ r, r = i % 8 := ⟨_, rfl⟩
  have hbit := byte_bit N i
  rw [← hq, ← hr] at hbit
  have e1 : (i : Int) / 8 = (q : Int) := by omega
  have e2 : (i : Int) % 8 = (r : Int) := by omega
  obtain ⟨j, hj⟩ : ∃ j, j = 31 - q := ⟨_, rfl⟩
  have e3 : (31 : Int) - (q : Int) = (j : Int) := by omega
  have hji : (j : Int) < 32 := by omega
  have hj32 : j < 32 := by omega
  have hr8 : (r : Int) < 8 := by omega
  have hx8 : byteN N q < 256 := by unfold byteN; omega
  have hxn : (wbyte N j).toNat = byteN N q := by rw [wbyte_nat]; congr 1; omega
  have hdiv : byteN N q / 2 ^ r < 256 := Nat.lt_of_le_of_lt (Nat.div_le_self _ _) hx8
  obtain ⟨y, hy⟩ : ∃ y, y = byteN N q / 2 ^ r := ⟨_, rfl⟩
  rw [← hy] at hbit
  have e4 : (byteN N q : Int) / 2 ^ r = (y : Int) := by rw [hy]; simp
  have e5 : ((y : Int) % 2 == 1) = N.testBit i := by rw [← hbit, Bool.eq_iff_iff]; simp; omega
  rw [← hy] at hdiv
  generalize byteN N q = x at *
  have Hxn := Lib.hid hxn
  clear hq hr hbit hj hy hxn
  go_enter Try.func75, Try.ntmps75
  go_wp2_with (first
    | (refine wpList_loadA rfl 24 (.tmp 2) rfl w.heap.size rfl aggWord hb0 (wcs_len _) ?_)
    | (go_at_call 85; refine (wbytes_any N _).mono ?_; rintro e w2 ⟨v, rfl, hv, b2⟩; obtain ⟨a, c, rfl, hc⟩ := hv.form' 32 (wb_len N); obtain ⟨g, rfl, hg, hg2⟩ := hv.lies (by omega); have hbel2 := hbel0.trans (b2.mono hbel0.size); have hcell := hv.cellAt one_u8 j _ (wb_at N j hj32); unfold u8v at hcell; rw [Hxn.out] at hcell))
  go_ret
  exact ⟨rfl, hbel2⟩
/-- The contracts with their arguments as a load leaves them. -/
theorem wadd_l (N M : Nat) (w : World) : Calls Try.prog 115 #[.agg (wcs N).toArray, .agg (wcs M).toArray] w fun e w' => e = .returned (.agg (wcs (addN N M)).toArray) ∧ Below w.heap.size w w' := wadd_any N M w
theorem wsub_l (N M : Nat) (hN : N < W256) (hM : M < W256) (w : World) : Calls Try.prog 91 #[.agg (wcs N).toArray, .agg (wcs M).toArray] w fun e w' => e = .returned (.agg (wcs (subN N M)).toArray) ∧ Below w.heap.size w w' := wsub_any N M hN hM w
theorem wbit_l (N i : Nat) (hi : i < 256) (b : Bool) (hb : N.testBit i = b) (w : World) : Calls Try.prog 75 #[.agg (wcs N).toArray, .int .i64 (i : Int)] w fun e w' => e = .returned (.bool b) ∧ Below w.heap.size w w' := by subst hb; exact wbit_any N i hi w
def mulN (N M : Nat) : Nat := (N * M) % W256
theorem mulN_lt (N M : Nat) : mulN N M < W256 := Nat.mod_lt _ (by unfold W256; omega)
theorem add_mod_l (a b W : Nat) : (a % W + b) % W = (a + b) % W := by rw [Nat.add_mod, Nat.mod_mod, ← Nat.add_mod]
theorem mul_dbl (N K : Nat) : addN (mulN N K) (mulN N K) = mulN N (2 * K) := by
  unfold addN mulN
  rw [← Nat.add_mod, show N * (2 * K) = N * K + N * K from by rw [← Nat.mul_assoc, Nat.mul_comm N 2, Nat.mul_assoc]; omega]
theorem mul_one_more (N K : Nat) : addN (mulN N K) N = mulN N (K + 1) := by
  unfold addN mulN
  rw [add_mod_l, Nat.mul_add, Nat.mul_one]
theorem half_bit (M j : Nat) : M / 2 ^ j = 2 * (M / 2 ^ (j + 1)) + (if M.testBit j then 1 else 0) := by
  rw [Nat.testBit_eq_decide_div_mod_eq, Nat.pow_succ, ← Nat.div_div_eq_div_mul]
  generalize M / 2 ^ j = a
  by_cases h : a % 2 = 1
  · simp [h]; omega
  · simp [h]; omega
end Go.Proofs.Ytgmdbleeagfhpaa
