/- Powers of words: plain laws; word.Exp. -/
import Derived.Test.YtgmdbleeagfhpaaWord16
import Derived.Laws.Bits64b
set_option linter.unusedSimpArgs false
set_option linter.unusedVariables false
namespace Go.Proofs.Ytgmdbleeagfhpaa
open Go.RowKit
def pw (N K : Nat) : Nat := N ^ K % W256
theorem pw_lt (N K : Nat) : pw N K < W256 := Nat.mod_lt _ (by unfold W256; omega)
theorem mul_pw (N a b : Nat) : mulN (pw N a) (pw N b) = pw N (a + b) := by
  unfold mulN pw
  rw [← Nat.mul_mod, Nat.pow_add]
theorem mul_pw1 (N a : Nat) : mulN (pw N a) N = pw N (a + 1) := by
  unfold mulN pw
  rw [Nat.pow_succ, Nat.mul_mod, Nat.mod_mod, ← Nat.mul_mod]
theorem pw_zero (N : Nat) : pw N 0 = 1 := by unfold pw; simp [W256]
theorem pw_one (N : Nat) (h : N < W256) : pw N 1 = N := by unfold pw; rw [Nat.pow_one, Nat.mod_eq_of_lt h]
theorem lim_bit (N i : Nat) : (lim N (i / 64) / 2 ^ (i % 64) % 2 == 1) = N.testBit i := by
  rw [Nat.testBit_eq_decide_div_mod_eq]
  have h : lim N (i / 64) / 2 ^ (i % 64) % 2 = N / 2 ^ i % 2 := by
    unfold lim
    obtain ⟨r, hr⟩ : ∃ r, r = i % 64 := ⟨_, rfl⟩
    have hi : i = 64 * (i / 64) + r := by omega
    rw [← hr]
    have : N / 2 ^ i = N / 2 ^ (64 * (i / 64)) / 2 ^ r := by rw [Nat.div_div_eq_div_mul, ← Nat.pow_add, ← hi]
    rw [this]
    generalize N / 2 ^ (64 * (i / 64)) = a
    have hr8 : r < 64 := by omega
    obtain ⟨s, hs⟩ : ∃ s, 64 = r + (s + 1) := ⟨63 - r, by omega⟩
    rw [show (18446744073709551616 : Nat) = 2 ^ r * (2 ^ s * 2) from by rw [← Nat.pow_succ, ← Nat.pow_add, ← hs]]
    rw [Nat.mod_mul_right_div_self]
    exact Nat.mod_mod_of_dvd _ ⟨2 ^ s, by rw [Nat.mul_comm]⟩
  rw [h, Bool.eq_iff_iff]
  simp
theorem and_one (y : Nat) (hy : y < 18446744073709551616) : bits .and .u64 (y : Int) 1 = (y : Int) % 2 := by
  have h := bits_and_u64_nat y 1 hy (by omega)
  rw [Nat.and_one_is_mod] at h
  have e : ((y % 2 : Nat) : Int) = (y : Int) % 2 := by omega
  rw [e] at h
  exact h
theorem mul_l (N M : Nat) (hN : N < W256) (hM : M < W256) (w : World) : Calls Try.prog 104 #[.agg (wcs N).toArray, .agg (wcs M).toArray] w fun e w' => e = .returned (.agg (wcs (mulN N M)).toArray) ∧ Below w.heap.size w w' := mul_any N M hN hM w
theorem int_one (w : World) : Calls Try.prog 81 #[.int .u64 1] w fun e w' => e = .returned (.agg (wcs 1).toArray) ∧ Below w.heap.size w w' := int_any 1 (by omega) w
theorem wint_one (w : World) : Calls Try.prog 84 #[.int .u64 1] w fun e w' => e = .returned (.agg (wcs 1).toArray) ∧ Below w.heap.size w w' := wint_any 1 (by omega) w
/-- What a loop over a word keeps: the arguments, the result's block, a word of its own. -/
structure Fr3 (w : World) (N M g X : Nat) (u : World) : Prop where
  b : Blk 24 u w.heap.size (wcs N)
  d : Blk 24 u (w.heap.size + 1) (wcs M)
  z : Blk 24 u (w.heap.size + 2) z4
  o : Blk 24 u g (wcs X)
  bel : Below w.heap.size w u
theorem Fr3.kept {w u u' : World} {N M g X : Nat} (h : Fr3 w N M g X u) (hb : Below u.heap.size u u') : Fr3 w N M g X u' :=
  ⟨h.b.kept hb, h.d.kept hb, h.z.kept hb, h.o.kept hb, h.bel.trans (hb.mono h.bel.size)⟩
theorem Fr3.put {w u u' : World} {N M g X Y : Nat} (h : Fr3 w N M g X u) (hg : w.heap.size + 3 ≤ g) (ho : Blk 24 u' g (wcs Y)) (hb : Below g u u') (hr : u.grownBy u' (some g)) : Fr3 w N M g Y u' :=
  ⟨h.b.grown hr (by simp; omega), h.d.grown hr (by simp; omega), h.z.grown hr (by simp; omega), ho, h.bel.trans (hb.mono (by omega))⟩
end Go.Proofs.Ytgmdbleeagfhpaa
