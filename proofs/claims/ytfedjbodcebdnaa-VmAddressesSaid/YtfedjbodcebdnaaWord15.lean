/- The whole product of two words, by parts: plain laws. No program in sight. -/
import Derived.Test.YtfedjbodcebdnaaWord14
set_option linter.unusedSimpArgs false
set_option linter.unusedVariables false
namespace Go.Proofs.Ytfedjbodcebdnaa
open Go.RowKit
def B64 : Nat := 18446744073709551616
theorem B64_pow (k : Nat) : B64 ^ k = 2 ^ (64 * k) := by rw [show B64 = 2 ^ 64 from rfl, ← Nat.pow_mul]
/-- the number that parts make, the least first -/
def valL : List Nat → Nat
  | [] => 0
  | d :: D => d + B64 * valL D
theorem valL_set : ∀ (D : List Nat) (k x : Nat) (h : k < D.length), valL (D.set k x) + D[k] * B64 ^ k = valL D + x * B64 ^ k
  | d :: D, 0, x, _ => by simp [valL]; omega
  | d :: D, k + 1, x, h => by
    have hk : k < D.length := by simpa using h
    have ih := valL_set D k x hk
    simp only [List.set_cons_succ, List.getElem_cons_succ, valL, Nat.pow_succ]
    generalize D[k] = y at *
    have e1 : y * (B64 ^ k * B64) = B64 * (y * B64 ^ k) := by rw [Nat.mul_comm (B64 ^ k), ← Nat.mul_assoc, Nat.mul_comm _ B64, Nat.mul_assoc]
    have e2 : x * (B64 ^ k * B64) = B64 * (x * B64 ^ k) := by rw [Nat.mul_comm (B64 ^ k), ← Nat.mul_assoc, Nat.mul_comm _ B64, Nat.mul_assoc]
    rw [e1, e2, Nat.add_assoc, ← Nat.mul_add, ih, Nat.mul_add]; omega
theorem lim_valL : ∀ (D : List Nat) (k : Nat) (_ : ∀ d ∈ D, d < B64) (hk : k < D.length), lim (valL D) k = D[k]
  | d :: D, 0, h, _ => by
    have := h d (by simp)
    rw [lim0, valL]
    show (d + B64 * valL D) % B64 = d
    rw [Nat.add_mul_mod_self_left, Nat.mod_eq_of_lt this]
  | d :: D, k + 1, h, hk => by
    have hd := h d (by simp)
    have ih := lim_valL D k (fun x hx => h x (List.mem_cons_of_mem _ hx)) (by simpa using hk)
    rw [List.getElem_cons_succ, ← ih]
    unfold lim
    rw [show 64 * (k + 1) = 64 + 64 * k from by omega, Nat.pow_add, ← Nat.div_div_eq_div_mul]
    congr 2
    show (d + B64 * valL D) / B64 = valL D
    rw [Nat.add_mul_div_left _ _ (by unfold B64; omega), Nat.div_eq_of_lt hd, Nat.zero_add]
/-- What stands behind i parts of N and j parts of M. -/
def prod (N M i j : Nat) : Nat := (N % B64 ^ i) * M + lim N i * (M % B64 ^ j) * B64 ^ i
theorem mod_parts (N k : Nat) : N % B64 ^ (k + 1) = N % B64 ^ k + lim N k * B64 ^ k := by
  have := mod_step N k
  rw [B64_pow, B64_pow, this, Nat.mul_comm, Nat.add_comm]
theorem prod_zero (N M i : Nat) : prod N M i 0 = (N % B64 ^ i) * M := by unfold prod; simp [Nat.mod_one]
theorem prod_next (N M i j : Nat) : prod N M i (j + 1) = prod N M i j + lim N i * lim M j * B64 ^ (i + j) := by
  unfold prod
  rw [mod_parts M j, Nat.mul_add, Nat.add_mul, Nat.add_assoc]
  congr 2
  rw [Nat.pow_add, ← Nat.mul_assoc (lim N i), Nat.mul_assoc (lim N i * lim M j), Nat.mul_comm (B64 ^ j)]
theorem prod_row (N M i : Nat) (hM : M < W256) : prod N M i 4 = prod N M (i + 1) 0 := by
  rw [prod_zero, mod_parts N i, Nat.add_mul]
  unfold prod
  rw [Nat.mod_eq_of_lt (show M < B64 ^ 4 from hM), Nat.mul_assoc, Nat.mul_comm M, ← Nat.mul_assoc]
theorem prod_all (N M : Nat) (hN : N < W256) : prod N M 4 0 = N * M := by
  rw [prod_zero, Nat.mod_eq_of_lt (show N < B64 ^ 4 from hN)]
/-- One part's product with what is there and what is carried. -/
theorem part_step (x y p c : Nat) (hx : x < B64) (hy : y < B64) (hp : p < B64) (hc : c < B64) :
    x * y / B64 + (x * y % B64 + p) / B64 + ((x * y % B64 + p) % B64 + c) / B64 < B64 ∧
    (x * y / B64 + (x * y % B64 + p) / B64 + ((x * y % B64 + p) % B64 + c) / B64) * B64 + ((x * y % B64 + p) % B64 + c) % B64 = x * y + p + c := by
  have hxy : x * y ≤ (B64 - 1) * (B64 - 1) := Nat.mul_le_mul (by omega) (by omega)
  rw [show (B64 - 1) * (B64 - 1) = 340282366920938463426481119284349108225 from rfl] at hxy
  unfold B64 at *
  omega
/-- The invariant's step. -/
theorem prod_put (N M i j c x : Nat) (D : List Nat) (c2 : Nat) (hk : i + j < D.length) (h : valL D + c * B64 ^ (i + j) = prod N M i j) (hs : c2 * B64 + x = lim N i * lim M j + D[i + j] + c) :
    valL (D.set (i + j) x) + c2 * B64 ^ (i + (j + 1)) = prod N M i (j + 1) := by
  have h1 := valL_set D (i + j) x hk
  rw [prod_next, ← h, show i + (j + 1) = i + j + 1 from by omega, Nat.pow_succ]
  have h2 : c2 * (B64 ^ (i + j) * B64) = c2 * B64 * B64 ^ (i + j) := by rw [Nat.mul_comm (B64 ^ (i + j)), Nat.mul_assoc]
  have h3 : (c2 * B64 + x) * B64 ^ (i + j) = (lim N i * lim M j + D[i + j] + c) * B64 ^ (i + j) := by rw [hs]
  rw [Nat.add_mul, Nat.add_mul, Nat.add_mul] at h3
  rw [h2]; omega
end Go.Proofs.Ytfedjbodcebdnaa
