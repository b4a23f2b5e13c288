/- What a sponge takes up and hands out: plain laws. No program in sight. -/
import Derived.Test.YtohenjgegkgncaaSponge3
import Derived.Test.YtohenjgegkgncaaSponge1
import Derived.Laws.BitsAllLaws
set_option linter.unusedSimpArgs false
set_option linter.unusedVariables false
namespace Go.Proofs.Ytohenjgegkgncaa
open Go.RowKit
theorem nat_xor_join (i x y : Nat) (hx : x % 2 ^ i = 0) (hy : y < 2 ^ i) : x ^^^ y = x + y := by
  rw [← nat_join i x y hx hy]
  apply Nat.eq_of_testBit_eq
  intro b
  rw [Nat.testBit_xor, Nat.testBit_or]
  by_cases hb : b < i
  · have : x.testBit b = false := by
      have h := Nat.testBit_mod_two_pow x i b
      rw [hx, Nat.zero_testBit] at h
      simpa [hb] using h.symm
    rw [this]; simp
  · have : y.testBit b = false := Nat.testBit_lt_two_pow (Nat.lt_of_lt_of_le hy (Nat.pow_le_pow_right (n := 2) (by omega) (show i ≤ b by omega)))
    rw [this]; simp
/-- m bytes from 8 j on, the least first -/
def rdN (p : List UInt8) (j : Nat) : Nat → Nat
  | 0 => 0
  | m + 1 => rdN p j m + (p[8 * j + m]?.getD 0).toNat * 2 ^ (8 * m)
theorem rdN_lt (p : List UInt8) (j m : Nat) : rdN p j m < 2 ^ (8 * m) := by
  induction m with
  | zero => simp [rdN]
  | succ m ih =>
    have hx := (p[8 * j + m]?.getD 0).toNat_lt
    rw [rdN, show 8 * (m + 1) = 8 * m + 8 from by omega, Nat.pow_add]
    generalize (p[8 * j + m]?.getD 0).toNat = x at *
    have h2 : (x + 1) * 2 ^ (8 * m) ≤ 256 * 2 ^ (8 * m) := Nat.mul_le_mul_right _ (by omega)
    rw [Nat.add_mul, Nat.one_mul] at h2
    rw [show (2 : Nat) ^ 8 = 256 from rfl, Nat.mul_comm _ 256]
    omega
theorem rdN_64 (p : List UInt8) (j m : Nat) (hm : m ≤ 8) : rdN p j m < 18446744073709551616 :=
  Nat.lt_of_lt_of_le (rdN_lt p j m) (Nat.pow_le_pow_right (n := 2) (by omega) (show 8 * m ≤ 64 by omega))
theorem byte_up (x : UInt8) (m : Nat) (hm : m < 8) : x.toNat * 2 ^ (8 * m) < 18446744073709551616 := by
  have hx := x.toNat_lt
  have h1 : x.toNat * 2 ^ (8 * m) ≤ 255 * 2 ^ (8 * m) := Nat.mul_le_mul_right _ (by omega)
  have h2 : (2 : Nat) ^ (8 * m) ≤ 2 ^ 56 := Nat.pow_le_pow_right (n := 2) (by omega) (by omega)
  rw [show (2 : Nat) ^ 56 = 72057594037927936 from rfl] at h2
  omega
theorem rdN_or (p : List UInt8) (j m : Nat) (hm : m < 8) : bits .or .u64 ((rdN p j m : Nat) : Int) (((p[8 * j + m]?.getD 0).toNat * 2 ^ (8 * m) : Nat) : Int) = ((rdN p j (m + 1) : Nat) : Int) := by
  rw [u64_or_nat _ _ (rdN_64 p j m (by omega)) (byte_up _ m hm), Nat.or_comm, nat_join (8 * m) _ _ (Nat.mul_mod_left _ _) (rdN_lt p j m), Nat.add_comm]
  rfl
def xorI (a : Int) (n : Nat) : Int := bits .xor .u64 a (n : Int)
theorem inU_nat {a : Int} (h : inU a) : ∃ n : Nat, a = (n : Int) ∧ n < 18446744073709551616 := by
  unfold inU at h
  exact ⟨a.toNat, by omega, by omega⟩
theorem xorI_zero {a : Int} (h : inU a) : xorI a 0 = a := by
  obtain ⟨n, rfl, hn⟩ := inU_nat h
  unfold xorI
  rw [u64_xor_nat n 0 hn (by omega), Nat.xor_zero]
theorem xorI_in (a : Int) (n : Nat) : inU (xorI a n) := bits_inU _ _ _
theorem xorI_more {a : Int} (h : inU a) (p : List UInt8) (j m : Nat) (hm : m < 8) : bits .xor .u64 (xorI a (rdN p j m)) (((p[8 * j + m]?.getD 0).toNat * 2 ^ (8 * m) : Nat) : Int) = xorI a (rdN p j (m + 1)) := by
  obtain ⟨n, rfl, hn⟩ := inU_nat h
  unfold xorI
  have h1 := rdN_64 p j m (by omega)
  have h2 := byte_up (p[8 * j + m]?.getD 0) m hm
  rw [u64_xor_nat n _ hn h1, u64_xor_nat _ _ (Nat.xor_lt_two_pow (n := 64) hn h1) h2, u64_xor_nat n _ hn (rdN_64 p j (m + 1) (by omega)), Nat.xor_assoc, Nat.xor_comm (rdN p j m), nat_xor_join (8 * m) _ _ (Nat.mul_mod_left _ _) (rdN_lt p j m), Nat.add_comm]
  rfl
/-- the state, k bytes of the block taken up -/
def absK (st : List Int) (p : List UInt8) (k : Nat) : List Int := (List.range 8).map fun j => xorI (st[j]?.getD 0) (rdN p j (min 8 (k - 8 * j)))
theorem absK_at (st : List Int) (p : List UInt8) (k j : Nat) (hj : j < 8) : (absK st p k)[j]? = some (xorI (st[j]?.getD 0) (rdN p j (min 8 (k - 8 * j)))) := by simp [absK, hj]
theorem absK_len (st : List Int) (p : List UInt8) (k : Nat) : (absK st p k).length = 8 := by simp [absK]
theorem absK_St (st : List Int) (p : List UInt8) (k : Nat) : St (absK st p k) := by
  refine ⟨absK_len _ _ _, fun x hx => ?_⟩
  unfold absK at hx
  obtain ⟨j, _, rfl⟩ := List.mem_map.1 hx
  exact xorI_in _ _
theorem absK_zero {st : List Int} (h : St st) (p : List UInt8) : absK st p 0 = st := by
  apply List.ext_getElem?
  intro j
  by_cases hj : j < 8
  · rw [absK_at st p 0 j hj, show min 8 (0 - 8 * j) = 0 from by omega, rdN, xorI_zero (h.get j hj)]
    have : j < st.length := by rw [h.1]; exact hj
    rw [List.getElem?_eq_getElem this]; rfl
  · rw [List.getElem?_eq_none (by rw [absK_len]; omega), List.getElem?_eq_none (by rw [h.1]; omega)]
theorem absK_set (st : List Int) (p : List UInt8) (k k' j : Nat) (hj : j < 8) (x : Int) (hx : x = xorI (st[j]?.getD 0) (rdN p j (min 8 (k' - 8 * j)))) (ho : ∀ i, i < 8 → i ≠ j → min 8 (k - 8 * i) = min 8 (k' - 8 * i)) :
    (absK st p k).set j x = absK st p k' := by
  apply List.ext_getElem?
  intro i
  rw [List.getElem?_set]
  by_cases hi : i < 8
  · by_cases hij : j = i
    · subst hij
      rw [if_pos rfl, if_pos (by rw [absK_len]; exact hj), absK_at st p k' j hj, hx]
    · rw [if_neg hij, absK_at st p k i hi, absK_at st p k' i hi, ho i hi (Ne.symm hij)]
  · rw [if_neg (by omega), List.getElem?_eq_none (by rw [absK_len]; omega), List.getElem?_eq_none (by rw [absK_len]; omega)]
theorem absK_step {st : List Int} (h : St st) (p : List UInt8) (k q r : Nat) (hk : k < 32) (hq : q = k / 8) (hr : r = k % 8) :
    (absK st p k).set q (bits .xor .u64 ((absK st p k)[q]?.getD 0) (((p[k]?.getD 0).toNat * 2 ^ (8 * r) : Nat) : Int)) = absK st p (k + 1) := by
  refine absK_set st p k (k + 1) q (by omega) _ ?_ (fun i hi hne => by omega)
  rw [absK_at st p k q (by omega), Option.getD_some, show min 8 (k - 8 * q) = r from by omega, show min 8 (k + 1 - 8 * q) = r + 1 from by omega]
  have := xorI_more (h.get q (by omega)) p q r (by omega)
  rw [show 8 * q + r = k from by omega] at this
  exact this
theorem absK_word {st : List Int} (h : St st) (p : List UInt8) (j : Nat) (hj : j < 4) :
    (absK st p (8 * j)).set j (bits .xor .u64 ((absK st p (8 * j))[j]?.getD 0) ((rdN p j 8 : Nat) : Int)) = absK st p (8 * (j + 1)) := by
  refine absK_set st p (8 * j) (8 * (j + 1)) j (by omega) _ ?_ (fun i hi hne => by omega)
  rw [absK_at st p (8 * j) j (by omega), Option.getD_some, show min 8 (8 * j - 8 * j) = 0 from by omega, show min 8 (8 * (j + 1) - 8 * j) = 8 from by omega, rdN, xorI_zero (h.get j (by omega))]
  rfl
/-- the state behind m whole blocks -/
def stB (P : List UInt8) : Nat → List Int
  | 0 => List.replicate 8 0
  | m + 1 => mixL (absK (stB P m) (P.drop (32 * m)) 32) 12
theorem stB_St (P : List UInt8) (m : Nat) : St (stB P m) := by
  cases m with
  | zero =>
    refine ⟨by simp [stB], fun x hx => ?_⟩
    simp only [stB, List.mem_replicate] at hx
    rw [hx.2]; unfold inU; omega
  | succ m => exact (absK_St _ _ _).mix 12
/-- what is handed out -/
def outB (st : List Int) : List UInt8 := (List.range 32).map fun k => UInt8.ofNat ((st[k / 8]?.getD 0).toNat / 2 ^ (8 * (k % 8)))
theorem outB_len (st : List Int) : (outB st).length = 32 := by simp [outB]
theorem outB_at (st : List Int) (k : Nat) (hk : k < 32) : (outB st)[k]? = some (UInt8.ofNat ((st[k / 8]?.getD 0).toNat / 2 ^ (8 * (k % 8)))) := by simp [outB, hk]
theorem rdN_same (p q : List UInt8) (j m : Nat) (h : ∀ i, i < 8 * j + m → p[i]? = q[i]?) : rdN p j m = rdN q j m := by
  induction m with
  | zero => rfl
  | succ m ih => rw [rdN, rdN, ih (fun i hi => h i (by omega)), h (8 * j + m) (by omega)]
theorem absK_same (st : List Int) (p q : List UInt8) (k : Nat) (hk : k ≤ 32) (h : ∀ i, i < 32 → p[i]? = q[i]?) : absK st p k = absK st q k := by
  unfold absK
  apply List.map_congr_left
  intro j hj
  have : j < 8 := by simpa using hj
  by_cases hj4 : j < 4
  · rw [rdN_same p q j _ (fun i hi => h i (by omega))]
  · rw [show min 8 (k - 8 * j) = 0 from by omega]; rfl
end Go.Proofs.Ytohenjgegkgncaa
