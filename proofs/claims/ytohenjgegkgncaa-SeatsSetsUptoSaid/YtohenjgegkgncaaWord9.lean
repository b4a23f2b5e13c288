/- A store into an own slice of bytes; the sums of bytes. -/
import Derived.Test.YtohenjgegkgncaaWord8
set_option linter.unusedSimpArgs false
set_option linter.unusedVariables false
namespace Go.Proofs.Ytohenjgegkgncaa
open Go.RowKit
/-- What an own slice of bytes is. -/
theorem OwnOf.parts {e : TypeId} {w : World} {B : Nat} {a : Option Addr} {n c : Nat} {l : List UInt8} (h : OwnOf b8 1 e w B (.slice a n c) l) (hn : 0 < n) :
    ∃ g cur, a = some ⟨g, 0, none⟩ ∧ B ≤ g ∧ w.heap[g]? = some (.cells cur e (0, 0)) ∧ n ≤ c ∧ cur.size = c ∧ n = l.length := by
  obtain ⟨h1, h2⟩ := h
  rcases h2 with ⟨h2, h3⟩ | ⟨g, cap, cur, h2, h3, h4, h5, h6, h7, h8⟩
  · simp only [Value.slice.injEq] at h2; omega
  · simp only [Value.slice.injEq] at h2
    obtain ⟨rfl, rfl, rfl⟩ := h2
    exact ⟨g, cur, rfl, h3, h4, h5, by omega, rfl⟩
theorem OwnOf.set {e : TypeId} {w : World} {B g n c : Nat} {l : List UInt8} (h : OwnOf b8 1 e w B (.slice (some ⟨g, 0, none⟩) n c) l) (k : Nat) (x : UInt8) :
    OwnOf b8 1 e (w.setCell ⟨g, k, none⟩ (u8v x)) B (.slice (some ⟨g, 0, none⟩) n c) (l.set k x) := by
  obtain ⟨h1, h2⟩ := h
  refine ⟨by rw [flat_b8, List.length_map, Nat.mul_one], ?_⟩
  rcases h2 with ⟨h2, h3⟩ | ⟨g', cap, cur, h2, h3, h4, h5, h6, h7, h8⟩
  · cases h2
  · simp only [Value.slice.injEq, Option.some.injEq, Addr.mk.injEq, and_true] at h2
    obtain ⟨rfl, rfl, rfl⟩ := h2
    refine .inr ⟨g, c, cur.setIfInBounds k (u8v x), ?_, h3, ?_, ?_, h6, ?_, ?_⟩
    · rw [List.length_set]
    · exact heap_setCell_same w g k cur e (u8v x) h4
    · rw [List.length_set]; exact h5
    · simpa using h7
    · rw [flat_b8] at h8 ⊢
      rw [List.length_set, Array.toList_setIfInBounds, List.map_set, ← h8]
      rw [List.take_set]
/-- byte k of N, the least first -/
def byteN (N k : Nat) : Nat := N / 2 ^ (8 * k) % 256
theorem wbyte_nat (N i : Nat) : (wbyte N i).toNat = byteN N (31 - i) := by
  unfold wbyte byteN; rw [UInt8.toNat_ofNat']
def bor8 (N M k : Nat) : Nat := if N % 2 ^ (8 * k) < M % 2 ^ (8 * k) then 1 else 0
theorem bor8_le (N M k : Nat) : bor8 N M k ≤ 1 := by unfold bor8; split <;> omega
theorem bor8_zero (N M : Nat) : bor8 N M 0 = 0 := by unfold bor8; simp [Nat.mod_one]
theorem mod_step8 (N k : Nat) : N % 2 ^ (8 * (k + 1)) = 2 ^ (8 * k) * byteN N k + N % 2 ^ (8 * k) := by
  rw [show 8 * (k + 1) = 8 * k + 8 from by omega, Nat.pow_add, Nat.mod_mul, Nat.add_comm]; rfl
theorem bor8_step (N M k : Nat) : bor8 N M (k + 1) = if byteN N k < byteN M k + bor8 N M k then 1 else 0 := by
  unfold bor8
  rw [mod_step8, mod_step8]
  have hP : 0 < 2 ^ (8 * k) := Nat.two_pow_pos _
  have h1 : N % 2 ^ (8 * k) < 2 ^ (8 * k) := Nat.mod_lt _ hP
  have h2 : M % 2 ^ (8 * k) < 2 ^ (8 * k) := Nat.mod_lt _ hP
  generalize N % 2 ^ (8 * k) = a at *
  generalize M % 2 ^ (8 * k) = b at *
  generalize 2 ^ (8 * k) = P at *
  generalize byteN N k = x at *
  generalize byteN M k = y at *
  rcases Nat.lt_trichotomy x y with h | h | h
  · have : P * (x + 1) ≤ P * y := Nat.mul_le_mul_left _ h
    rw [Nat.mul_add, Nat.mul_one] at this
    rw [if_pos (by omega), if_pos (by split <;> omega)]
  · subst h
    by_cases hab : a < b
    · rw [if_pos (by omega), if_pos (by rw [if_pos hab]; omega)]
    · rw [if_neg (by omega), if_neg (by rw [if_neg hab]; omega)]
  · have : P * (y + 1) ≤ P * x := Nat.mul_le_mul_left _ h
    rw [Nat.mul_add, Nat.mul_one] at this
    rw [if_neg (by omega), if_neg (by split <;> omega)]
theorem sub8_step (N M k : Nat) (hk : k < 32) (hM : M < W256) : (byteN N k + 256 - byteN M k - bor8 N M k) % 256 = byteN (subN N M) k := by
  unfold subN byteN bor8
  obtain ⟨R, hR⟩ : ∃ R, R = 2 ^ (248 - 8 * k) := ⟨_, rfl⟩
  have hW : W256 = 2 ^ (8 * k) * (256 * R) := by
    rw [hR, show (256 : Nat) = 2 ^ 8 from rfl, ← Nat.pow_add, ← Nat.pow_add, show 8 * k + (8 + (248 - 8 * k)) = 256 from by omega]; rfl
  have hP : 0 < 2 ^ (8 * k) := Nat.two_pow_pos _
  rw [hW] at hM ⊢
  rw [Nat.mod_mul_right_div_self, Nat.mod_mod_of_dvd _ ⟨R, rfl⟩]
  clear hW hR
  have hn := Nat.div_add_mod N (2 ^ (8 * k))
  have hm := Nat.div_add_mod M (2 ^ (8 * k))
  have hn0 := Nat.mod_lt N hP
  have hm0 := Nat.mod_lt M hP
  have hmm : M / 2 ^ (8 * k) < 256 * R := by rw [Nat.div_lt_iff_lt_mul hP, Nat.mul_comm]; exact hM
  generalize N % 2 ^ (8 * k) = n0 at *
  generalize M % 2 ^ (8 * k) = m0 at *
  generalize N / 2 ^ (8 * k) = nn at *
  generalize M / 2 ^ (8 * k) = mm at *
  generalize 2 ^ (8 * k) = P at *
  have key : (N + P * (256 * R) - M) / P = nn + 256 * R - mm - (if n0 < m0 then 1 else 0) := by
    subst hn hm
    have hle : P * (mm + 1) ≤ P * (256 * R) := Nat.mul_le_mul_left _ hmm
    rw [Nat.mul_add, Nat.mul_one] at hle
    split
    · rename_i h
      have e : P * nn + n0 + P * (256 * R) - (P * mm + m0) = P * (nn + 256 * R - mm - 1) + (P + n0 - m0) := by
        rw [Nat.mul_sub, Nat.mul_sub, Nat.mul_add, Nat.mul_one]; omega
      rw [e, Nat.mul_add_div hP, Nat.div_eq_of_lt (by omega)]; omega
    · rename_i h
      have e : P * nn + n0 + P * (256 * R) - (P * mm + m0) = P * (nn + 256 * R - mm) + (n0 - m0) := by
        rw [Nat.mul_sub, Nat.mul_add]; omega
      rw [e, Nat.mul_add_div hP, Nat.div_eq_of_lt (by omega)]; omega
  rw [key]
  split <;> omega
end Go.Proofs.Ytohenjgegkgncaa
