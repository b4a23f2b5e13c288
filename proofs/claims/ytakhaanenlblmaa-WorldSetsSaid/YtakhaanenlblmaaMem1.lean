/- memory.Cost, the reference's KCost; what the two memories are, in plain Lean. -/
import Derived.Test.YtakhaanenlblmaaTx1
import Derived.Test.YtakhaanenlblmaaTx2
set_option linter.unusedSimpArgs false
set_option linter.unusedVariables false
namespace Go.Proofs.Ytakhaanenlblmaa
open Go.RowKit
def costN (n : Nat) : Nat := if 128 < n then 0 else 3 * n + n * n / 64
def costI (x : Int) : Int := if x < 0 then 0 else (costN x.toNat : Int)
theorem costN_small (n : Nat) : costN n ≤ 640 := by
  unfold costN
  split
  · omega
  · have : n * n ≤ 128 * 128 := Nat.mul_le_mul (by omega) (by omega)
    omega
set_option maxRecDepth 100000 in
theorem mcost_any (x : Int) (h : (Lit.int .i64 x).wf = true) (w : World) : Calls Try.prog 17 #[.int .i64 x] w fun e w' => e = .returned (.int .u64 (costI x)) ∧ Below w.heap.size w w' := by
  by_cases h0 : x < 0
  · have hc : costI x = 0 := by unfold costI; rw [if_pos h0]
    rw [hc]
    clear hc
    go_enter Try.func17, Try.ntmps17
    go_wp2
    go_ret
    exact ⟨rfl, Below.refl _ _⟩
  · obtain ⟨n, rfl⟩ := Int.eq_ofNat_of_zero_le (by omega : 0 ≤ x)
    by_cases h1 : 128 < n
    · have hc : costI (n : Int) = 0 := by unfold costI; rw [if_neg h0]; unfold costN; rw [if_pos (by simpa using h1)]; rfl
      have hi : (128 : Int) < (n : Int) := by omega
      rw [hc]
      clear hc
      go_enter Try.func17, Try.ntmps17
      go_wp2
      go_ret
      exact ⟨rfl, Below.refl _ _⟩
    · have hn : n ≤ 128 := by omega
      have hnn : n * n ≤ 16384 := Nat.mul_le_mul (by omega : n ≤ 128) (by omega : n ≤ 128)
      have hc : costI (n : Int) = ((3 * n + n * n / 64 : Nat) : Int) := by unfold costI; rw [if_neg h0]; unfold costN; rw [if_neg (by simpa using h1)]; simp
      have hi : ¬ (128 : Int) < (n : Int) := by omega
      have e1 : IntKind.i64.wrap (3 * (n : Int)) = ((3 * n : Nat) : Int) := by rw [IntWalk.i64_in _ (by omega)]; omega
      have e2 : IntKind.i64.wrap ((n : Int) * (n : Int)) = ((n * n : Nat) : Int) := by rw [← Int.natCast_mul]; exact IntWalk.i64_in _ (by omega)
      rw [hc]
      clear hc h
      go_enter Try.func17, Try.ntmps17
      go_wp2
      go_ret
      exact ⟨rfl, Below.refl _ _⟩
set_option maxRecDepth 100000 in
theorem kcost_any (x : Int) (h : (Lit.int .i64 x).wf = true) (w : World) : Calls Try.prog 18 #[.int .i64 x] w fun e w' => e = .returned (.int .u64 (costI x)) ∧ Below w.heap.size w w' := by
  by_cases h0 : x < 0
  · have hc : costI x = 0 := by unfold costI; rw [if_pos h0]
    rw [hc]
    clear hc
    go_enter Try.func18, Try.ntmps18
    go_wp2
    go_ret
    exact ⟨rfl, Below.refl _ _⟩
  · obtain ⟨n, rfl⟩ := Int.eq_ofNat_of_zero_le (by omega : 0 ≤ x)
    by_cases h1 : 128 < n
    · have hc : costI (n : Int) = 0 := by unfold costI; rw [if_neg h0]; unfold costN; rw [if_pos (by simpa using h1)]; rfl
      have hi : (128 : Int) < (n : Int) := by omega
      rw [hc]
      clear hc
      go_enter Try.func18, Try.ntmps18
      go_wp2
      go_ret
      exact ⟨rfl, Below.refl _ _⟩
    · have hn : n ≤ 128 := by omega
      have hnn : n * n ≤ 16384 := Nat.mul_le_mul (by omega : n ≤ 128) (by omega : n ≤ 128)
      have hc : costI (n : Int) = ((3 * n + n * n / 64 : Nat) : Int) := by unfold costI; rw [if_neg h0]; unfold costN; rw [if_neg (by simpa using h1)]; simp
      have hi : ¬ (128 : Int) < (n : Int) := by omega
      have e2 : IntKind.u64.wrap ((n : Int) * (n : Int)) = ((n * n : Nat) : Int) := by rw [← Int.natCast_mul]; exact IntWalk.u64_in _ ⟨by omega, by omega⟩
      have e3 : (n : Int) * 3 = 3 * (n : Int) := Int.mul_comm _ _
      rw [hc]
      clear hc h
      go_enter Try.func18, Try.ntmps18
      go_wp2
      go_ret
      exact ⟨rfl, Below.refl _ _⟩
end Go.Proofs.Ytakhaanenlblmaa
