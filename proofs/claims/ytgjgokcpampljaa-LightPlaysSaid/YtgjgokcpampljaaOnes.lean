/- bits.OnesCount64 of small numbers: how many bits are set. -/
import Derived.Test.YtgjgokcpampljaaTabs
import Derived.Deep.Onto
import Derived.OpenShut
set_option linter.unusedSimpArgs false
set_option linter.unusedVariables false
namespace Go.Proofs.Ytgjgokcpampljaa
open Go.RowKit
/-- f of a number, once it is reckoned -/
def force {α : Type} (n : Nat) (f : Nat → α) : α := Nat.rec (f 0) (fun m _ => f (Nat.succ m)) n
theorem force_eq {α : Type} (n : Nat) (f : Nat → α) : force n f = f n := by cases n <;> rfl
def ocF (x : Nat) : Nat :=
  force (Nat.add (Nat.land (Nat.div x 2) 6148914691236517205) (Nat.land x 6148914691236517205)) fun y =>
  force (Nat.add (Nat.land (Nat.div y 4) 3689348814741910323) (Nat.land y 3689348814741910323)) fun z =>
  force (Nat.land (Nat.add (Nat.div z 16) z) 1085102592571150095) fun v =>
  force (Nat.add v (Nat.div v 256)) fun v4 =>
  force (Nat.add v4 (Nat.div v4 65536)) fun v5 => (Nat.land (Nat.add v5 (Nat.div v5 4294967296)) 127)
def cnt16 (x : Nat) : Nat := (Nat.add (Nat.add (Nat.add (Nat.add (Nat.add (Nat.add (Nat.add (Nat.add (Nat.add (Nat.add (Nat.add (Nat.add (Nat.add (Nat.add (Nat.add (Nat.mod (Nat.div x 1) 2) (Nat.mod (Nat.div x 2) 2)) (Nat.mod (Nat.div x 4) 2)) (Nat.mod (Nat.div x 8) 2)) (Nat.mod (Nat.div x 16) 2)) (Nat.mod (Nat.div x 32) 2)) (Nat.mod (Nat.div x 64) 2)) (Nat.mod (Nat.div x 128) 2)) (Nat.mod (Nat.div x 256) 2)) (Nat.mod (Nat.div x 512) 2)) (Nat.mod (Nat.div x 1024) 2)) (Nat.mod (Nat.div x 2048) 2)) (Nat.mod (Nat.div x 4096) 2)) (Nat.mod (Nat.div x 8192) 2)) (Nat.mod (Nat.div x 16384) 2)) (Nat.mod (Nat.div x 32768) 2))
set_option maxRecDepth 1000000 in
theorem ocF_all : (List.range 256).all (fun a => (List.range 256).all (fun b => force (Nat.add (Nat.mul 256 a) b) fun x => Nat.beq (ocF x) (cnt16 x))) = true := by decide +kernel
/-- how many of the first k bits are set -/
def pop : Nat → Nat → Nat
  | 0, _ => 0
  | k + 1, x => pop k x + x / 2 ^ k % 2
theorem cnt16_pop (x : Nat) : cnt16 x = pop 16 x := by
  simp only [pop, Nat.zero_add, Nat.pow_zero, Nat.div_one]
  have : cnt16 x = x / 1 % 2 + x / 2 % 2 + x / 4 % 2 + x / 8 % 2 + x / 16 % 2 + x / 32 % 2 + x / 64 % 2 + x / 128 % 2 + x / 256 % 2 + x / 512 % 2 + x / 1024 % 2 + x / 2048 % 2 + x / 4096 % 2 + x / 8192 % 2 + x / 16384 % 2 + x / 32768 % 2 := rfl
  rw [this, Nat.div_one]
theorem pop_le : ∀ (k x : Nat), pop k x ≤ k
  | 0, _ => by simp [pop]
  | k + 1, x => by have := pop_le k x; simp only [pop]; omega
theorem ocF_pop (x : Nat) (h : x < 65536) : ocF x = pop 16 x := by
  have h1 := List.all_eq_true.1 ocF_all (x / 256) (List.mem_range.2 (by omega))
  have h2 := List.all_eq_true.1 h1 (x % 256) (List.mem_range.2 (by omega))
  rw [force_eq] at h2
  have h3 : Nat.add (Nat.mul 256 (x / 256)) (x % 256) = x := by show 256 * (x / 256) + x % 256 = x; omega
  rw [h3] at h2
  rw [← cnt16_pop]
  exact Nat.eq_of_beq_eq_true h2
theorem and_i64 (a b : Nat) (ha : a < 9223372036854775808) (hb : b < 9223372036854775808) : bits .and .i64 (a : Int) (b : Int) = ((a &&& b : Nat) : Int) := by
  have hx : a &&& b ≤ a := Nat.and_le_left
  have h1 : (BitVec.ofInt 64 (a : Int)).toNat = a := by
    rw [BitVec.ofInt_natCast, BitVec.toNat_ofNat]; exact Nat.mod_eq_of_lt (by omega)
  have h2 : (BitVec.ofInt 64 (b : Int)).toNat = b := by
    rw [BitVec.ofInt_natCast, BitVec.toNat_ofNat]; exact Nat.mod_eq_of_lt (by omega)
  show IntKind.i64.wrap ((BitVec.ofInt 64 (a : Int) &&& BitVec.ofInt 64 (b : Int)).toNat : Int) = _
  rw [BitVec.toNat_and, h1, h2]
  exact IntWalk.i64_in _ (by omega)
set_option maxHeartbeats 400000 in
set_option maxRecDepth 100000 in
theorem ones_any (x : Nat) (h : x < 65536) (w : World) : Calls Try.prog 156 #[.int .u64 (x : Int)] w fun e w' => e = .returned (.int .i64 (pop 16 x : Int)) ∧ w = w' := by
  obtain ⟨p1, hp1⟩ : ∃ p1, p1 = (x / 2) &&& 6148914691236517205 := ⟨_, rfl⟩
  obtain ⟨p2, hp2⟩ : ∃ p2, p2 = x &&& 6148914691236517205 := ⟨_, rfl⟩
  have l1 : p1 ≤ x / 2 := by rw [hp1]; exact Nat.and_le_left
  have l2 : p2 ≤ x := by rw [hp2]; exact Nat.and_le_left
  have a1 : bits .and .u64 ((x : Int) / 2) 6148914691236517205 = (p1 : Int) := by rw [hp1]; exact bits_and_u64_nat (x / 2) 6148914691236517205 (by omega) (by omega)
  have a2 : bits .and .u64 (x : Int) 6148914691236517205 = (p2 : Int) := by rw [hp2]; exact bits_and_u64_nat x 6148914691236517205 (by omega) (by omega)
  obtain ⟨y, hy⟩ : ∃ y, y = p1 + p2 := ⟨_, rfl⟩
  have a3 : IntKind.u64.wrap ((p1 : Int) + (p2 : Int)) = (y : Int) := by rw [IntWalk.u64_in _ (by omega)]; omega
  obtain ⟨q1, hq1⟩ : ∃ q1, q1 = (y / 4) &&& 3689348814741910323 := ⟨_, rfl⟩
  obtain ⟨q2, hq2⟩ : ∃ q2, q2 = y &&& 3689348814741910323 := ⟨_, rfl⟩
  have m1 : q1 ≤ y / 4 := by rw [hq1]; exact Nat.and_le_left
  have m2 : q2 ≤ y := by rw [hq2]; exact Nat.and_le_left
  have b1 : bits .and .u64 ((y : Int) / 4) 3689348814741910323 = (q1 : Int) := by rw [hq1]; exact bits_and_u64_nat (y / 4) 3689348814741910323 (by omega) (by omega)
  have b2 : bits .and .u64 (y : Int) 3689348814741910323 = (q2 : Int) := by rw [hq2]; exact bits_and_u64_nat y 3689348814741910323 (by omega) (by omega)
  obtain ⟨z, hz⟩ : ∃ z, z = q1 + q2 := ⟨_, rfl⟩
  have b3 : IntKind.u64.wrap ((q1 : Int) + (q2 : Int)) = (z : Int) := by rw [IntWalk.u64_in _ (by omega)]; omega
  obtain ⟨z', hz'⟩ : ∃ z', z' = z / 16 + z := ⟨_, rfl⟩
  have d1 : IntKind.u64.wrap ((z : Int) / 16 + (z : Int)) = (z' : Int) := by rw [IntWalk.u64_in _ (by omega)]; omega
  obtain ⟨v, hv⟩ : ∃ v, v = z' &&& 1085102592571150095 := ⟨_, rfl⟩
  have n1 : v ≤ z' := by rw [hv]; exact Nat.and_le_left
  have d2 : bits .and .u64 (z' : Int) 1085102592571150095 = (v : Int) := by rw [hv]; exact bits_and_u64_nat z' 1085102592571150095 (by omega) (by omega)
  obtain ⟨v4, hv4⟩ : ∃ v4, v4 = v + v / 256 := ⟨_, rfl⟩
  have f1 : IntKind.u64.wrap ((v : Int) + (v : Int) / 256) = (v4 : Int) := by rw [IntWalk.u64_in _ (by omega)]; omega
  obtain ⟨v5, hv5⟩ : ∃ v5, v5 = v4 + v4 / 65536 := ⟨_, rfl⟩
  have f2 : IntKind.u64.wrap ((v4 : Int) + (v4 : Int) / 65536) = (v5 : Int) := by rw [IntWalk.u64_in _ (by omega)]; omega
  obtain ⟨v6, hv6⟩ : ∃ v6, v6 = v5 + v5 / 4294967296 := ⟨_, rfl⟩
  have f3 : IntKind.u64.wrap ((v5 : Int) + (v5 : Int) / 4294967296) = (v6 : Int) := by rw [IntWalk.u64_in _ (by omega)]; omega
  have g1 : IntKind.i64.wrap (v6 : Int) = (v6 : Int) := IntWalk.i64_in _ (by omega)
  have hres : pop 16 x = v6 &&& 127 := by
    rw [← ocF_pop x h, ocF]
    simp only [force_eq]
    rw [hv6, hv5, hv4, hv, hz', hz, hq1, hq2, hy, hp1, hp2]
    rfl
  have g2 : bits .and .i64 (v6 : Int) 127 = ((v6 &&& 127 : Nat) : Int) := and_i64 v6 127 (by omega) (by omega)
  rw [hres]
  obtain ⟨R, hR⟩ : ∃ R, R = v6 &&& 127 := ⟨_, rfl⟩
  rw [← hR] at g2
  rw [← hR]
  clear hR hres l1 l2 m1 m2 n1 hp1 hp2 hq1 hq2 hy hz hz' hv hv4 hv5 hv6
  go_enter Try.func156, Try.ntmps156
  go_wp2
  go_ret
  exact ⟨rfl, rfl⟩
end Go.Proofs.Ytgjgokcpampljaa
