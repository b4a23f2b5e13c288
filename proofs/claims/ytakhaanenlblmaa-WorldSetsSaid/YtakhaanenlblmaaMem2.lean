/- memory.Price. -/
import Derived.Test.YtakhaanenlblmaaMem1
set_option linter.unusedSimpArgs false
set_option linter.unusedVariables false
namespace Go.Proofs.Ytakhaanenlblmaa
open Go.RowKit
theorem costI_nat (n : Nat) : costI (n : Int) = (costN n : Int) := by unfold costI; rw [if_neg (by omega)]; simp
theorem costN_mono {a b : Nat} (h : a ≤ b) (hb : b ≤ 128) : costN a ≤ costN b := by
  unfold costN
  rw [if_neg (by omega), if_neg (by omega)]
  have : a * a ≤ b * b := Nat.mul_le_mul h h
  have := Nat.div_le_div_right (c := 64) this
  omega
def priceN (b s : Nat) : Nat := if s ≤ b then 0 else costN (s / 32) - costN (b / 32)
set_option maxHeartbeats 1000000 in
set_option maxRecDepth 100000 in
theorem price_any (g : Nat) (ba : Option Addr) (bn bc s : Nat) (hs : s ≤ 4096) (hb : bn ≤ 4096) (w : World) (hz : Blk 116 w g [.slice ba bn bc]) :
    Calls Try.prog 168 #[.pointer (some ⟨g, 0, none⟩), .int .i64 (s : Int)] w fun e w' => e = .returned (.int .u64 (priceN bn s : Int)) ∧ Below w.heap.size w w' := by
  have c0 : w.cell? ⟨g, 0, none⟩ = some (.slice ba bn bc) := hz.cell 0
  by_cases h : s ≤ bn
  · have hi : (s : Int) ≤ (bn : Int) := by omega
    have hp : priceN bn s = 0 := by unfold priceN; rw [if_pos h]
    rw [hp]
    clear hp hz
    go_enter Try.func168, Try.ntmps168
    go_wp2
    go_ret
    exact ⟨rfl, Below.refl _ _⟩
  · have hi : ¬ (s : Int) ≤ (bn : Int) := by omega
    obtain ⟨C1, hC1⟩ : ∃ C, C = costN (s / 32) := ⟨_, rfl⟩
    obtain ⟨C2, hC2⟩ : ∃ C, C = costN (bn / 32) := ⟨_, rfl⟩
    have hle : C2 ≤ C1 := by rw [hC1, hC2]; exact costN_mono (Nat.div_le_div_right (by omega)) (by omega)
    have hsm : C1 ≤ 640 := by rw [hC1]; exact costN_small _
    have hp : priceN bn s = C1 - C2 := by unfold priceN; rw [if_neg h, hC1, hC2]
    have hsub : IntKind.u64.wrap ((C1 : Int) - (C2 : Int)) = ((C1 - C2 : Nat) : Int) := by rw [IntWalk.u64_in _ ⟨by omega, by omega⟩]; omega
    obtain ⟨q1, hq1⟩ : ∃ q, q = s / 32 := ⟨_, rfl⟩
    obtain ⟨q2, hq2⟩ : ∃ q, q = bn / 32 := ⟨_, rfl⟩
    have m1 : ∀ u : World, Calls Try.prog 17 #[.int .i64 (q1 : Int)] u fun e w' => e = .returned (.int .u64 (C1 : Int)) ∧ Below u.heap.size u w' := fun u => by
      have := mcost_any (q1 : Int) (by simp only [Lit.wf, show IntKind.i64.min = -9223372036854775808 from rfl, show IntKind.i64.max = 9223372036854775807 from rfl, Bool.and_eq_true, decide_eq_true_eq]; omega) u
      rw [costI_nat, hq1, ← hC1, ← hq1] at this; exact this
    have m2 : ∀ u : World, Calls Try.prog 17 #[.int .i64 (q2 : Int)] u fun e w' => e = .returned (.int .u64 (C2 : Int)) ∧ Below u.heap.size u w' := fun u => by
      have := mcost_any (q2 : Int) (by simp only [Lit.wf, show IntKind.i64.min = -9223372036854775808 from rfl, show IntKind.i64.max = 9223372036854775807 from rfl, Bool.and_eq_true, decide_eq_true_eq]; omega) u
      rw [costI_nat, hq2, ← hC2, ← hq2] at this; exact this
    have d1 : IntKind.i64.wrap (q1 : Int) = (q1 : Int) := IntWalk.i64_in _ (by omega)
    have d2 : IntKind.i64.wrap (q2 : Int) = (q2 : Int) := IntWalk.i64_in _ (by omega)
    have e1 : (s : Int) / 32 = (q1 : Int) := by omega
    have e2 : (bn : Int) / 32 = (q2 : Int) := by omega
    rw [hp]
    have M1 := Lib.hid m1
    have M2 := Lib.hid m2
    clear hp hC1 hC2 m1 m2 hq1 hq2
    go_enter Try.func168, Try.ntmps168
    go_wp2_with fail
    have k0 := fun u : Ext w => u.cell c0
    refine wp_region_typed w 11 (by kernel_rfl) (by kernel_rfl) (Below.refl _ _) ?_; simp only [List.take_succ_cons, List.take_zero, List.take_nil]
    iterate 2 (refine wpX_step (by rfl) (fun K hK => ?_); go_simp; first | (refine hK _ ?_; clear hK K) | (apply Exists.intro; refine ⟨fun _ => ?_, hK _ ?_⟩; fail; clear hK K))
    (refine wpX_step (by rfl) (fun K hK => ?_); go_simp; first | (refine hK _ ?_; clear hK K) | (apply Exists.intro; refine ⟨fun _ => ?_, hK _ ?_⟩; exact M1.out _; clear hK K))
    iterate 6 (refine wpX_step (by rfl) (fun K hK => ?_); go_simp; first | (refine hK _ ?_; clear hK K) | (apply Exists.intro; refine ⟨fun _ => ?_, hK _ ?_⟩; fail; clear hK K))
    (refine wpX_step (by rfl) (fun K hK => ?_); go_simp; first | (refine hK _ ?_; clear hK K) | (apply Exists.intro; refine ⟨fun _ => ?_, hK _ ?_⟩; exact M2.out _; clear hK K))
    (refine wpX_step (by rfl) (fun K hK => ?_); go_simp; first | (refine hK _ ?_; clear hK K) | (apply Exists.intro; refine ⟨fun _ => ?_, hK _ ?_⟩; fail; clear hK K))
    refine wpX_nil ?_
    intro u2 hb2
    change wpList _ _ _ [_] _ _
    try simp only [Act.put, List.setIfInBounds_toArray, List.set_cons_zero, List.set_cons_succ]
    go_wp2_with fail
    go_ret
    exact ⟨by first | rfl | (rw [hsub]), hb2⟩
end Go.Proofs.Ytakhaanenlblmaa
