/- The reference's sameSeats of like ones. -/
import Derived.Test.YtgjgokcpampljaaSeatA
set_option linter.unusedSimpArgs false
set_option linter.unusedVariables false
namespace Go.Proofs.Ytgjgokcpampljaa
open Go.RowKit
set_option maxHeartbeats 1000000 in
set_option maxRecDepth 100000 in
theorem sames_any (a b : Option Addr) (n c d : Nat) (l : List Nat) (hn : l.length = n) (w : World) (h1 : RowOf u64c 1 w (.slice a n c) l) (h2 : RowOf u64c 1 w (.slice b n d) l) :
    Calls Try.prog 84 #[.slice a n c, .slice b n d] w fun e w' => e = .returned (.bool true) ∧ Below w.heap.size w w' := by
  have Hn := Lib.hid hn
  have hsm := h1.small
  unfold maxLen at hsm
  rw [hn] at hsm
  clear hn
  go_enter Try.func84, Try.ntmps84
  go_wp2_with fail
  go_loopw [13] (fun ix wr => ∃ k : Nat, k ≤ n ∧ ix = .int .i64 (k : Int) ∧ Below w.heap.size w wr) (fun ix _ => n - (intOf ix).toNat)
  case atStart => exact ⟨0, by omega, rfl, Below.refl _ _⟩
  case round =>
    obtain ⟨k, hk, rfl, hbel⟩ := hrel
    by_cases hlt : k < n
    · have hki : (k : Int) < (n : Int) := by omega
      obtain ⟨b1, o1, rfl, hc1⟩ := u64_at (h1.below hbel) k (by rw [Hn.out]; exact hlt)
      obtain ⟨b2, o2, rfl, hc2⟩ := u64_at (h2.below hbel) k (by rw [Hn.out]; exact hlt)
      generalize gv l k = x at *
      have k1 := fun u : Ext wr => u.cell hc1
      have k2 := fun u : Ext wr => u.cell hc2
      have hxx : ((x : Int) != (x : Int)) = false := by simp
      clear hc1 hc2
      go_wp2_with fail
      refine wp_region_typed wr 9 (by kernel_rfl) (by kernel_rfl) (Below.refl _ _) ?_; simp only [List.take_succ_cons, List.take_zero, List.take_nil]
      iterate 9 (refine wpX_step (by rfl) (fun K hK => ?_); go_simp; first | (refine hK _ ?_; clear hK K) | (apply Exists.intro; refine ⟨fun _ => ?_, hK _ ?_⟩; fail; clear hK K))
      refine wpX_nil ?_
      intro u2 hb2
      have hbel2 := Below.then hbel hb2
      change forallRel u2 [] _ _
      simp only [forallRel, List.drop_succ_cons, List.drop_zero, List.drop_nil]
      clear k1 k2
      go_wp2_with fail
      go_roundw
      case rel => exact ⟨k + 1, by omega, by go_num, hbel2⟩
      case measure => simp [intOf]; omega
    · obtain rfl : k = n := by omega
      go_wp2_with fail
      go_ret
      exact ⟨rfl, hbel⟩
end Go.Proofs.Ytgjgokcpampljaa
