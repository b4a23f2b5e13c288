/- slices.Equal at lists of sums: the same list twice. -/
import Derived.Test.YtfedjbodcebdnaaSeach2
import Derived.Test.YtfedjbodcebdnaaSpongeSumsW
import Derived.Test.YtfedjbodcebdnaaAppT
set_option linter.unusedSimpArgs false
set_option linter.unusedVariables false
namespace Go.Proofs.Ytfedjbodcebdnaa
open Go.RowKit
theorem run_ne_agg (l : List UInt8) (hl : l.length = 32) (w1 : World) : (binOp .neq 28 (.agg (l.map u8v).toArray) (.agg (l.map u8v).toArray)).run Try.prog w1 = .ok (.bool false) w1 := by
  have h2 : (l.map fun x => (x.toNat : Int)).map (Value.int .u8) = l.map u8v := by rw [List.map_map]; rfl
  have := run_neA (P := Try.prog) w1 Try.underlying28 Try.underlying5 (by kernel_rfl) (l.map fun x => (x.toNat : Int)) (l.map fun x => (x.toNat : Int)) (by rw [List.length_map, hl]) (by rw [List.length_map, hl])
  rw [h2, beq_self_eq_true] at this
  exact this
theorem guard_ne (l : List UInt8) (o1 o2 : Operand) (w1 : World) : (eqGuard .neq 28 o1 o2 (.agg (l.map u8v).toArray) (.agg (l.map u8v).toArray)).run Try.prog w1 = .ok () w1 := by
  exact run_eqGuard_agg (P := Try.prog) (w := w1) .neq 28 o1 o2 _ _ (by kernel_rfl)
set_option maxHeartbeats 1000000 in
set_option maxRecDepth 100000 in
theorem equalH_any (a b : Option Addr) (n c d : Nat) (ls : List (List UInt8)) (hn : ls.length = n) (w : World) (h1 : RowOf scs 32 w (.slice a n c) ls) (h2 : RowOf scs 32 w (.slice b n d) ls) :
    Calls Try.prog 28 #[.slice a n c, .slice b n d] w fun e w' => e = .returned (.bool true) ∧ Below w.heap.size w w' := by
  have Hn := Lib.hid hn
  have hsm := h1.small
  unfold maxLen at hsm
  rw [hn] at hsm
  clear hn
  go_enter Try.func28, Try.ntmps28
  go_wp2
  go_loopw [13] (fun ix wr => ∃ k : Nat, k ≤ n ∧ ix = .int .i64 (k : Int) ∧ Below w.heap.size w wr) (fun ix _ => n - (intOf ix).toNat)
  case atStart => exact ⟨0, by omega, rfl, Below.refl _ _⟩
  case round =>
    obtain ⟨k, hk, rfl, hbel⟩ := hrel
    by_cases hlt : k < n
    · have hki : (k : Int) < (n : Int) := by omega
      have h32 : (scs (ls[k]'(by rw [Hn.out]; exact hlt))).length = 32 := scs_len _
      have g1 := guard_ne (sumB (ls[k]'(by rw [Hn.out]; exact hlt)))
      have q1 := run_ne_agg (sumB (ls[k]'(by rw [Hn.out]; exact hlt))) (by unfold sumB; rw [outB_len])
      obtain ⟨b1, o1, rfl, hr1⟩ := RowOf.range scs_len (h1.below hbel) k (by rw [Hn.out]; exact hlt)
      obtain ⟨b2, o2, rfl, hr2⟩ := RowOf.range scs_len (h2.below hbel) k (by rw [Hn.out]; exact hlt)
      have e1 : (sumB (ls[k]'(by rw [Hn.out]; exact hlt))).map u8v = scs (ls[k]'(by rw [Hn.out]; exact hlt)) := rfl
      rw [e1] at g1 q1
      clear e1
      generalize scs (ls[k]'(by rw [Hn.out]; exact hlt)) = C at *
      have G1 := Lib.hid g1
      have Q1 := Lib.hid q1
      have R1 := Lib.hid hr1
      have R2 := Lib.hid hr2
      clear g1 q1 hr1 hr2
      go_wp2
      refine wp_region_typed wr 8 (by kernel_rfl) (by kernel_rfl) (Below.refl _ _) ?_; simp only [List.take_succ_cons, List.take_zero, List.take_nil]
      iterate 3 (refine wpX_step (by rfl) (fun K hK => ?_); go_simp; first | (refine hK _ ?_; clear hK K) | (apply Exists.intro; refine ⟨fun _ => ?_, hK _ ?_⟩; fail; clear hK K))
      (refine wpX_step (by rfl) (fun K hK => ?_); rw [if_pos (by rfl)]; refine ⟨_, fun u => const_loadm _ (.tmp 18) (by rfl) _ _ (by rfl) aggHash' h32 (rangeAt.ext R1.out u), hK _ ?_⟩; clear hK K; simp only [Act.put, List.setIfInBounds_toArray, List.set_cons_zero, List.set_cons_succ])
      iterate 3 (refine wpX_step (by rfl) (fun K hK => ?_); go_simp; first | (refine hK _ ?_; clear hK K) | (apply Exists.intro; refine ⟨fun _ => ?_, hK _ ?_⟩; fail; clear hK K))
      (refine wpX_step (by rfl) (fun K hK => ?_); rw [if_pos (by rfl)]; refine ⟨_, fun u => const_loadm _ (.tmp 22) (by rfl) _ _ (by rfl) aggHash' h32 (rangeAt.ext R2.out u), hK _ ?_⟩; clear hK K; simp only [Act.put, List.setIfInBounds_toArray, List.set_cons_zero, List.set_cons_succ])
      refine wpX_nil ?_
      intro u2 hb2
      have hbel2 := Below.then hbel hb2
      change wpList _ _ _ [_] _ _
      have g1 := G1.out
      have q1 := Q1.out
      go_wp2
      go_roundw
      case rel => exact ⟨k + 1, by omega, by go_num, hbel2⟩
      case measure => simp [intOf]; omega
    · obtain rfl : k = n := by omega
      go_wp2
      go_ret
      exact ⟨rfl, hbel⟩
end Go.Proofs.Ytfedjbodcebdnaa
