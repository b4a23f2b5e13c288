/- The reference's ICheck. -/
import Derived.Test.YtikndlkfmjhgdaaChk5
set_option linter.unusedSimpArgs false
set_option linter.unusedVariables false
namespace Go.Proofs.Ytikndlkfmjhgdaa
open Go.RowKit
set_option maxHeartbeats 2000000 in
set_option maxRecDepth 100000 in
theorem icheck_any (H : List UInt8) (hH : H.length = 32) (ka : Option Addr) (kn kc : Nat) (key : List UInt8) (hkn : key.length = kn) (ca : Option Addr) (cn cc : Nat) (ps : List (Value × List UInt8)) (hcn : ps.length = cn) (w : World)
    (hk : Bytes w (.slice ka kn kc) key) (hc : Texts w (.slice ca cn cc) ps) (hN : cn ≤ 1048576) (hNs : ∀ q ∈ ps, q.2.length ≤ 1048576) :
    Calls Try.prog 14 #[.agg (H.map u8v).toArray, .slice ka kn kc, .slice ca cn cc] w (ShwPost (chk H key (ps.map (·.2))) w) := by
  obtain ⟨C, hC⟩ : ∃ C, C = H.map u8v := ⟨_, rfl⟩
  have hCl : C.length = 32 := by rw [hC, List.length_map, hH]
  obtain ⟨w1, hw1⟩ : ∃ w1, w1 = w.alloc (.cells C.toArray 23) := ⟨_, rfl⟩
  have hz : Blk 23 w1 w.heap.size C := by rw [hw1]; exact Blk.new w _ _
  have hbel : Below w.heap.size w w1 := by rw [hw1]; exact (Below.refl _ _).alloc (Nat.le_refl _) _
  obtain ⟨R, hR⟩ : ∃ R, R = chk H key (ps.map (·.2)) := ⟨_, rfl⟩
  rw [← hR, ← hC]
  have Hw1 := Lib.hid hw1
  by_cases h32 : 32 < kn
  · have h32i : (32 : Int) < (kn : Int) := by omega
    have hR2 : R = ([], 3) := by rw [hR]; unfold chk; rw [if_pos (by omega)]
    subst hR2
    clear hw1 hR hC
    go_enter Try.func14, Try.ntmps14
    go_wp2_with fail
    rw [← Hw1.out]
    go_ret2
    exact ⟨none, 0, 0, rfl, hbel, RowOf.nil b8 1 _⟩
  · have h32i : (kn : Int) ≤ 32 := by omega
    have hR2 : R = shw H (halvesL key) true (ps.map (·.2)) := by rw [hR]; unfold chk; rw [if_neg (by omega)]
    have hk1 := hk.below hbel
    have hc1 := hc.below hbel
    have ch := fun u (hu : Bytes u (.slice ka kn kc) key) => nhalves_any ka kc key u (by rw [hkn]; exact hu) (by rw [hkn]; omega)
    rw [hkn] at ch
    have cs := fun u (hu : Texts u (.slice ca cn cc) ps) => show_any ps H (halvesL key) true ca cn cc u hH (halves_lt key) (by rw [halves_len]; omega) hcn hu hN hNs
    rw [← hR2] at cs
    simp only [← hC] at cs
    obtain ⟨P0, hP0⟩ : ∃ P, P = halvesL key := ⟨_, rfl⟩
    simp only [← hP0] at cs ch
    have Ch := Lib.hid ch
    have Cs := Lib.hid cs
    have Hz := Lib.hid hz
    have HCl := Lib.hid hCl
    clear hw1 hR hC ch cs hR2 hP0 hNs hCl hz hH hkn hcn hk hc
    go_enter Try.func14, Try.ntmps14
    go_wp2_with fail
    rw [← Hw1.out]
    refine wp_region_typed w1 8 (by kernel_rfl) (by kernel_rfl) (Below.refl _ _) ?_; simp only [List.take_succ_cons, List.take_zero, List.take_nil]
    (refine wpX_step (by rfl) (fun K hK => ?_); rw [if_pos (by rfl)]; refine ⟨_, fun u => const_loadm _ (.tmp 3) (by rfl) _ _ (by rfl) aggHash' HCl.out (rangeAt.ext (Blk.all0 Hz.out) u), hK _ ?_⟩; clear hK K; simp only [Act.put, List.setIfInBounds_toArray, List.set_cons_zero, List.set_cons_succ])
    (refine wpX_step (by rfl) (fun K hK => ?_); go_simp; first | (refine hK _ ?_; clear hK K) | (apply Exists.intro; refine ⟨fun _ => ?_, hK _ ?_⟩; fail; clear hK K))
    refine wpX_rel 13 (SlT P0) rfl (of_decide_eq_true rfl) (SlT.mono _) (fun w6 hw6 => ?_) ?_
    · simp only [relOf, List.filter_nil, forallRel]
      refine ⟨rfl, ?_⟩
      go_simp
      refine (Ch.out w6 (hk1.below hw6)).mono ?_
      rintro e w7 ⟨v, rfl, o7, b7⟩
      obtain ⟨a7, c7, rfl, _⟩ := o7.form
      exact ⟨_, rfl, ⟨a7, _, c7, rfl, o7.row⟩, b7⟩
    refine wpX_eq (.string ⟨P0.toArray⟩) (fun w6 hw6 => ?_) ?_
    · change forallRel w6 [(13, _)] _ _
      rintro v13 ⟨a, n, c, rfl, h7⟩
      have c1 := run_str (P := Try.prog) (src := 24) (dst := 9) elU8.ht (by kernel_rfl) (by kernel_rfl) h7
      simp only [forallRel]
      refine ⟨rfl, ?_⟩
      go_simp
      exact Below.refl _ _
    (refine wpX_step (by rfl) (fun K hK => ?_); go_simp; first | (refine hK _ ?_; clear hK K) | (apply Exists.intro; refine ⟨fun _ => ?_, hK _ ?_⟩; fail; clear hK K))
    refine wpX_rel 16 (TupS R) rfl (of_decide_eq_true rfl) (TupS.mono _) (fun w6 hw6 => ?_) ?_
    · change forallRel w6 [] _ _
      simp only [forallRel]
      refine ⟨rfl, ?_⟩
      go_simp
      refine (Cs.out w6 (hc1.below hw6)).mono ?_
      rintro e w7 ⟨a, n, c, rfl, b7, h7⟩
      exact ⟨_, rfl, ⟨a, n, c, rfl, h7⟩, b7⟩
    refine wpX_rel 17 (SlT R.1) rfl (of_decide_eq_true rfl) (SlT.mono _) (fun w6 hw6 => ?_) ?_
    · change forallRel w6 [(16, _)] _ _
      rintro v73 ⟨a, n, c, rfl, h7⟩
      simp only [forallRel]
      refine ⟨rfl, ?_⟩
      go_simp
      exact ⟨Below.refl _ _, a, n, c, rfl, h7⟩
    refine wpX_eq (.int .i64 R.2) (fun w6 hw6 => ?_) ?_
    · change forallRel w6 [(16, _)] _ _
      rintro v73 ⟨a, n, c, rfl, h7⟩
      simp only [forallRel]
      refine ⟨rfl, ?_⟩
      go_simp
      exact Below.refl _ _
    refine wpX_nil ?_
    intro u6 hb6 v13 _ v73 _ v74 h74
    change wpList _ _ _ [_, _] _ _
    obtain ⟨a, n, c, rfl, h7⟩ := h74
    go_wp2_with fail
    go_ret2
    exact ⟨a, n, c, rfl, Below.then hbel hb6, h7⟩
end Go.Proofs.Ytikndlkfmjhgdaa
