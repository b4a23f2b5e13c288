/- The walk of the law PackEncodes. -/
import Derived.Test.YtfedjbodcebdnaaEnc6
set_option linter.unusedSimpArgs false
set_option linter.unusedVariables false
namespace Go.Proofs.Ytfedjbodcebdnaa
open Go.RowKit
def BytesT (l : List UInt8) : Ty := fun v w => Bytes w v l
theorem BytesT.mono (l : List UInt8) : Mono (BytesT l) := fun _ _ _ h hb => RowOf.kept h hb
set_option maxHeartbeats 1000000 in
set_option maxRecDepth 100000 in
theorem packEncodes_walk (x : Itm) (w : World) (h : IsItm w x) (hN : bulkI x ≤ 1048576) :
    Calls Try.prog 4 #[.agg (icells x).toArray] w fun e w' => e = .returned (.bool true) ∧ Below w.heap.size w w' := by
  have c1 : ∀ w', Below w.heap.size w w' → Calls Try.prog 18 #[.agg (icells x).toArray] w' (EncPost x w') := fun w' hb => encode_any (bulkI x) x w' (Nat.le_refl _) (by omega) (h.kept hb)
  have c2 : ∀ w', Below w.heap.size w w' → Calls Try.prog 19 #[.agg (icells x).toArray] w' (PEncPost x w') := fun w' hb => pencode_any (bulkI x) x w' (Nat.le_refl _) (by omega) (h.kept hb)
  unfold EncPost at c1
  unfold PEncPost at c2
  obtain ⟨L, hL⟩ : ∃ L, L = encI x := ⟨_, rfl⟩
  simp only [← hL] at c1 c2
  obtain ⟨l, tv, t, kv, ks⟩ := x
  obtain ⟨ta, tc, rfl, _, _⟩ := h.inv.1.form
  obtain ⟨ka, kc, rfl, _, _⟩ := h.inv.2.1.form
  obtain ⟨tn, htn⟩ : ∃ tn, tn = t.length := ⟨_, rfl⟩
  obtain ⟨kn, hkn⟩ : ∃ kn, kn = ks.length := ⟨_, rfl⟩
  rw [← htn, ← hkn] at c1 c2
  change ∀ w', Below w.heap.size w w' → Calls Try.prog 18 #[.agg #[.bool l, .slice ta tn tc, .slice ka kn kc]] w' _ at c1
  change ∀ w', Below w.heap.size w w' → Calls Try.prog 19 #[.agg #[.bool l, .slice ta tn tc, .slice ka kn kc]] w' _ at c2
  change Calls Try.prog 4 #[.agg #[.bool l, .slice ta t.length tc, .slice ka ks.length kc]] w _
  rw [← htn, ← hkn]
  obtain ⟨w1, hw1⟩ : ∃ w1, w1 = w.alloc (.cells #[.bool l, .slice ta tn tc, .slice ka kn kc] 37) := ⟨_, rfl⟩
  have hbel1 : Below w.heap.size w w1 := by rw [hw1]; exact (Below.refl _ _).alloc (Nat.le_refl _) _
  have hB1 : Blk 37 w1 w.heap.size [.bool l, .slice ta tn tc, .slice ka kn kc] := by rw [hw1]; exact Blk.new w _ _
  have k0 := fun u : Ext w1 => u.cell ((hB1.cell 0).trans (show _ = some (Value.bool l) from rfl))
  have k1 := fun u : Ext w1 => u.cell ((hB1.cell 1).trans (show _ = some (Value.slice ta tn tc) from rfl))
  have k2 := fun u : Ext w1 => u.cell ((hB1.cell 2).trans (show _ = some (Value.slice ka kn kc) from rfl))
  have Hw1 := Lib.hid hw1
  have C1 := Lib.hid c1
  have C2 := Lib.hid c2
  clear hw1 c1 c2 hL htn hkn h hN hB1
  go_enter Try.func4, Try.ntmps4
  go_wp2_with fail
  rw [← Hw1.out]
  refine wp_region_typed w1 7 (by kernel_rfl) (by kernel_rfl) (Below.refl _ _) ?_; simp only [List.take_succ_cons, List.take_zero, List.take_nil]
  (refine wpX_step (by rfl) (fun K hK => ?_); go_simp; first | (refine hK _ ?_; clear hK K) | (apply Exists.intro; refine ⟨fun _ => ?_, hK _ ?_⟩; fail; clear hK K))
  refine wpX_rel 4 (BytesT L) rfl (of_decide_eq_true rfl) (BytesT.mono L) (fun w2 hw2 => ?_) ?_
  · simp only [relOf, List.filter_nil, forallRel]
    refine ⟨rfl, ?_⟩
    go_simp
    refine (C1.out w2 (Below.then hbel1 hw2)).mono ?_
    rintro e w3 ⟨v, rfl, o3, b3⟩
    exact ⟨v, rfl, o3.row, b3⟩
  refine wpX_eq (str L) (fun w2 hw2 => ?_) ?_
  · change forallRel w2 [(4, _)] _ _
    intro v33 h33
    have hc := run_str (P := Try.prog) (w := w2) (src := 34) (dst := 9) elU8.ht (by kernel_rfl) (by kernel_rfl) h33
    simp only [forallRel]
    refine ⟨rfl, ?_⟩
    go_simp
    exact Below.refl _ _
  (refine wpX_step (by rfl) (fun K hK => ?_); go_simp; first | (refine hK _ ?_; clear hK K) | (apply Exists.intro; refine ⟨fun _ => ?_, hK _ ?_⟩; fail; clear hK K))
  refine wpX_rel 7 (BytesT L) rfl (of_decide_eq_true rfl) (BytesT.mono L) (fun w2 hw2 => ?_) ?_
  · simp only [relOf, List.filter_nil, forallRel]
    refine ⟨rfl, ?_⟩
    go_simp
    refine (C2.out w2 (Below.then hbel1 hw2)).mono ?_
    rintro e w3 ⟨v, rfl, o3, b3⟩
    exact ⟨v, rfl, o3, b3⟩
  refine wpX_eq (str L) (fun w2 hw2 => ?_) ?_
  · change forallRel w2 [(7, _)] _ _
    intro v33 h33
    have hc := run_str (P := Try.prog) (w := w2) (src := 34) (dst := 9) elU8.ht (by kernel_rfl) (by kernel_rfl) h33
    simp only [forallRel]
    refine ⟨rfl, ?_⟩
    go_simp
    exact Below.refl _ _
  (refine wpX_step (by rfl) (fun K hK => ?_); go_simp; first | (refine hK _ ?_; clear hK K) | (apply Exists.intro; refine ⟨fun _ => ?_, hK _ ?_⟩; fail; clear hK K))
  refine wpX_nil ?_
  intro u2 hb2 v7 _ v4 _
  change wpList _ _ _ [_] _ _
  have hbel2 := Below.then hbel1 hb2
  clear k0 k1 k2
  go_wp2
  go_ret
  exact ⟨rfl, hbel2⟩
end Go.Proofs.Ytfedjbodcebdnaa
