/- The walk of the law NibHalves. -/
import Derived.Test.YtbnghkhipmhojaaNib4
namespace Go.Proofs.Ytbnghkhipmhojaa
open Go.RowKit
set_option maxHeartbeats 400000 in
set_option maxRecDepth 100000 in
theorem nibHalves_walk (a b : Option Addr) (c d : Nat) (l p : List UInt8) (w : World) (h : Bytes w (.slice a l.length c) l) (hp : Bytes w (.slice b p.length d) p) (hl : 2 * l.length ≤ 140737488355328) (hpl : p.length ≤ 140737488355328) :
    Calls Try.prog 7 #[.slice a l.length c, .slice b p.length d] w fun e w' => e = .returned (.bool true) ∧ Below w.heap.size w w' := by
  go_enter Try.func7, Try.ntmps7
  go_wp2_with (first
    | (go_at_call 29; refine (join_any b d p _ hp hpl).mono ?_; rintro e w1 ⟨v1, rfl, h1, b1⟩)
    | (go_at_call 30; refine (njoin_any b d p _ (hp.below b1) hpl).mono ?_; rintro e w2 ⟨v2, rfl, h2, b2⟩))
  have r1 := RowOf.kept h1.row b2
  have r2 := h2.row
  have b12 := Below.then b1 b2
  have hs1 : ∀ u : Ext w2, (convert 22 9 v1).run Try.prog u.val = .ok (str (joinR p)) u.val := fun u => run_str elU8.ht (by kernel_rfl) (by kernel_rfl) (u.row r1)
  have hs2 : ∀ u : Ext w2, (convert 22 9 v2).run Try.prog u.val = .ok (str (joinR p)) u.val := fun u => run_str elU8.ht (by kernel_rfl) (by kernel_rfl) (u.row r2)
  refine wp_region_typed w2 20 (by kernel_rfl) (by kernel_rfl) (Below.refl _ _) ?_; simp only [List.take_succ_cons, List.take_zero, List.take_nil]
  (refine wpX_step (by rfl) (fun K hK => ?_); go_simp; first | (refine hK _ ?_; clear hK K) | (apply Exists.intro; refine ⟨fun _ => ?_, hK _ ?_⟩; fail; clear hK K))
  refine wpX_rel 20 (fun v w1 => Bytes w1 v (halvesL l)) rfl (of_decide_eq_true rfl) (fun v w1 w2 h1 h2 => RowOf.kept h1 h2) (fun w1 hw1 => ?_) ?_
  · simp only [relOf, List.filter_nil, forallRel]
    refine ⟨rfl, ?_⟩
    go_simp
    refine (halves_any a c l _ (h.below (Below.then b12 hw1)) hl).mono ?_
    rintro e w2 ⟨v, rfl, hv, hb⟩
    exact ⟨v, rfl, hv.row, hb⟩
  refine wpX_eq (str (halvesL l)) (fun w1 hw1 => ?_) ?_
  · change forallRel w1 [(20, _)] _ _
    intro v33 h33
    have hc := run_str (P := Try.prog) (w := w1) (src := 22) (dst := 9) elU8.ht (by kernel_rfl) (by kernel_rfl) h33
    simp only [forallRel]
    refine ⟨rfl, ?_⟩
    go_simp
    exact Below.refl _ _
  (refine wpX_step (by rfl) (fun K hK => ?_); go_simp; first | (refine hK _ ?_; clear hK K) | (apply Exists.intro; refine ⟨fun _ => ?_, hK _ ?_⟩; fail; clear hK K))
  refine wpX_rel 23 (fun v w1 => Bytes w1 v (halvesL l)) rfl (of_decide_eq_true rfl) (fun v w1 w2 h1 h2 => RowOf.kept h1 h2) (fun w1 hw1 => ?_) ?_
  · change forallRel w1 [] _ _
    simp only [forallRel]
    refine ⟨rfl, ?_⟩
    go_simp
    refine (nhalves_any a c l _ (h.below (Below.then b12 hw1)) hl).mono ?_
    rintro e w2 ⟨v, rfl, hv, hb⟩
    exact ⟨v, rfl, hv.row, hb⟩
  refine wpX_eq (str (halvesL l)) (fun w1 hw1 => ?_) ?_
  · change forallRel w1 [(23, _)] _ _
    intro v33 h33
    have hc := run_str (P := Try.prog) (w := w1) (src := 22) (dst := 9) elU8.ht (by kernel_rfl) (by kernel_rfl) h33
    simp only [forallRel]
    refine ⟨rfl, ?_⟩
    go_simp
    exact Below.refl _ _
  iterate 14 (refine wpX_step (by rfl) (fun K hK => ?_); go_simp; first | (refine hK _ ?_; clear hK K) | (apply Exists.intro; refine ⟨fun _ => ?_, hK _ ?_⟩; fail; clear hK K))
  refine wpX_end rfl ?_
  rintro w3 hw3 v20 _ v23 _
  simp only [forallRel]
  go_wp2
  go_ret
  exact ⟨rfl, Below.then b12 hw3⟩
end Go.Proofs.Ytbnghkhipmhojaa
