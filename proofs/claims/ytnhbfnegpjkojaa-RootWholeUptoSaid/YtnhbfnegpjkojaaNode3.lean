/- tree.right, tree.rightFork, tree.Right. -/
import Derived.Test.YtnhbfnegpjkojaaNode2
set_option linter.unusedSimpArgs false
set_option linter.unusedVariables false
namespace Go.Proofs.Ytnhbfnegpjkojaa
open Go.RowKit
def RgtC (n : Nat) (k : Nd) : Prop := ∀ (d : Nat) (u : World), IsNd u k → d + bulkN k ≤ n → Calls Try.prog 114 #[.agg (ndcells k).toArray, .int .i64 (d : Int)] u fun e w' => e = .returned (.bool (rgt d k)) ∧ Below u.heap.size u w'
section
variable (N : Nat) (hN : N ≤ 1000000000) (pa va ka : Option Addr) (pn pc vn vc kn kc : Nat) (p v : List UInt8) (ks : List Nd) (hpn : p.length = pn) (hvn : v.length = vn) (hkn : ks.length = kn) (d : Nat) (w : World)
  (hp : Bytes w (.slice pa pn pc) p) (hv : Bytes w (.slice va vn vc) v) (hk : RowOf ndcells 4 w (.slice ka kn kc) ks) (hks : ∀ k ∈ ks, IsNd w k)
include hN hpn hvn hp in
set_option maxHeartbeats 1000000 in
set_option maxRecDepth 100000 in
theorem right_leaf (hd : d + pn ≤ N) : Calls Try.prog 114 #[.agg #[.int .i64 1, .slice pa pn pc, .slice va vn vc, .slice ka kn kc], .int .i64 (d : Int)] w fun e w' => e = .returned (.bool (rgt d (.mk 1 (.slice pa pn pc) p (.slice va vn vc) v (.slice ka kn kc) ks))) ∧ Below w.heap.size w w' := by
  have hR : rgt d (.mk 1 (.slice pa pn pc) p (.slice va vn vc) v (.slice ka kn kc) ks) = (half p && endsP (d + pn) && decide (0 < vn) && decide (vn ≤ 1024)) := by unfold rgt; rw [hpn, hvn]; rfl
  rw [hR]
  obtain ⟨w1, hw1⟩ : ∃ w1, w1 = w.alloc (.cells #[.int .i64 1, .slice pa pn pc, .slice va vn vc, .slice ka kn kc] 25) := ⟨_, rfl⟩
  have hz : Blk 25 w1 w.heap.size [.int .i64 1, .slice pa pn pc, .slice va vn vc, .slice ka kn kc] := by rw [hw1]; exact Blk.new w _ _
  have hbel : Below w.heap.size w w1 := by rw [hw1]; exact (Below.refl _ _).alloc (Nat.le_refl _) _
  have k0 := (hz.cell 0).trans (show _ = some (Value.int .i64 1) from rfl)
  have hwr : IntKind.i64.wrap ((d : Int) + (pn : Int)) = (d : Int) + (pn : Int) := IntWalk.i64_in _ (by omega)
  have Hw1 := Lib.hid hw1
  have C1 := Lib.hid (fun u (hu : Below w.heap.size w u) => tree_halves_any pa pn pc p hpn u (hp.below hu))
  have c2 := fun u => ends_any (d + pn) u
  simp only [Int.natCast_add] at c2
  have C2 := Lib.hid c2
  clear c2
  have k1 := (hz.cell 1).trans (show _ = some (Value.slice pa pn pc) from rfl)
  clear hw1 hR
  cases hh : half p with
  | false =>
    rw [hh] at C1
    simp only [Bool.false_and]
    go_enter Try.func114, Try.ntmps114
    go_wp2_with (first
          | (go_at_call 160; (with_reducible refine (C1.out _ (by rw [← Hw1.out]; exact hbel)).mono ?_); rintro e w2 ⟨rfl, b2⟩; rw [← Hw1.out] at b2; have bb2 := Below.then hbel b2; have z2 := hz.kept b2; have k1 := (z2.cell 1).trans (show _ = some (Value.slice pa pn pc) from rfl); have k2 := (z2.cell 2).trans (show _ = some (Value.slice va vn vc) from rfl))
          | (go_at_call 161; (with_reducible refine (C2.out _).mono ?_); rintro e w3 ⟨rfl, b3⟩; have bb3 := Below.then bb2 b3; have z3 := z2.kept b3; have k3 := (z3.cell 2).trans (show _ = some (Value.slice va vn vc) from rfl)))
    go_ret
    exact ⟨rfl, bb2⟩
  | true =>
    rw [hh] at C1
    cases he : endsP (d + pn) with
    | false =>
      rw [he] at C2
      simp only [Bool.false_and, Bool.and_false]
      go_enter Try.func114, Try.ntmps114
      go_wp2_with (first
          | (go_at_call 160; (with_reducible refine (C1.out _ (by rw [← Hw1.out]; exact hbel)).mono ?_); rintro e w2 ⟨rfl, b2⟩; rw [← Hw1.out] at b2; have bb2 := Below.then hbel b2; have z2 := hz.kept b2; have k1 := (z2.cell 1).trans (show _ = some (Value.slice pa pn pc) from rfl); have k2 := (z2.cell 2).trans (show _ = some (Value.slice va vn vc) from rfl))
          | (go_at_call 161; (with_reducible refine (C2.out _).mono ?_); rintro e w3 ⟨rfl, b3⟩; have bb3 := Below.then bb2 b3; have z3 := z2.kept b3; have k3 := (z3.cell 2).trans (show _ = some (Value.slice va vn vc) from rfl)))
      go_ret
      exact ⟨rfl, bb3⟩
    | true =>
      rw [he] at C2
      simp only [Bool.true_and]
      by_cases h1 : 0 < vn
      · have h1i : (0 : Int) < (vn : Int) := by omega
        have h2i : decide ((vn : Int) ≤ 1024) = decide (vn ≤ 1024) := by congr 1; rw [eq_iff_iff]; omega
        rw [decide_eq_true h1, Bool.true_and]
        obtain ⟨b, hb⟩ : ∃ b, b = decide (vn ≤ 1024) := ⟨_, rfl⟩
        rw [← hb] at h2i ⊢
        clear hb
        go_enter Try.func114, Try.ntmps114
        go_wp2_with (first
          | (go_at_call 160; (with_reducible refine (C1.out _ (by rw [← Hw1.out]; exact hbel)).mono ?_); rintro e w2 ⟨rfl, b2⟩; rw [← Hw1.out] at b2; have bb2 := Below.then hbel b2; have z2 := hz.kept b2; have k1 := (z2.cell 1).trans (show _ = some (Value.slice pa pn pc) from rfl); have k2 := (z2.cell 2).trans (show _ = some (Value.slice va vn vc) from rfl))
          | (go_at_call 161; (with_reducible refine (C2.out _).mono ?_); rintro e w3 ⟨rfl, b3⟩; have bb3 := Below.then bb2 b3; have z3 := z2.kept b3; have k3 := (z3.cell 2).trans (show _ = some (Value.slice va vn vc) from rfl)))
        go_ret
        exact ⟨rfl, bb3⟩
      · have h1i : ((0 : Int) < (vn : Int)) = False := eq_false (by omega)
        have h1n : decide (0 < vn) = false := decide_eq_false h1
        rw [h1n, Bool.false_and]
        go_enter Try.func114, Try.ntmps114
        go_wp2_with (first
          | (go_at_call 160; (with_reducible refine (C1.out _ (by rw [← Hw1.out]; exact hbel)).mono ?_); rintro e w2 ⟨rfl, b2⟩; rw [← Hw1.out] at b2; have bb2 := Below.then hbel b2; have z2 := hz.kept b2; have k1 := (z2.cell 1).trans (show _ = some (Value.slice pa pn pc) from rfl); have k2 := (z2.cell 2).trans (show _ = some (Value.slice va vn vc) from rfl))
          | (go_at_call 161; (with_reducible refine (C2.out _).mono ?_); rintro e w3 ⟨rfl, b3⟩; have bb3 := Below.then bb2 b3; have z3 := z2.kept b3; have k3 := (z3.cell 2).trans (show _ = some (Value.slice va vn vc) from rfl)))
        go_ret
        exact ⟨rfl, bb3⟩
include hN hpn hkn hp hk hks in
set_option maxHeartbeats 4000000 in
set_option maxRecDepth 100000 in
theorem right_road (ih : ∀ k ∈ ks, RgtC N k) (hd : d + 1 + pn + bulkNL ks ≤ N) : Calls Try.prog 114 #[.agg #[.int .i64 2, .slice pa pn pc, .slice va vn vc, .slice ka kn kc], .int .i64 (d : Int)] w fun e w' => e = .returned (.bool (rgt d (.mk 2 (.slice pa pn pc) p (.slice va vn vc) v (.slice ka kn kc) ks))) ∧ Below w.heap.size w w' := by
  have hR : rgt d (.mk 2 (.slice pa pn pc) p (.slice va vn vc) v (.slice ka kn kc) ks) = (decide (0 < pn) && half p && decide (kn = 1) && decide ((ks[0]?.map Nd.kd).getD 0 = 3) && rgtL (d + pn) ks) := by unfold rgt; rw [hpn, hkn]; rfl
  rw [hR]
  obtain ⟨w1, hw1⟩ : ∃ w1, w1 = w.alloc (.cells #[.int .i64 2, .slice pa pn pc, .slice va vn vc, .slice ka kn kc] 25) := ⟨_, rfl⟩
  have hz : Blk 25 w1 w.heap.size [.int .i64 2, .slice pa pn pc, .slice va vn vc, .slice ka kn kc] := by rw [hw1]; exact Blk.new w _ _
  have hbel : Below w.heap.size w w1 := by rw [hw1]; exact (Below.refl _ _).alloc (Nat.le_refl _) _
  have k1 := fun u : Ext w1 => u.cell ((hz.cell 1).trans (show _ = some (Value.slice pa pn pc) from rfl))
  have k3 := fun u : Ext w1 => u.cell ((hz.cell 3).trans (show _ = some (Value.slice ka kn kc) from rfl))
  have hp1 := hp.below hbel
  have c1 := fun (u : Ext w1) => tree_halves_any pa pn pc p hpn u.val (u.row hp1)
  have Hw1 := Lib.hid hw1
  have C1 := Lib.hid c1
  clear hw1 hR c1
  by_cases h1 : 0 < pn
  · have h1i : (0 : Int) < (pn : Int) := by omega
    have h1t : (0 < pn) = True := eq_true h1
    rw [decide_eq_true h1, Bool.true_and]
    cases hh : half p with
    | false =>
      rw [hh] at C1
      simp only [Bool.false_and]
      go_enter Try.func114, Try.ntmps114
      go_wp2_with fail
      rw [← Hw1.out]
      refine wp_region_typed w1 35 (by kernel_rfl) (by kernel_rfl) (Below.refl _ _) ?_; simp only [List.take_succ_cons, List.take_zero, List.take_nil]
      iterate 7 (refine wpX_step (by rfl) (fun K hK => ?_); go_simp; first | (refine hK _ ?_; clear hK K) | (apply Exists.intro; refine ⟨fun _ => ?_, hK _ ?_⟩; fail; clear hK K))
      (refine wpX_step (by rfl) (fun K hK => ?_); go_simp; first | (refine hK _ ?_; clear hK K) | (apply Exists.intro; refine ⟨fun _ => ?_, hK _ ?_⟩; exact C1.out _; clear hK K))
      iterate 27 (refine wpX_step (by rfl) (fun K hK => ?_); go_simp; first | (refine hK _ ?_; clear hK K) | (apply Exists.intro; refine ⟨fun _ => ?_, hK _ ?_⟩; fail; clear hK K))
      refine wpX_nil ?_
      intro u2 hb2
      simp only [List.reverse_nil, forallRel]
      change wpList _ _ _ [_] _ _
      have bb2 := Below.then hbel hb2
      go_wp2_with fail
      go_ret
      exact ⟨rfl, bb2⟩
    | true =>
      rw [hh] at C1
      rw [Bool.true_and]
      by_cases h2 : kn = 1
      · subst h2
        obtain ⟨k, rfl⟩ := List.length_eq_one_iff.1 hkn
        rw [decide_eq_true rfl, Bool.true_and]
        simp only [List.getElem?_cons_zero, Option.map_some, Option.getD_some, rgtL, Bool.and_true]
        have hkk := hks k List.mem_cons_self
        obtain ⟨bk, ok, rfl, hr⟩ := RowOf.range ndcells_len (hk.below hbel) 0 (by simp)
        simp only [List.getElem_cons_zero, Nat.zero_mul, Nat.add_zero] at hr
        have hck : w1.cell? ⟨bk, ok, none⟩ = some (.int .i64 k.kd) := by
          have := hr 0 (.int .i64 k.kd) (by cases k; rfl)
          simpa using this
        have kk := fun u : Ext w1 => u.cell hck
        by_cases h3 : k.kd = 3
        · have h3t : (k.kd == 3) = true := by rw [h3]; rfl
          rw [decide_eq_true h3, Bool.true_and]
          have hk1 := hkk.kept hbel
          have hbk : bulkNL [k] = bulkN k := by simp [bulkNL]
          have c2 := fun (u : Ext w1) => ih k List.mem_cons_self (d + pn) u.val (u.nd hk1) (by rw [hbk] at hd; omega)
          simp only [Int.natCast_add] at c2
          have hwr : IntKind.i64.wrap ((d : Int) + (pn : Int)) = (d : Int) + (pn : Int) := IntWalk.i64_in _ (by omega)
          obtain ⟨K, hK⟩ : ∃ K, K = ndcells k := ⟨_, rfl⟩
          have hKl : K.length = 4 := by rw [hK]; exact ndcells_len k
          rw [← hK] at hr
          simp only [← hK] at c2
          obtain ⟨kk3, hkk3⟩ : ∃ x, x = k.kd := ⟨_, rfl⟩
          simp only [← hkk3] at kk h3t
          obtain ⟨rr, hrr⟩ : ∃ x, x = rgt (d + pn) k := ⟨_, rfl⟩
          simp only [← hrr] at c2 ⊢
          have C2 := Lib.hid c2
          have HKl := Lib.hid hKl
          have Hr := Lib.hid hr
          clear c2 hK hKl hr hkk hk1 h3 hck hkk3 hrr
          go_enter Try.func114, Try.ntmps114
          go_wp2_with fail
          rw [← Hw1.out]
          refine wp_region_typed w1 35 (by kernel_rfl) (by kernel_rfl) (Below.refl _ _) ?_; simp only [List.take_succ_cons, List.take_zero, List.take_nil]
          iterate 7 (refine wpX_step (by rfl) (fun K hK => ?_); go_simp; first | (refine hK _ ?_; clear hK K) | (apply Exists.intro; refine ⟨fun _ => ?_, hK _ ?_⟩; fail; clear hK K))
          (refine wpX_step (by rfl) (fun K hK => ?_); go_simp; first | (refine hK _ ?_; clear hK K) | (apply Exists.intro; refine ⟨fun _ => ?_, hK _ ?_⟩; exact C1.out _; clear hK K))
          iterate 19 (refine wpX_step (by rfl) (fun K hK => ?_); go_simp; first | (refine hK _ ?_; clear hK K) | (apply Exists.intro; refine ⟨fun _ => ?_, hK _ ?_⟩; fail; clear hK K))
          (refine wpX_step (by rfl) (fun K hK => ?_); rw [if_pos (by rfl)]; refine ⟨_, fun u => const_loadm _ (.tmp 62) (by rfl) _ _ (by rfl) aggNode HKl.out (rangeAt.ext Hr.out u), hK _ ?_⟩; clear hK K; simp only [Act.put, List.setIfInBounds_toArray, List.set_cons_zero, List.set_cons_succ])
          iterate 5 (refine wpX_step (by rfl) (fun K hK => ?_); go_simp; first | (refine hK _ ?_; clear hK K) | (apply Exists.intro; refine ⟨fun _ => ?_, hK _ ?_⟩; fail; clear hK K))
          (refine wpX_step (by rfl) (fun K hK => ?_); go_simp; first | (refine hK _ ?_; clear hK K) | (apply Exists.intro; refine ⟨fun _ => ?_, hK _ ?_⟩; exact C2.out _; clear hK K))
          (refine wpX_step (by rfl) (fun K hK => ?_); go_simp; first | (refine hK _ ?_; clear hK K) | (apply Exists.intro; refine ⟨fun _ => ?_, hK _ ?_⟩; fail; clear hK K))
          refine wpX_nil ?_
          intro u2 hb2
          simp only [List.reverse_nil, forallRel]
          change wpList _ _ _ [_] _ _
          have bb2 := Below.then hbel hb2
          go_wp2_with fail
          go_ret
          exact ⟨rfl, bb2⟩
        · have h3t : (k.kd == 3) = false := by rw [beq_eq_false_iff_ne]; exact h3
          rw [decide_eq_false h3, Bool.false_and]
          clear h3 hr hkk
          go_enter Try.func114, Try.ntmps114
          go_wp2_with fail
          rw [← Hw1.out]
          refine wp_region_typed w1 35 (by kernel_rfl) (by kernel_rfl) (Below.refl _ _) ?_; simp only [List.take_succ_cons, List.take_zero, List.take_nil]
          iterate 7 (refine wpX_step (by rfl) (fun K hK => ?_); go_simp; first | (refine hK _ ?_; clear hK K) | (apply Exists.intro; refine ⟨fun _ => ?_, hK _ ?_⟩; fail; clear hK K))
          (refine wpX_step (by rfl) (fun K hK => ?_); go_simp; first | (refine hK _ ?_; clear hK K) | (apply Exists.intro; refine ⟨fun _ => ?_, hK _ ?_⟩; exact C1.out _; clear hK K))
          iterate 27 (refine wpX_step (by rfl) (fun K hK => ?_); go_simp; first | (refine hK _ ?_; clear hK K) | (apply Exists.intro; refine ⟨fun _ => ?_, hK _ ?_⟩; fail; clear hK K))
          refine wpX_nil ?_
          intro u2 hb2
          simp only [List.reverse_nil, forallRel]
          change wpList _ _ _ [_] _ _
          have bb2 := Below.then hbel hb2
          go_wp2_with fail
          go_ret
          exact ⟨rfl, bb2⟩
      · have h2i : ((kn : Int) == 1) = false := by rw [beq_eq_false_iff_ne]; omega
        rw [decide_eq_false h2, Bool.false_and, Bool.false_and]
        go_enter Try.func114, Try.ntmps114
        go_wp2_with fail
        rw [← Hw1.out]
        refine wp_region_typed w1 35 (by kernel_rfl) (by kernel_rfl) (Below.refl _ _) ?_; simp only [List.take_succ_cons, List.take_zero, List.take_nil]
        iterate 7 (refine wpX_step (by rfl) (fun K hK => ?_); go_simp; first | (refine hK _ ?_; clear hK K) | (apply Exists.intro; refine ⟨fun _ => ?_, hK _ ?_⟩; fail; clear hK K))
        (refine wpX_step (by rfl) (fun K hK => ?_); go_simp; first | (refine hK _ ?_; clear hK K) | (apply Exists.intro; refine ⟨fun _ => ?_, hK _ ?_⟩; exact C1.out _; clear hK K))
        iterate 27 (refine wpX_step (by rfl) (fun K hK => ?_); go_simp; first | (refine hK _ ?_; clear hK K) | (apply Exists.intro; refine ⟨fun _ => ?_, hK _ ?_⟩; fail; clear hK K))
        refine wpX_nil ?_
        intro u2 hb2
        simp only [List.reverse_nil, forallRel]
        change wpList _ _ _ [_] _ _
        have bb2 := Below.then hbel hb2
        go_wp2_with fail
        go_ret
        exact ⟨rfl, bb2⟩
  · have h1i : ((0 : Int) < (pn : Int)) = False := eq_false (by omega)
    have h1n : (0 < pn) = False := eq_false h1
    rw [decide_eq_false h1]
    simp only [Bool.false_and]
    go_enter Try.func114, Try.ntmps114
    go_wp2_with fail
    rw [← Hw1.out]
    refine wp_region_typed w1 35 (by kernel_rfl) (by kernel_rfl) (Below.refl _ _) ?_; simp only [List.take_succ_cons, List.take_zero, List.take_nil]
    iterate 35 (refine wpX_step (by rfl) (fun K hK => ?_); go_simp; first | (refine hK _ ?_; clear hK K) | (apply Exists.intro; refine ⟨fun _ => ?_, hK _ ?_⟩; fail; clear hK K))
    refine wpX_nil ?_
    intro u2 hb2
    simp only [List.reverse_nil, forallRel]
    change wpList _ _ _ [_] _ _
    have bb2 := Below.then hbel hb2
    go_wp2_with fail
    go_ret
    exact ⟨rfl, bb2⟩
end
end Go.Proofs.Ytnhbfnegpjkojaa
