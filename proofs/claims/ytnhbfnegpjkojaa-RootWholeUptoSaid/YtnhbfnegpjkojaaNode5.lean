/- tree.right of any node, tree.Right. -/
import Derived.Test.YtnhbfnegpjkojaaNode4
set_option linter.unusedSimpArgs false
set_option linter.unusedVariables false
namespace Go.Proofs.Ytnhbfnegpjkojaa
open Go.RowKit
set_option maxHeartbeats 1000000 in
set_option maxRecDepth 100000 in
theorem right_plain (kd : Int) (pa va ka : Option Addr) (pn pc vn vc kn kc : Nat) (d : Nat) (w : World) (h1 : kd ≠ 1) (h2 : kd ≠ 2) (h3 : kd ≠ 3) :
    Calls Try.prog 114 #[.agg #[.int .i64 kd, .slice pa pn pc, .slice va vn vc, .slice ka kn kc], .int .i64 (d : Int)] w fun e w' => e = .returned (.bool (decide (kd = 0))) ∧ Below w.heap.size w w' := by
  have e1 : (kd == 1) = false := by rw [beq_eq_false_iff_ne]; exact h1
  have e2 : (kd == 2) = false := by rw [beq_eq_false_iff_ne]; exact h2
  have e3 : (kd == 3) = false := by rw [beq_eq_false_iff_ne]; exact h3
  have hbel : Below w.heap.size w (w.alloc (.cells #[.int .i64 kd, .slice pa pn pc, .slice va vn vc, .slice ka kn kc] 25)) := (Below.refl _ _).alloc (Nat.le_refl _) _
  have k0 := ((Blk.new w 25 [.int .i64 kd, .slice pa pn pc, .slice va vn vc, .slice ka kn kc]).cell 0).trans (show _ = some (Value.int .i64 kd) from rfl)
  clear h1 h2 h3
  by_cases h0 : kd = 0
  · subst h0
    go_enter Try.func114, Try.ntmps114
    go_wp2_with fail
    go_ret
    exact ⟨rfl, hbel⟩
  · have e0 : (kd == 0) = false := by rw [beq_eq_false_iff_ne]; exact h0
    rw [decide_eq_false h0]
    clear h0
    go_enter Try.func114, Try.ntmps114
    go_wp2_with fail
    go_ret
    exact ⟨rfl, hbel⟩
set_option maxHeartbeats 1000000 in
set_option maxRecDepth 100000 in
theorem right_any (N : Nat) (hN : N ≤ 1000000000) : ∀ (n : Nat) (t : Nd), SizeOf.sizeOf t ≤ n → RgtC N t
  | 0, .mk kd pv p vv v kv ks, h => by simp at h
  | n + 1, .mk kd pv p vv v kv ks, h => by
    intro d w hI hd
    have hks : ∀ k ∈ ks, RgtC N k := by
      intro k hk
      refine right_any N hN n k ?_
      have := List.sizeOf_lt_of_mem hk
      simp only [Nd.mk.sizeOf_spec] at h
      omega
    obtain ⟨hp, hv, hk, hall⟩ := hI.inv
    obtain ⟨pa, pc, rfl, _, _⟩ := hp.form
    obtain ⟨va, vc, rfl, _, _⟩ := hv.form
    obtain ⟨ka, kc, rfl, _, _⟩ := hk.form
    simp only [bulkN] at hd
    by_cases h1 : kd = 1
    · subst h1
      exact right_leaf N hN pa va ka p.length pc v.length vc ks.length kc p v ks rfl rfl d w hp (by omega)
    · by_cases h2 : kd = 2
      · subst h2
        exact right_road N hN pa va ka p.length pc v.length vc ks.length kc p v ks rfl rfl d w hp hk hall hks (by omega)
      · by_cases h3 : kd = 3
        · subst h3
          have hbel : Below w.heap.size w (w.alloc (.cells #[.int .i64 3, .slice pa p.length pc, .slice va v.length vc, .slice ka ks.length kc] 25)) := (Below.refl _ _).alloc (Nat.le_refl _) _
          have hz := Blk.new w 25 [.int .i64 3, .slice pa p.length pc, .slice va v.length vc, .slice ka ks.length kc]
          have k0 := (hz.cell 0).trans (show _ = some (Value.int .i64 3) from rfl)
          have c1 := rfork_any N hN pa va ka p.length pc v.length vc ks.length kc p v ks rfl rfl d (w.alloc (.cells #[.int .i64 3, .slice pa p.length pc, .slice va v.length vc, .slice ka ks.length kc] 25)) (hk.below hbel) (fun k hk => (hall k hk).kept hbel) hks (by omega)
          obtain ⟨R, hR⟩ : ∃ R, R = rgt d (.mk 3 (.slice pa p.length pc) p (.slice va v.length vc) v (.slice ka ks.length kc) ks) := ⟨_, rfl⟩
          rw [← hR] at c1 ⊢
          have r1 := hz.all0
          have C1 := Lib.hid c1
          clear c1 hR hks hall h hd
          show Calls Try.prog 114 #[.agg #[.int .i64 3, .slice pa p.length pc, .slice va v.length vc, .slice ka ks.length kc], .int .i64 (d : Int)] w _
          go_enter Try.func114, Try.ntmps114
          go_wp2_with (first
            | (refine wpList_loadW (o := ⟨some 73, _, _, _, _, _⟩) 25 (.tmp 2) (by rfl) w.heap.size 0 (by rfl) aggNode (by rfl) r1 (by rfl) ?_)
            | (go_at_call 162; (with_reducible refine C1.out.mono ?_); rintro e w2 ⟨rfl, b2⟩))
          go_ret
          exact ⟨rfl, Below.then hbel b2⟩
        · have hR : rgt d (.mk kd (.slice pa p.length pc) p (.slice va v.length vc) v (.slice ka ks.length kc) ks) = decide (kd = 0) := by
            unfold rgt
            rw [if_neg h1, if_neg h2, if_neg h3]
            split
            · rename_i h0; exact (decide_eq_true h0).symm
            · rename_i h0; exact (decide_eq_false h0).symm
          rw [hR]
          exact right_plain kd pa va ka p.length pc v.length vc ks.length kc d w h1 h2 h3
set_option maxHeartbeats 1000000 in
set_option maxRecDepth 100000 in
theorem tree_right_any (t : Nd) (w : World) (h : IsNd w t) (hb : bulkN t ≤ 1000000000) : Calls Try.prog 52 #[.agg (ndcells t).toArray] w fun e w' => e = .returned (.bool (rgt 0 t)) ∧ Below w.heap.size w w' := by
  obtain ⟨K, hK⟩ : ∃ K, K = ndcells t := ⟨_, rfl⟩
  have hKl : K.length = 4 := by rw [hK]; exact ndcells_len t
  have hbel : Below w.heap.size w (w.alloc (.cells K.toArray 25)) := (Below.refl _ _).alloc (Nat.le_refl _) _
  have r1 := (Blk.new w 25 K).all0
  have c1 : Calls Try.prog 114 #[.agg (ndcells t).toArray, .int .i64 0] (w.alloc (.cells K.toArray 25)) (fun e w' => e = .returned (.bool (rgt 0 t)) ∧ Below (w.alloc (.cells K.toArray 25)).heap.size (w.alloc (.cells K.toArray 25)) w') := right_any 1000000000 (Nat.le_refl _) (SizeOf.sizeOf t) t (Nat.le_refl _) 0 (w.alloc (.cells K.toArray 25)) (h.kept hbel) (by omega)
  simp only [← hK] at c1 ⊢
  obtain ⟨R, hR⟩ : ∃ R, R = rgt 0 t := ⟨_, rfl⟩
  rw [← hR] at c1 ⊢
  have C1 := Lib.hid c1
  clear c1 hR hK h hb
  go_enter Try.func52, Try.ntmps52
  go_wp2_with (first
    | (refine wpList_loadW (o := ⟨some 3, _, _, _, _, _⟩) 25 (.tmp 1) (by rfl) w.heap.size 0 (by rfl) aggNode hKl r1 (by rfl) ?_)
    | (go_at_call 114; (with_reducible refine C1.out.mono ?_); rintro e w2 ⟨rfl, b2⟩))
  go_ret
  exact ⟨rfl, Below.then hbel b2⟩
end Go.Proofs.Ytnhbfnegpjkojaa
