/- The reference's SameNode of any two nodes. -/
import Derived.Test.YtnhbfnegpjkojaaSame1
set_option linter.unusedSimpArgs false
set_option linter.unusedVariables false
namespace Go.Proofs.Ytnhbfnegpjkojaa
open Go.RowKit
section
variable (N : Nat) (hN : N ≤ 1000000000) (kd kd' : Int) (pa va ka pa' va' ka' : Option Addr) (pn pc vn vc kn kc pn' pc' vn' vc' kn' kc' : Nat) (p v p' v' : List UInt8) (ks ks' : List Nd) (hkn : ks.length = kn) (hkn' : ks'.length = kn') (w : World)
  (hp : Bytes w (.slice pa pn pc) p) (hv : Bytes w (.slice va vn vc) v) (hk : RowOf ndcells 4 w (.slice ka kn kc) ks) (hks : ∀ k ∈ ks, IsNd w k)
  (hp' : Bytes w (.slice pa' pn' pc') p') (hv' : Bytes w (.slice va' vn' vc') v') (hk' : RowOf ndcells 4 w (.slice ka' kn' kc') ks') (hks' : ∀ k ∈ ks', IsNd w k)
include hN hkn hkn' hp hv hk hks hp' hv' hk' hks' in
set_option maxHeartbeats 4000000 in
set_option maxRecDepth 100000 in
theorem same_parts (ih : ∀ k ∈ ks, SmC N k) (hb : bulkNL ks ≤ N) : Calls Try.prog 116 #[.agg #[.int .i64 kd, .slice pa pn pc, .slice va vn vc, .slice ka kn kc], .agg #[.int .i64 kd', .slice pa' pn' pc', .slice va' vn' vc', .slice ka' kn' kc']] w
    fun e w' => e = .returned (.bool (if kd ≠ kd' then false else if kd = 1 then p == p' && v == v' else if kd = 2 then p == p' && sameL ks (erNL ks') else if kd = 3 then v == v' && sameL ks (erNL ks') else true)) ∧ Below w.heap.size w w' := by
  obtain ⟨R, hR⟩ : ∃ R, R = if kd ≠ kd' then false else if kd = 1 then p == p' && v == v' else if kd = 2 then p == p' && sameL ks (erNL ks') else if kd = 3 then v == v' && sameL ks (erNL ks') else true := ⟨_, rfl⟩
  rw [← hR]
  obtain ⟨w2, hw2⟩ : ∃ w2, w2 = (w.alloc (.cells #[.int .i64 kd, .slice pa pn pc, .slice va vn vc, .slice ka kn kc] 25)).alloc (.cells #[.int .i64 kd', .slice pa' pn' pc', .slice va' vn' vc', .slice ka' kn' kc'] 25) := ⟨_, rfl⟩
  have hA : Blk 25 w2 w.heap.size [.int .i64 kd, .slice pa pn pc, .slice va vn vc, .slice ka kn kc] := by rw [hw2]; exact (Blk.new w _ _).alloc _
  have hB : Blk 25 w2 (w.heap.size + 1) [.int .i64 kd', .slice pa' pn' pc', .slice va' vn' vc', .slice ka' kn' kc'] := by
    have := Blk.new (w.alloc (.cells #[.int .i64 kd, .slice pa pn pc, .slice va vn vc, .slice ka kn kc] 25)) 25 [.int .i64 kd', .slice pa' pn' pc', .slice va' vn' vc', .slice ka' kn' kc']
    rw [hw2]; simpa using this
  have hbel : Below w.heap.size w w2 := by rw [hw2]; exact ((Below.refl _ _).alloc (Nat.le_refl _) _).alloc (by simp) _
  have a0 := (hA.cell 0).trans (show _ = some (Value.int .i64 kd) from rfl)
  have a1 := (hA.cell 1).trans (show _ = some (Value.slice pa pn pc) from rfl)
  have a2 := (hA.cell 2).trans (show _ = some (Value.slice va vn vc) from rfl)
  have a3 := (hA.cell 3).trans (show _ = some (Value.slice ka kn kc) from rfl)
  have b0 := (hB.cell 0).trans (show _ = some (Value.int .i64 kd') from rfl)
  have b1 := (hB.cell 1).trans (show _ = some (Value.slice pa' pn' pc') from rfl)
  have b2 := (hB.cell 2).trans (show _ = some (Value.slice va' vn' vc') from rfl)
  have b3 := (hB.cell 3).trans (show _ = some (Value.slice ka' kn' kc') from rfl)
  have s1 := run_str (P := Try.prog) (src := 22) (dst := 9) elU8.ht (by kernel_rfl) (by kernel_rfl) (hp.below hbel)
  have s2 := run_str (P := Try.prog) (src := 22) (dst := 9) elU8.ht (by kernel_rfl) (by kernel_rfl) (hv.below hbel)
  have s3 := run_str (P := Try.prog) (src := 22) (dst := 9) elU8.ht (by kernel_rfl) (by kernel_rfl) (hp'.below hbel)
  have s4 := run_str (P := Try.prog) (src := 22) (dst := 9) elU8.ht (by kernel_rfl) (by kernel_rfl) (hv'.below hbel)
  have c1 := eqf_any N ka ka' kn kc kn' kc' ks ks' hkn hkn' hb (by have := bulkN_len ks; omega) w2 (hk.below hbel) (hk'.below hbel) (fun k h => (hks k h).kept hbel) (fun k h => (hks' k h).kept hbel) ih
  obtain ⟨q, hq⟩ : ∃ q, q = sameL ks (erNL ks') := ⟨_, rfl⟩
  rw [← hq] at c1 hR
  have C1 := Lib.hid c1
  have HR := Lib.hid hR
  obtain ⟨bp, hbp⟩ : ∃ b, b = (p == p') := ⟨_, rfl⟩
  obtain ⟨bv, hbv⟩ : ∃ b, b = (v == v') := ⟨_, rfl⟩
  have hbp' := hbp.symm
  have hbv' := hbv.symm
  rw [hw2] at a0 a1 a2 a3 b0 b1 b2 b3 s1 s2 s3 s4 C1 hbel
  clear hA hB hw2 hR c1 hq hbp hbv hks hks' hk hk' hp hp' hv hv' ih
  by_cases hkk : kd = kd'
  · subst hkk
    have hR2 : R = if kd = 1 then bp && bv else if kd = 2 then bp && q else if kd = 3 then bv && q else true := by rw [HR.out, if_neg (by simp), hbp', hbv']
    clear HR
    by_cases h1 : kd = 1
    · subst h1
      rw [if_pos rfl] at hR2
      subst hR2
      cases bp <;> cases bv
      all_goals
        go_enter Try.func116, Try.ntmps116
        go_wp2_with fail
        go_ret
        exact ⟨rfl, hbel⟩
    · by_cases h2 : kd = 2
      · subst h2
        rw [if_neg h1, if_pos rfl] at hR2
        subst hR2
        cases bp
        · go_enter Try.func116, Try.ntmps116
          go_wp2_with fail
          go_ret
          exact ⟨rfl, hbel⟩
        · go_enter Try.func116, Try.ntmps116
          go_wp2_with (go_at_call 164; (with_reducible refine C1.out.mono ?_); rintro e w3 ⟨rfl, b3⟩)
          go_ret
          exact ⟨rfl, Below.then hbel b3⟩
      · by_cases h3 : kd = 3
        · subst h3
          rw [if_neg h1, if_neg h2, if_pos rfl] at hR2
          subst hR2
          cases bv
          · go_enter Try.func116, Try.ntmps116
            go_wp2_with fail
            go_ret
            exact ⟨rfl, hbel⟩
          · go_enter Try.func116, Try.ntmps116
            go_wp2_with (go_at_call 164; (with_reducible refine C1.out.mono ?_); rintro e w3 ⟨rfl, b3⟩)
            go_ret
            exact ⟨rfl, Below.then hbel b3⟩
        · rw [if_neg h1, if_neg h2, if_neg h3] at hR2
          subst hR2
          have e1 : (kd == 1) = false := by rw [beq_eq_false_iff_ne]; exact h1
          have e2 : (kd == 2) = false := by rw [beq_eq_false_iff_ne]; exact h2
          have e3 : (kd == 3) = false := by rw [beq_eq_false_iff_ne]; exact h3
          clear h1 h2 h3
          go_enter Try.func116, Try.ntmps116
          go_wp2_with fail
          go_ret
          exact ⟨rfl, hbel⟩
  · have hRf : R = false := by rw [HR.out, if_pos hkk]
    subst hRf
    have hne : (kd == kd') = false := by rw [beq_eq_false_iff_ne]; exact hkk
    clear hkk HR
    go_enter Try.func116, Try.ntmps116
    go_wp2_with fail
    go_ret
    exact ⟨rfl, hbel⟩
end
theorem same_any (N : Nat) (hN : N ≤ 1000000000) : ∀ (n : Nat) (t : Nd), SizeOf.sizeOf t ≤ n → SmC N t
  | 0, .mk kd pv p vv v kv ks, h => by simp at h
  | n + 1, .mk kd pv p vv v kv ks, h => by
    intro s w hI hS hd
    have hks : ∀ k ∈ ks, SmC N k := by
      intro k hk
      refine same_any N hN n k ?_
      have := List.sizeOf_lt_of_mem hk
      simp only [Nd.mk.sizeOf_spec] at h
      omega
    obtain ⟨kd', pv', p', vv', v', kv', ks'⟩ := s
    obtain ⟨hp, hv, hk, hall⟩ := hI.inv
    obtain ⟨hp', hv', hk', hall'⟩ := hS.inv
    obtain ⟨pa, pc, rfl, _, _⟩ := hp.form
    obtain ⟨va, vc, rfl, _, _⟩ := hv.form
    obtain ⟨ka, kc, rfl, _, _⟩ := hk.form
    obtain ⟨pa', pc', rfl, _, _⟩ := hp'.form
    obtain ⟨va', vc', rfl, _, _⟩ := hv'.form
    obtain ⟨ka', kc', rfl, _, _⟩ := hk'.form
    simp only [bulkN] at hd
    have := same_parts N hN kd kd' pa va ka pa' va' ka' p.length pc v.length vc ks.length kc p'.length pc' v'.length vc' ks'.length kc' p v p' v' ks ks' rfl rfl w hp hv hk hall hp' hv' hk' hall' hks (by omega)
    simp only [erN, sameP]
    exact this
end Go.Proofs.Ytnhbfnegpjkojaa
