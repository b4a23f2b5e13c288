/- The reference's treeCodes of any node that counts. -/
import Derived.Test.YtnhbfnegpjkojaaRw5
set_option linter.unusedSimpArgs false
set_option linter.unusedVariables false
namespace Go.Proofs.Ytnhbfnegpjkojaa
open Go.RowKit
theorem tc_any : ∀ (n : Nat) (t : Nd), SizeOf.sizeOf t ≤ n → OkN t → bulkN t ≤ 1048576 → ∀ w, IsNd w t → Calls Try.prog 55 #[.agg (ndcells t).toArray] w (TcPost (alN t) w)
  | 0, .mk kd pv p vv v kv ks, h, _, _, _, _ => by simp at h
  | n + 1, .mk kd pv p vv v kv ks, h, ho, hb, w, hI => by
    have hs : ∀ k ∈ ks, SizeOf.sizeOf k ≤ n := by
      intro k hk
      have := List.sizeOf_lt_of_mem hk
      simp only [Nd.mk.sizeOf_spec] at h
      omega
    obtain ⟨hp, hv, hk, hall⟩ := hI.inv
    simp only [bulkN] at hb
    have hkl := bulkN_len ks
    have hbm := fun k (hk : k ∈ ks) => bulkN_mem hk
    cases ho with
    | leaf =>
      obtain ⟨pa, pc, rfl, _, _⟩ := hp.form
      obtain ⟨va, vc, rfl, _, _⟩ := hv.form
      obtain ⟨ka, kc, rfl, _, _⟩ := hk.form
      exact tc_leaf pa va ka p.length pc v.length vc ks.length kc p v ks _ _ _ rfl rfl w hp hv (by omega) (by omega)
    | inner _ _ _ _ _ _ _ hkd hks =>
      obtain ⟨pa, pc, rfl, _, _⟩ := hp.form
      obtain ⟨va, vc, rfl, _, _⟩ := hv.form
      obtain ⟨ka, kc, rfl, _, _⟩ := hk.form
      exact tc_inner kd hkd pa va ka p.length pc v.length vc ks.length kc p v ks rfl rfl rfl w hp hv hk (by omega) (by omega) (by omega) hall (by omega) (fun k hk h0 u hu => tc_any n k (hs k hk) (hks k hk h0) (by have := hbm k hk; omega) u ((hall k hk).kept hu)) _ _ _
end Go.Proofs.Ytnhbfnegpjkojaa
