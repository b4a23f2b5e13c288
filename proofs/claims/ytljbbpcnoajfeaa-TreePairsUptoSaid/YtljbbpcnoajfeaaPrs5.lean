/- tree.all's iterator at every right tree. -/
import Derived.Test.YtljbbpcnoajfeaaPrs4
set_option linter.unusedSimpArgs false
set_option linter.unusedVariables false
namespace Go.Proofs.Ytljbbpcnoajfeaa
open Go.RowKit
theorem allq_any (w0 : World) : ∀ (n : Nat) (t : Nd), SizeOf.sizeOf t ≤ n → ∀ d, rgt d t = true → ∀ l, rts t = some l → IsNd w0 t → ∀ (pl : List UInt8) (pa : Option Addr) (pn pc : Nat), pl.length = pn → pn + bulkN t ≤ 100000000 → AllQ w0 (nv t) pa pn pc pl (pre pl l)
  | 0, .mk kd pv p vv v kv ks, h, d, _, l, _, _, pl, pa, pn, pc, _, _ => by simp at h
  | n + 1, .mk kd pv p vv v kv ks, h, d, hr, l, hl, hI, pl, pa, pn, pc, hpn, hbk => by
    have hks : ∀ k ∈ ks, SizeOf.sizeOf k ≤ n := by
      intro k hk
      have := List.sizeOf_lt_of_mem hk
      simp only [Nd.mk.sizeOf_spec] at h
      omega
    obtain ⟨hp, hv, hkr, hki⟩ := hI.inv
    obtain ⟨qa, qc, hpv, _⟩ := hp.form
    obtain ⟨va, vc, hvv, _⟩ := hv.form
    rw [hpv] at hp
    rw [hvv] at hv
    unfold rgt at hr
    unfold rts at hl
    unfold bulkN at hbk
    unfold nv
    rw [hpv, hvv]
    by_cases h0 : kd = 0
    · subst h0
      simp at hl
      subst hl
      exact all1_none w0 pa pn pc pl
    · rw [if_neg h0] at hr
      by_cases hh : (kd = 1 ∨ kd = 2) ∧ half p = false
      · rw [if_pos hh] at hl; simp at hl
      · rw [if_neg hh, if_neg h0] at hl
        by_cases h1 : kd = 1
        · subst h1
          rw [if_pos rfl] at hl ⊢
          simp only [Option.some.injEq] at hl
          subst hl
          exact all1_leaf w0 pa pn pc pl qa va p.length qc v.length vc p v hpn rfl (by omega) (by omega) hp hv
        · rw [if_neg h1] at hr hl ⊢
          by_cases h2 : kd = 2
          · subst h2
            rw [if_pos rfl] at hr ⊢
            simp only [Bool.and_eq_true, decide_eq_true_eq] at hr
            obtain ⟨⟨⟨⟨_, _⟩, hl1⟩, hk3⟩, hrk⟩ := hr
            rw [if_pos ⟨rfl, hl1⟩] at hl
            obtain ⟨k, rfl⟩ := List.length_eq_one_iff.1 hl1
            rw [rgtL_iff] at hrk
            have hk3 : k.kd = 3 := by simpa using hk3
            cases hk : rts k with
            | none => simp [rtsL, hk] at hl
            | some m =>
              simp only [rtsL, hk, Option.map_some, List.flatten_cons, List.flatten_nil, List.append_nil, Option.some.injEq] at hl
              subst hl
              rw [pre_pre]
              have hkm : k ∈ [k] := List.mem_singleton.2 rfl
              have hbb := bulkN_mem hkm
              refine all1_road w0 pa pn pc pl qa p.length qc p k hk3 hpn rfl (by omega) (by omega) hp (pre (pl ++ p) m) (fun a n' c hn => ?_)
              exact allq_any w0 n k (hks k hkm) _ (hrk k hkm) m hk (hki k hkm) (pl ++ p) a n' c hn (by rw [← hn, List.length_append]; omega)
          · rw [if_neg h2] at hr ⊢
            by_cases h3 : kd = 3
            · subst h3
              rw [if_pos rfl] at hr ⊢
              simp only [Bool.and_eq_true, decide_eq_true_eq] at hr
              obtain ⟨⟨⟨⟨hl1, _⟩, _⟩, hrk⟩, _⟩ := hr
              rw [if_neg (fun e => h2 e.1), if_pos ⟨rfl, hl1⟩] at hl
              rw [rgtL_iff] at hrk
              cases hls : rtsL ks with
              | none => rw [hls] at hl; simp at hl
              | some ls =>
                rw [hls] at hl
                simp only [Option.map_some, Option.some.injEq] at hl
                subst hl
                obtain ⟨hll, hat⟩ := rtsL_at hls
                refine all1_fork w0 pa pn pc pl va v.length vc v ks ls hl1 (by omega) hpn rfl (by omega) hv (fun i k m hk hm a n' c hn => ?_)
                obtain ⟨m', hm', hkm'⟩ := hat i k hk
                obtain rfl : m = m' := by rw [hm] at hm'; exact Option.some.inj hm'
                have hkm := List.mem_of_getElem? hk
                have hbb := bulkN_mem hkm
                exact allq_any w0 n k (hks k hkm) _ (hrk k hkm) m hkm' (hki k hkm) _ a n' c hn (by rw [← hn, List.length_append, List.length_singleton]; omega)
            · rw [if_neg h3] at hr
              simp at hr
end Go.Proofs.Ytljbbpcnoajfeaa
