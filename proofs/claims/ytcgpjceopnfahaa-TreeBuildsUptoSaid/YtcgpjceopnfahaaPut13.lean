/- tree.put, at every node that grows. -/
import Derived.Test.YtcgpjceopnfahaaPut12
set_option linter.unusedSimpArgs false
set_option linter.unusedVariables false
namespace Go.Proofs.Ytcgpjceopnfahaa
open Go.RowKit
theorem rput_mem {l : List Rt} {p v : List UInt8} {r : Rt} (h : r ∈ rputP l p v) : r ∈ l ∨ r = (p, v) := by
  unfold rputP at h
  split at h
  · exact .inl ((List.mem_filter.1 h).1)
  · have hi : ∀ (l : List Rt), r ∈ insR (p, v) l → r = (p, v) ∨ r ∈ l := by
      intro l
      induction l with
      | nil => intro h; exact .inl (List.mem_singleton.1 h)
      | cons s l ih =>
        intro h
        unfold insR at h
        split at h
        · rcases List.mem_cons.1 h with h | h
          · exact .inl h
          · exact .inr h
        · rcases List.mem_cons.1 h with h | h
          · exact .inr (h ▸ List.mem_cons_self)
          · rcases ih h with h | h
            · exact .inl h
            · exact .inr (List.mem_cons_of_mem _ h)
    rcases hi _ h with h | h
    · exact .inr h
    · exact .inl ((List.mem_filter.1 h).1)
theorem put_path {l : List Rt} {t : Pn} (h : Grows l t) (B : Nat) (hB : ∀ r ∈ l, r.1.length ≤ B) (p v : List UInt8) (hp : nibs p) (hpB : p.length ≤ B) : (putQ t p v).pth.length ≤ B :=
  grows_path (put_grows h p v hp) B (fun r hr => by
    rcases rput_mem hr with hr | rfl
    · exact hB r hr
    · exact hpB)
theorem put_any : ∀ (n : Nat) (t : Nd), SizeOf.sizeOf t ≤ n → ∀ l, Grows l (clN t) → (∀ r ∈ l, r.1.length ≤ 1000000) → PutC t
  | 0, .mk kd pv p vv v kv ks, h => by simp at h
  | n + 1, .mk kd pv p vv v kv ks, h => by
    intro l hg hB ka va kn kc vn vc p' v' w hkl hvl hk1 hp' hI hkb hvb
    have hks : ∀ k ∈ ks, ∀ l, Grows l (clN k) → (∀ r ∈ l, r.1.length ≤ 1000000) → PutC k := by
      intro k hk
      refine put_any n k ?_
      have := List.sizeOf_lt_of_mem hk
      simp only [Nd.mk.sizeOf_spec] at h
      omega
    have hgc := hg
    cases hI with
    | none pv p vv v kv ks => exact put_nil ka va kn kc vn vc p' v' hvl w hkb hvb
    | leaf pv p vv v kv ks hp hv =>
      obtain ⟨pa, pc, rfl, _, _⟩ := hp.form
      obtain ⟨ua, uc, rfl, _, _⟩ := hv.form
      rw [show clN (.mk 1 (.slice pa p.length pc) p (.slice ua v.length uc) v kv ks) = .mk 1 p v [] from rfl] at hg
      have hpl := grows_path hg 1000000 hB
      have hq : nibs p := by
        generalize hT : (Pn.mk 1 p v []) = T at hg
        cases hg with
        | none => cases hT
        | leaf p2 v2 hv2 hp2 => cases hT; exact hp2
        | road => cases hT
        | fork => cases hT
      have hpl2 : p.length ≤ 1000000 := hpl
      exact put_leaf pa ua ka va _ pc _ uc kn kc vn vc p v p' v' rfl hkl hvl (by omega) (by omega) hq hp' w hp hv hkb hvb
    | road pv p vv v kv k hp hk3 hk =>
      obtain ⟨pa, pc, rfl, _, _⟩ := hp.form
      rw [show clN (.mk 2 (.slice pa p.length pc) p vv v kv [k]) = .mk 2 p [] [clN k] from rfl] at hg ⊢
      have hpl : p.length ≤ 1000000 := grows_path hg 1000000 hB
      obtain ⟨l', rfl, hq, hgk⟩ : ∃ l', l = pre p l' ∧ nibs p ∧ Grows l' (clN k) := by
        generalize hT : (Pn.mk 2 p [] [clN k]) = T at hg
        cases hg with
        | none => cases hT
        | leaf => cases hT
        | road p2 l2 k2 hp0 hn h2 hk2 => cases hT; exact ⟨l2, rfl, hn, h2⟩
        | fork => cases hT
      have hB2 : ∀ r ∈ l', r.1.length ≤ 1000000 := fun r hr => by
        have := hB _ (mem_pre (p := p) hr)
        simp only [List.length_append] at this
        omega
      have hkp : k.path.length ≤ 1000000 := grows_path hgk 1000000 hB2
      have hpb := put_path hgk 1000000 hB2 (p'.drop p.length) v' (fun y hy => hp' y (List.mem_of_mem_drop hy)) (by rw [List.length_drop]; omega)
      exact put_road pa ka va _ pc kn kc vn vc p p' v' k hk3 (hks k (List.mem_singleton.2 rfl) l' hgk hB2) rfl hkl hvl (by omega) hk1 hq hp' (by omega) (by omega) w hp hkb hvb hk
    | fork pv p vv v kv ks hv hl hk =>
      obtain ⟨ua, uc, rfl, _, _⟩ := hv.form
      rw [show clN (.mk 3 pv p (.slice ua v.length uc) v kv ks) = .mk 3 [] v (clNL ks) from rfl] at hg ⊢
      have hkk : ∀ (i : Nat) (k : Nd), ks[i]? = some k → ∃ l', Grows l' (clN k) ∧ ∀ r ∈ l', r.1.length ≤ 1000000 := by
        intro i k hi
        generalize hT : (Pn.mk 3 [] v (clNL ks)) = T at hg
        cases hg with
        | none => cases hT
        | leaf => cases hT
        | road => cases hT
        | fork v2 ls ks2 hl2 hk2 h2 hm =>
          cases hT
          have hi16 : i < 16 := by have := (List.getElem?_eq_some_iff.1 hi).1; omega
          have h1 : ls[i]? = some (ls[i]'(by omega)) := List.getElem?_eq_getElem _
          refine ⟨ls[i]'(by omega), h2 i _ _ h1 (by rw [clNL_map, List.getElem?_map, hi]; rfl), fun r hr => ?_⟩
          have := hB _ (List.mem_append_right _ (mem_cat (i := 0) h1 hr))
          simp only [List.length_cons] at this
          omega
      have hkm : ∀ k ∈ ks, ∃ l', Grows l' (clN k) ∧ ∀ r ∈ l', r.1.length ≤ 1000000 := fun k hk => by
        obtain ⟨i, hi⟩ := List.getElem?_of_mem hk
        exact hkk i k hi
      have hpl : ∀ k ∈ ks, k.path.length ≤ 1000000000 := fun k hk => by
        obtain ⟨l', h1, h2⟩ := hkm k hk
        have : k.path.length ≤ 1000000 := grows_path h1 1000000 h2
        omega
      cases p' with
      | nil =>
        simp only [List.length_nil] at hkl
        subst hkl
        exact put_fork_nil ka ua va kc _ uc vn vc v v' ks hl hvl hpl w hvb hk
      | cons x q =>
        have hx : x.toNat < 16 := hp' x List.mem_cons_self
        have h1 : ks[x.toNat]? = some (ks[x.toNat]'(by omega)) := List.getElem?_eq_getElem _
        obtain ⟨l', hgk, hBk⟩ := hkk _ _ h1
        have hpb := put_path hgk 1000000 hBk q v' (fun y hy => hp' y (List.mem_cons_of_mem _ hy)) (by simp only [List.length_cons] at hkl; omega)
        refine put_fork_cons ka ua va kn kc _ uc vn vc v v' x q ks hl hkl hk1 hvl rfl hp' (fun k hk2 => ?_) hpl ?_ w hv hkb hvb hk
        · obtain ⟨l2, a1, a2⟩ := hkm k hk2
          exact hks k hk2 l2 a1 a2
        · rw [clNL_map, List.getElem?_map, h1]
          simp only [Option.map_some, Option.getD_some]
          omega
end Go.Proofs.Ytcgpjceopnfahaa
