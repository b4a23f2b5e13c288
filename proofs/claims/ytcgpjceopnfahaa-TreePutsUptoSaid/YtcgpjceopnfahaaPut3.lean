/- A right tree grows of its routes; what grows is what the reference's grown makes; routes in order: plain Lean. -/
import Derived.Test.YtcgpjceopnfahaaPut2
set_option linter.unusedSimpArgs false
set_option linter.unusedVariables false
namespace Go.Proofs.Ytcgpjceopnfahaa
open Go.RowKit
mutual
/-- a tree without what means nothing -/
def clN : Nd → Pn
  | .mk kd _ p _ v _ ks => if kd = 1 then .mk 1 p v [] else if kd = 2 then .mk 2 p [] (clNL ks) else if kd = 3 then .mk 3 [] v (clNL ks) else nP
def clNL : List Nd → List Pn
  | [] => []
  | k :: ks => clN k :: clNL ks
end
theorem clNL_map (ks : List Nd) : clNL ks = ks.map clN := by
  induction ks with
  | nil => rfl
  | cons k ks ih => simp [clNL, ih]
/-- two routes at least, and nothing in common -/
theorem fork_two (v : List UInt8) (ls : List (List Rt)) (ks : List Pn) (hl : ls.length = 16) (hk : ks.length = 16) (h : ∀ (i : Nat) (l : List Rt) (k : Pn), ls[i]? = some l → ks[i]? = some k → Grows l k) (hm : 2 ≤ min v.length 1 + cntQ ks) : 2 ≤ (bdP v ls).length ∧ fl (bdP v ls) = 0 := by
  have kid : ∀ (j : Nat) (k : Pn), ks[j]? = some k → k.kd ≠ 0 → ∃ l, ls[j]? = some l ∧ l ≠ [] := fun j k hj hk0 => by
    have hj16 : j < 16 := by have := (List.getElem?_eq_some_iff.1 hj).1; omega
    have a1 : ls[j]? = some (ls[j]'(by omega)) := List.getElem?_eq_getElem _
    exact ⟨_, a1, (h j _ k a1 hj).ne hk0⟩
  have len : ∀ (l : List Rt), l ≠ [] → 1 ≤ l.length := fun l hl => List.length_pos_iff.2 hl
  have catlen : ∀ (ls : List (List Rt)) (i j : Nat) (l : List Rt), ls[j]? = some l → l.length ≤ (cat i ls).length := by
    intro ls
    induction ls with
    | nil => intro i j l h; simp at h
    | cons a ls ih =>
      intro i j l h
      rw [cat, List.length_append, pre_len]
      cases j with
      | zero => simp only [List.getElem?_cons_zero, Option.some.injEq] at h; subst h; omega
      | succ j => have := ih (i + 1) j l h; omega
  have catlen2 : ∀ (ls : List (List Rt)) (i j k : Nat) (l l' : List Rt), j < k → ls[j]? = some l → ls[k]? = some l' → l.length + l'.length ≤ (cat i ls).length := by
    intro ls
    induction ls with
    | nil => intro i j k l l' _ h; simp at h
    | cons a ls ih =>
      intro i j k l l' hjk h h'
      rw [cat, List.length_append, pre_len]
      cases k with
      | zero => omega
      | succ k =>
        cases j with
        | zero =>
          simp only [List.getElem?_cons_zero, Option.some.injEq] at h; subst h
          have := catlen ls (i + 1) k l' h'
          omega
        | succ j => have := ih (i + 1) j k l l' (by omega) h h'; omega
  by_cases hv : v = []
  · subst hv
    obtain ⟨i, j, a, b, hij, h1, h2, h3, h4⟩ := cnt_two (ks := ks) (by simpa using hm)
    obtain ⟨la, l1, l2⟩ := kid i a h1 h2
    obtain ⟨lb, l3, l4⟩ := kid j b h3 h4
    have hc := catlen2 ls 0 i j la lb hij l1 l3
    have := len la l2
    have := len lb l4
    have hb : bdP [] ls = cat 0 ls := by unfold bdP; rw [if_pos rfl, List.nil_append]
    rw [hb]
    exact ⟨by omega, cat_fl (by omega) hij l1 l2 l3 l4⟩
  · refine ⟨?_, fl_bd hv⟩
    have hv1 : min v.length 1 = 1 := by have : 0 < v.length := List.length_pos_iff.2 hv; omega
    obtain ⟨j, k, h1, h2⟩ := cnt_one (ks := ks) (by omega)
    obtain ⟨l, l1, l2⟩ := kid j k h1 h2
    have := catlen ls 0 j l l1
    have := len l l2
    unfold bdP
    rw [if_neg hv, List.length_append, List.length_singleton]
    omega
theorem grows_grw {l : List Rt} {t : Pn} (h : Grows l t) : ∀ m, (∀ r ∈ l, r.1.length < m) → grw m l = t := by
  induction h with
  | none => intro m _; exact grw_nil m
  | leaf p v hv hp =>
    intro m hm
    have := hm (p, v) (List.mem_singleton.2 rfl)
    cases m with
    | zero => simp at this
    | succ m => rfl
  | road p l k hp hn h hk ih =>
    intro m hm
    cases h with
    | none => simp [nP, Pn.kd] at hk
    | leaf q u hu hq => simp [Pn.kd] at hk
    | road q l2 k2 hq hn2 h2 hk2 => simp [Pn.kd] at hk
    | fork v ls ks hl hk3 h3 hm2 =>
      have hne : bdP v ls ≠ [] := (Grows.fork v ls ks hl hk3 h3 hm2).ne (by simp [Pn.kd])
      obtain ⟨h2, h0⟩ := fork_two v ls ks hl hk3 h3 hm2
      have hpl : 0 < p.length := List.length_pos_iff.2 hp
      cases m with
      | zero =>
        obtain ⟨r, hr⟩ := List.exists_mem_of_ne_nil _ hne
        have := hm _ (mem_pre hr)
        omega
      | succ m =>
        have hf : fl (pre p (bdP v ls)) = p.length := by rw [fl_pre p _ hne, h0, Nat.add_zero]
        rw [grw_two m _ (by rw [pre_len]; exact h2), hf, if_pos hpl, shorter_pre]
        have hh : (hdP (pre p (bdP v ls))).1.take p.length = p := by
          cases hb : bdP v ls with
          | nil => exact absurd hb hne
          | cons r l => simp [pre, hdP]
        rw [hh, ih m (fun r hr => by
          have := hm _ (mem_pre (p := p) hr)
          simp only [List.length_append] at this
          omega)]
  | fork v ls ks hl hk h hm ih =>
    intro m hlt
    have hne : bdP v ls ≠ [] := (Grows.fork v ls ks hl hk h hm).ne (by simp [Pn.kd])
    obtain ⟨h2, h0⟩ := fork_two v ls ks hl hk h hm
    cases m with
    | zero =>
      obtain ⟨r, hr⟩ := List.exists_mem_of_ne_nil _ hne
      have := hlt _ hr
      omega
    | succ m =>
      obtain ⟨e1, e2⟩ := bd_kid hne
      rw [grw_two m _ h2, h0, if_neg (by omega), e1, e2]
      congr 1
      refine List.ext_getElem? fun i => ?_
      by_cases hi : i < 16
      · have a1 : ls[i]? = some (ls[i]'(by omega)) := List.getElem?_eq_getElem _
        have a2 : ks[i]? = some (ks[i]'(by omega)) := List.getElem?_eq_getElem _
        rw [List.getElem?_map, List.getElem?_range hi, Option.map_some, part_bd hl, a1, a2, Option.getD_some, ih i _ _ a1 a2 m (fun r hr => ?_)]
        have hmem := mem_cat (i := 0) a1 hr
        have := hlt (UInt8.ofNat (0 + i) :: r.1, r.2) (by unfold bdP; exact List.mem_append_right _ hmem)
        simp only [List.length_cons] at this
        omega
      · rw [List.getElem?_eq_none (by simp; omega), List.getElem?_eq_none (by omega)]
/-- a right tree grows of its routes -/
theorem rgt_grows : ∀ (n : Nat) (t : Nd), SizeOf.sizeOf t ≤ n → ∀ d, rgt d t = true → ∃ l, rts t = some l ∧ Grows l (clN t) := by
  intro n
  induction n with
  | zero => intro t h; obtain ⟨kd, pv, p, vv, v, kv, ks⟩ := t; simp at h
  | succ n ih =>
    intro t hs d hr
    obtain ⟨kd, pv, p, vv, v, kv, ks⟩ := t
    have hkid : ∀ k ∈ ks, ∀ d, rgt d k = true → ∃ l, rts k = some l ∧ Grows l (clN k) := fun k hk d hd => ih k (by
      have := List.sizeOf_lt_of_mem hk
      simp only [Nd.mk.sizeOf_spec] at hs
      omega) d hd
    have hnib : half p = true → nibs p := fun hp x hx => by
      unfold half at hp
      rw [List.all_eq_true] at hp
      have := hp x hx
      simp only [decide_eq_true_eq] at this
      omega
    unfold rgt at hr
    by_cases h0 : kd = 0
    · subst h0
      exact ⟨[], by unfold rts; simp, by unfold clN; exact .none⟩
    · rw [if_neg h0] at hr
      by_cases h1 : kd = 1
      · subst h1
        simp only [if_true, Bool.and_eq_true, decide_eq_true_eq] at hr
        obtain ⟨⟨⟨hp, _⟩, hv⟩, _⟩ := hr
        refine ⟨[(p, v)], by unfold rts; simp [hp], ?_⟩
        unfold clN
        rw [if_pos rfl]
        exact .leaf p v (List.length_pos_iff.1 hv) (hnib hp)
      · rw [if_neg h1] at hr
        by_cases h2 : kd = 2
        · subst h2
          simp only [if_true, Bool.and_eq_true, decide_eq_true_eq] at hr
          obtain ⟨⟨⟨⟨hp0, hp⟩, hk1⟩, hk3⟩, hrk⟩ := hr
          match ks, hk1 with
          | [k], _ =>
            simp only [rgtL, Bool.and_true] at hrk
            obtain ⟨l, hl, hg⟩ := hkid k (List.mem_singleton.2 rfl) _ hrk
            simp only [List.getElem?_cons_zero, Option.map_some, Option.getD_some] at hk3
            refine ⟨pre p l, by unfold rts; simp [hp, rtsL, hl], ?_⟩
            unfold clN
            rw [if_neg (by decide), if_pos rfl]
            simp only [clNL]
            refine .road p l _ (List.length_pos_iff.1 hp0) (hnib hp) hg ?_
            obtain ⟨kd2, _, _, _, _, _, _⟩ := k
            change kd2 = 3 at hk3
            subst hk3
            unfold clN; rfl
        · rw [if_neg h2] at hr
          by_cases h3 : kd = 3
          · subst h3
            simp only [if_true, Bool.and_eq_true, decide_eq_true_eq] at hr
            obtain ⟨⟨⟨⟨hk16, _⟩, _⟩, hrk⟩, hm⟩ := hr
            have hall := (rgtL_iff (d + 1)).1 hrk
            obtain ⟨ls, hls⟩ := rtsL_all (ks := ks) (fun k hk => by obtain ⟨l, hl, _⟩ := hkid k hk _ (hall k hk); exact ⟨l, hl⟩)
            obtain ⟨hlen, hat⟩ := rtsL_at hls
            refine ⟨bdP v ls, by unfold rts; simp [hk16, hls, bdP], ?_⟩
            unfold clN
            rw [if_neg (by decide), if_neg (by decide), if_pos rfl, clNL_map]
            refine .fork v ls _ (by omega) (by simp [hk16]) (fun i l k hi hk => ?_) ?_
            · rw [List.getElem?_map] at hk
              cases hki : ks[i]? with
              | none => rw [hki] at hk; cases hk
              | some k0 =>
                rw [hki] at hk
                cases hk
                obtain ⟨l', h1', h2'⟩ := hat i k0 hki
                rw [hi] at h1'
                cases h1'
                obtain ⟨l2, hl2, hg⟩ := hkid k0 (List.mem_of_getElem? hki) _ (hall k0 (List.mem_of_getElem? hki))
                rw [h2'] at hl2
                cases hl2
                exact hg
            · have hcnt : ∀ ks : List Nd, (∀ k ∈ ks, k.kd = 0 ∨ k.kd = 1 ∨ k.kd = 2 ∨ k.kd = 3) → cntQ (ks.map clN) = manyP ks := by
                intro ks
                induction ks with
                | nil => intro _; rfl
                | cons k ks ih =>
                  intro h
                  rw [List.map_cons, cntQ, manyP, ih (fun x hx => h x (List.mem_cons_of_mem _ hx))]
                  congr 1
                  obtain ⟨kd2, _, _, _, _, _, _⟩ := k
                  have := h _ List.mem_cons_self
                  simp only [Nd.kd] at this ⊢
                  unfold clN
                  rcases this with rfl | rfl | rfl | rfl <;> rfl
              rw [hcnt ks (fun k hk => by
                have := hall k hk
                obtain ⟨kd2, _, _, _, _, _, _⟩ := k
                simp only [Nd.kd]
                unfold rgt at this
                by_cases a0 : kd2 = 0
                · exact .inl a0
                · by_cases a1 : kd2 = 1
                  · exact .inr (.inl a1)
                  · by_cases a2 : kd2 = 2
                    · exact .inr (.inr (.inl a2))
                    · by_cases a3 : kd2 = 3
                      · exact .inr (.inr (.inr a3))
                      · rw [if_neg a0, if_neg a1, if_neg a2, if_neg a3] at this; cases this)]
              exact hm
          · rw [if_neg h3] at hr; cases hr
end Go.Proofs.Ytcgpjceopnfahaa
