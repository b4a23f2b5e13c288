/- Putting into a tree is putting into its routes: plain Lean. -/
import Derived.Test.YtcgpjceopnfahaaPut1
set_option linter.unusedSimpArgs false
set_option linter.unusedVariables false
namespace Go.Proofs.Ytcgpjceopnfahaa
open Go.RowKit
instance decLt : ∀ p q : List UInt8, Decidable (ltP p q)
  | [], [] => isFalse (fun h => h)
  | [], _ :: _ => isTrue trivial
  | _ :: _, [] => isFalse (fun h => h)
  | x :: p, y :: q => by
    have := decLt p q
    unfold ltP
    infer_instance
def insR (r : Rt) : List Rt → List Rt
  | [] => [r]
  | s :: l => if ltP r.1 s.1 then r :: s :: l else s :: insR r l
/-- the routes with that value -/
def rputP (l : List Rt) (p v : List UInt8) : List Rt := if v = [] then l.filter (fun r => decide (r.1 ≠ p)) else insR (p, v) (l.filter (fun r => decide (r.1 ≠ p)))
theorem ltP_app (a p q : List UInt8) : ltP (a ++ p) (a ++ q) ↔ ltP p q := by
  induction a with
  | nil => exact Iff.rfl
  | cons x a ih =>
    refine ⟨fun h => ?_, fun h => .inr ⟨rfl, ih.2 h⟩⟩
    rcases h with h | h
    · omega
    · exact ih.1 h.2
theorem filter_pre (a : List UInt8) (l : List Rt) (p : List UInt8) : (pre a l).filter (fun r => decide (r.1 ≠ a ++ p)) = pre a (l.filter (fun r => decide (r.1 ≠ p))) := by
  unfold pre
  rw [List.filter_map]
  congr 1
  refine List.filter_congr (fun r _ => ?_)
  simp
theorem ins_pre (a p v : List UInt8) : ∀ l : List Rt, insR (a ++ p, v) (pre a l) = pre a (insR (p, v) l)
  | [] => rfl
  | s :: l => by
    show (if ltP (a ++ p) (a ++ s.1) then _ else _) = _
    rw [insR]
    by_cases h : ltP p s.1
    · rw [if_pos ((ltP_app a p s.1).2 h), if_pos h]; rfl
    · rw [if_neg (fun e => h ((ltP_app a p s.1).1 e)), if_neg h]
      show _ :: insR (a ++ p, v) (pre a l) = _
      rw [ins_pre a p v l]; rfl
theorem rput_pre (a : List UInt8) (l : List Rt) (p v : List UInt8) : rputP (pre a l) (a ++ p) v = pre a (rputP l p v) := by
  unfold rputP
  rw [filter_pre]
  split
  · rfl
  · rw [ins_pre]
theorem ins_left {r : Rt} : ∀ {A B : List Rt}, (∀ s ∈ B, ltP r.1 s.1) → insR r (A ++ B) = insR r A ++ B
  | [], [], _ => rfl
  | [], s :: B, h => by
    show (if ltP r.1 s.1 then _ else _) = _
    rw [if_pos (h s List.mem_cons_self)]; rfl
  | a :: A, B, h => by
    show (if ltP r.1 a.1 then _ else _) = (if ltP r.1 a.1 then _ else _) ++ B
    split
    · rfl
    · show a :: insR r (A ++ B) = _
      rw [ins_left h]; rfl
theorem ins_right {r : Rt} : ∀ {A B : List Rt}, (∀ s ∈ A, ¬ ltP r.1 s.1) → insR r (A ++ B) = A ++ insR r B
  | [], B, _ => rfl
  | a :: A, B, h => by
    show (if ltP r.1 a.1 then _ else _) = _
    rw [if_neg (h a List.mem_cons_self)]
    show a :: insR r (A ++ B) = _
    rw [ins_right (fun s hs => h s (List.mem_cons_of_mem _ hs))]; rfl
theorem filter_all {l : List Rt} {p : List UInt8} (h : ∀ r ∈ l, r.1 ≠ p) : l.filter (fun r => decide (r.1 ≠ p)) = l := by
  rw [List.filter_eq_self]
  intro r hr
  simpa using h r hr
theorem ofNat_ne {i : Nat} {x : UInt8} (hi : i < 256) (h : i ≠ x.toNat) : UInt8.ofNat i ≠ x := fun e => h (by rw [← e, ofNat_nat hi])
theorem rput_cat : ∀ (ls : List (List Rt)) (i : Nat) (x : UInt8) (p v : List UInt8), i ≤ x.toNat → x.toNat < i + ls.length → i + ls.length ≤ 256 → rputP (cat i ls) (x :: p) v = cat i (ls.set (x.toNat - i) (rputP (ls[x.toNat - i]?.getD []) p v))
  | [], i, x, p, v, h1, h2, _ => by simp at h2; omega
  | l :: ls, i, x, p, v, h1, h2, h3 => by
    simp only [List.length_cons] at h2 h3
    by_cases hi : i = x.toNat
    · have hx : UInt8.ofNat i = x := by rw [hi]; simp
      have h0 : x.toNat - i = 0 := by omega
      have hB : ∀ s ∈ cat (i + 1) ls, ltP (x :: p) s.1 := fun s hs => by
        obtain ⟨j, m, _, s', _, rfl⟩ := cat_mem hs
        have hj : j < ls.length := (List.getElem?_eq_some_iff.1 (by assumption)).1
        refine .inl ?_
        rw [ofNat_nat (by omega)]; omega
      have hF : (cat (i + 1) ls).filter (fun r => decide (r.1 ≠ x :: p)) = cat (i + 1) ls := filter_all (fun r hr e => by
        have := hB r hr
        rw [e] at this
        have hirr : ∀ q : List UInt8, ¬ ltP q q := fun q => by
          induction q with
          | nil => exact fun h => h
          | cons y q ih =>
            intro h
            rcases h with h | h
            · omega
            · exact ih h.2
        exact hirr _ this)
      rw [h0, List.set_cons_zero, List.getElem?_cons_zero, Option.getD_some, cat, cat, hx]
      unfold rputP
      rw [List.filter_append, hF]
      have hfp := filter_pre [x] l p
      simp only [List.singleton_append] at hfp
      rw [hfp]
      split
      · rfl
      · rw [ins_left hB]
        have := ins_pre [x] p v (l.filter (fun r => decide (r.1 ≠ p)))
        simp only [List.singleton_append] at this
        rw [this]
    · have h0 : x.toNat - i = (x.toNat - (i + 1)) + 1 := by omega
      have ih := rput_cat ls (i + 1) x p v (by omega) (by omega) (by omega)
      rw [h0, List.set_cons_succ, List.getElem?_cons_succ, cat, cat, ← ih]
      have hA : ∀ s ∈ pre [UInt8.ofNat i] l, ¬ ltP (x :: p) s.1 ∧ s.1 ≠ x :: p := fun s hs => by
        obtain ⟨r, _, rfl⟩ := pre_mem hs
        refine ⟨fun h => ?_, fun e => ?_⟩
        · rcases h with h | h
          · rw [ofNat_nat (by omega)] at h; omega
          · exact ofNat_ne (by omega) hi h.1.symm
        · exact ofNat_ne (by omega) hi (List.cons.inj e).1
      unfold rputP
      rw [List.filter_append, filter_all (fun r hr => (hA r hr).2)]
      split
      · rfl
      · rw [ins_right (fun s hs => (hA s hs).1)]
theorem rput_bd_nil (u v : List UInt8) (ls : List (List Rt)) : rputP (bdP u ls) [] v = bdP v ls := by
  have hne : ∀ s ∈ cat 0 ls, s.1 ≠ [] ∧ ltP [] s.1 := fun s hs => by
    obtain ⟨j, m, _, s', _, rfl⟩ := cat_mem hs
    exact ⟨by simp, trivial⟩
  have hf : (bdP u ls).filter (fun r => decide (r.1 ≠ [])) = cat 0 ls := by
    unfold bdP
    rw [List.filter_append, filter_all (fun r hr => (hne r hr).1)]
    split
    · rfl
    · simp
  unfold rputP
  rw [hf]
  split
  · rename_i h
    unfold bdP
    rw [if_pos h]; rfl
  · rename_i h
    have := ins_left (r := ([], v)) (A := []) (B := cat 0 ls) (fun s hs => (hne s hs).2)
    rw [List.nil_append] at this
    rw [this]
    unfold bdP
    rw [if_neg h]; rfl
theorem rput_bd_cons (u v : List UInt8) (ls : List (List Rt)) (hl : ls.length = 16) (x : UInt8) (hx : x.toNat < 16) (p : List UInt8) : rputP (bdP u ls) (x :: p) v = bdP u (ls.set x.toNat (rputP (ls[x.toNat]?.getD []) p v)) := by
  have hc := rput_cat ls 0 x p v (by omega) (by omega) (by omega)
  rw [Nat.sub_zero] at hc
  unfold bdP
  rw [← hc]
  by_cases hu : u = []
  · rw [if_pos hu, List.nil_append, List.nil_append]
  · rw [if_neg hu]
    unfold rputP
    rw [List.filter_append]
    have h1 : ([([], u)] : List Rt).filter (fun r => decide (r.1 ≠ x :: p)) = [([], u)] := filter_all (fun r hr => by rw [List.mem_singleton] at hr; subst hr; simp)
    rw [h1]
    split
    · rfl
    · rw [ins_right (fun s hs => by rw [List.mem_singleton] at hs; subst hs; exact fun h => h)]
theorem pre_bd (y : UInt8) (hy : y.toNat < 16) (q : List UInt8) (l : List Rt) : pre (y :: q) l = bdP [] ((List.replicate 16 []).set y.toNat (pre q l)) := by
  unfold bdP
  rw [if_pos rfl, List.nil_append, cat_one _ 0 y.toNat (pre q l) (by rw [List.getElem?_set_self (by simpa using hy)]) (fun m b hm hb => by
    rw [List.getElem?_set_ne (fun e => hm e.symm)] at hb
    exact (List.eq_of_mem_replicate (List.mem_of_getElem? hb))), pre_pre]
  simp
theorem rep_at {α : Type} {n i : Nat} {a b : α} (h : (List.replicate n a)[i]? = some b) : b = a := List.eq_of_mem_replicate (List.mem_of_getElem? h)
theorem rput_none (p v : List UInt8) (hv : v ≠ []) : rputP [] p v = [(p, v)] := by
  unfold rputP
  rw [if_neg hv]; rfl
theorem com_split {q p : List UInt8} {c : Nat} (hc : c = com q p) : q = q.take c ++ q.drop c ∧ p = q.take c ++ p.drop c ∧ com (q.drop c) (p.drop c) = 0 := by
  have h1 := com_take (p := q) (q := p) (c := c) (by omega)
  have e1 : q = q.take c ++ q.drop c := (List.take_append_drop c q).symm
  have e2 : p = q.take c ++ p.drop c := by rw [← h1.1]; exact (List.take_append_drop c p).symm
  refine ⟨e1, e2, ?_⟩
  have h2 := com_app (q.take c) (q.drop c) (p.drop c)
  rw [← e1, ← e2, List.length_take, ← hc] at h2
  have := h1.2.1
  omega
/-- two that go on unlike -/
theorem part_grows {la : List Rt} {a : Pn} (ha : Grows la a) (ha0 : a.kd ≠ 0) {q p v : List UInt8} (hq : nibs q) (hp : nibs p) (hv : v ≠ []) (c : Nat) (hc : c = com q p) (hcase : c < q.length ∨ (c = q.length ∧ c < p.length ∧ ∃ u, a = .mk 1 [] u [] ∧ la = [([], u)] ∧ u ≠ [])) :
    Grows (rputP (pre q la) p v) (partQ c q a p v) := by
  obtain ⟨e1, e2, h0⟩ := com_split hc
  have hcl := com_take (p := q) (q := p) (c := c) (by omega)
  have hh : nibs (q.take c) := fun x hx => hq x (List.mem_of_mem_take hx)
  have hqd : nibs (q.drop c) := fun x hx => hq x (List.mem_of_mem_drop hx)
  have hpd : nibs (p.drop c) := fun x hx => hp x (List.mem_of_mem_drop hx)
  have hlap : la ≠ [] := ha.ne ha0
  have hpre : rputP (pre q la) p v = pre (q.take c) (rputP (pre (q.drop c) la) (p.drop c) v) := by
    rw [← rput_pre, pre_pre, ← e1, ← e2]
  rw [hpre]
  unfold partQ
  refine Grows.behind ?_ hh
  have hrep : ∀ (i : Nat) (l : List Rt) (k : Pn), (List.replicate 16 ([] : List Rt))[i]? = some l → (List.replicate 16 nP)[i]? = some k → Grows l k := fun i l k h1 h2 => by
    rw [rep_at h1, rep_at h2]; exact .none
  have hset : ∀ {ls : List (List Rt)} {ks : List Pn} {j : Nat} {l0 : List Rt} {k0 : Pn}, (∀ (i : Nat) (l : List Rt) (k : Pn), ls[i]? = some l → ks[i]? = some k → Grows l k) → Grows l0 k0 → ∀ (i : Nat) (l : List Rt) (k : Pn), (ls.set j l0)[i]? = some l → (ks.set j k0)[i]? = some k → Grows l k := by
    intro ls ks j l0 k0 h hk i l k h1 h2
    by_cases hij : i = j
    · subst hij
      rw [List.getElem?_set] at h1 h2
      simp only [if_true] at h1 h2
      split at h1
      · split at h2
        · cases h1; cases h2; exact hk
        · cases h2
      · cases h1
    · rw [List.getElem?_set_ne (fun e => hij e.symm)] at h1 h2
      exact h i l k h1 h2
  have nat16 : ∀ {i : Nat}, i < 16 → (List.replicate 16 nP)[i]? = some nP := fun hi => by rw [List.getElem?_replicate, if_pos hi]
  cases hqc : q.drop c with
  | nil =>
    have hql : q.length ≤ c := by rw [← List.drop_eq_nil_iff]; exact hqc
    obtain ⟨_, hcp, u, rfl, rfl, hu⟩ := hcase.resolve_left (by omega)
    cases hpc : p.drop c with
    | nil =>
      have : p.length ≤ c := by rw [← List.drop_eq_nil_iff]; exact hpc
      omega
    | cons x r =>
      have hx : x.toNat < 16 := hpd x (by rw [hpc]; exact List.mem_cons_self)
      have hpx : p[c]? = some x := by
        have := congrArg (fun l => l[0]?) hpc
        simpa using this
      have hpr : p.drop (c + 1) = r := by rw [← List.drop_drop, hpc]; rfl
      have hr : nibs r := fun y hy => hpd y (by rw [hpc]; exact List.mem_cons_of_mem _ hy)
      rw [if_neg (by omega), if_neg (by omega), pre_nil, hpx, hpr]
      simp only [withQ, Pn.kd, if_pos, Pn.val, Option.getD_some]
      have hb : ([([], u)] : List Rt) = bdP u (List.replicate 16 []) := by unfold bdP; rw [if_neg hu, cat_rep]; rfl
      rw [hb, rput_bd_cons u v _ (by simp) x hx r]
      refine .fork u _ _ (by simp) (by simp) ?_ ?_
      · have h1 : (List.replicate 16 ([] : List Rt))[x.toNat]?.getD [] = [] := by rw [List.getElem?_replicate, if_pos hx]; rfl
        rw [h1, rput_none r v hv]
        exact hset hrep (.leaf r v hv hr)
      · rw [cnt_set (nat16 hx) rfl (by simp [Pn.kd]), cnt_rep]
        have : 0 < u.length := List.length_pos_iff.2 hu
        omega
  | cons y q2 =>
    have hy : y.toNat < 16 := hqd y (by rw [hqc]; exact List.mem_cons_self)
    have hq2 : nibs q2 := fun z hz => hqd z (by rw [hqc]; exact List.mem_cons_of_mem _ hz)
    have hk0 := ha.behind hq2
    have hk0n : (behindQ q2 a).kd ≠ 0 := hk0.kd0 (fun e => hlap (by cases la with | nil => rfl | cons _ _ => simp [pre] at e))
    rw [pre_bd y hy q2 la]
    have hkids := hset (j := y.toNat) hrep hk0
    cases hpc : p.drop c with
    | nil =>
      have hpl : p.length = c := by
        have h1 : p.length ≤ c := by rw [← List.drop_eq_nil_iff]; exact hpc
        have := hcl.2.2
        omega
      rw [if_pos hpl, if_pos hpl]
      simp only [withQ]
      rw [rput_bd_nil]
      refine .fork v _ _ (by simp) (by simp) hkids ?_
      rw [cnt_set (nat16 hy) rfl hk0n, cnt_rep]
      have : 0 < v.length := List.length_pos_iff.2 hv
      omega
    | cons x r =>
      have hx : x.toNat < 16 := hpd x (by rw [hpc]; exact List.mem_cons_self)
      have hpx : p[c]? = some x := by
        have := congrArg (fun l => l[0]?) hpc
        simpa using this
      have hpr : p.drop (c + 1) = r := by rw [← List.drop_drop, hpc]; rfl
      have hr : nibs r := fun z hz => hpd z (by rw [hpc]; exact List.mem_cons_of_mem _ hz)
      have hpl : ¬ p.length = c := fun e => by
        have : p.drop c = [] := by rw [List.drop_eq_nil_iff]; omega
        rw [this] at hpc; cases hpc
      have hxy : y ≠ x := fun e => by
        rw [hqc, hpc, e] at h0
        simp [com] at h0
      have hxyn : x.toNat ≠ y.toNat := fun e => hxy (UInt8.toNat_inj.1 e.symm)
      rw [if_neg hpl, if_neg hpl, hpx, hpr]
      simp only [withQ, Option.getD_some]
      rw [rput_bd_cons [] v _ (by simp) x hx r]
      refine .fork [] _ _ (by simp) (by simp) ?_ ?_
      · have h1 : ((List.replicate 16 ([] : List Rt)).set y.toNat (pre q2 la))[x.toNat]?.getD [] = [] := by rw [List.getElem?_set_ne (fun e => hxyn e.symm), List.getElem?_replicate, if_pos hx]; rfl
        rw [h1, rput_none r v hv]
        exact hset hkids (.leaf r v hv hr)
      · rw [cnt_set (a := nP) (by rw [List.getElem?_set_ne (fun e => hxyn e.symm)]; exact nat16 hx) rfl (by simp [Pn.kd]), cnt_set (nat16 hy) rfl hk0n, cnt_rep]
        simp
theorem com_whole {q p : List UInt8} (h : com q p = q.length) : p = q ++ p.drop q.length := by
  have := com_split (q := q) (p := p) (c := q.length) h.symm
  have e := this.2.1
  rw [List.take_length] at e
  exact e
/-- putting into what grows -/
theorem put_grows {l : List Rt} {t : Pn} (h : Grows l t) : ∀ (p v : List UInt8), nibs p → Grows (rputP l p v) (putQ t p v) := by
  have hmiss : ∀ {q p : List UInt8} {l : List Rt}, com q p < q.length → (pre q l).filter (fun r => decide (r.1 ≠ p)) = pre q l := fun {q p l} hc => filter_all (fun r hr e => by
    obtain ⟨s, _, rfl⟩ := pre_mem hr
    have h1 := com_app q [] s.1
    dsimp only at e
    rw [List.append_nil, e, com_nil] at h1
    omega)
  induction h with
  | none =>
    intro p v hp
    simp only [nP, putQ]
    by_cases hv : v = []
    · subst hv; exact .none
    · rw [rput_none p v hv]
      simp only [if_neg hv]
      exact .leaf p v hv hp
  | leaf q u hu hq =>
    intro p v hp
    simp only [putQ, if_true]
    have hl : [(q, u)] = pre q [([], u)] := by simp [pre]
    by_cases he : com q p = p.length ∧ com q p = q.length
    · rw [if_pos he]
      have hpq : p = q := by
        have h1 := com_whole he.2
        have h2 : p.drop q.length = [] := by rw [List.drop_eq_nil_iff]; omega
        rw [h2, List.append_nil] at h1; exact h1
      subst hpq
      by_cases hv : v = []
      · subst hv
        have : rputP [(p, u)] p [] = [] := by unfold rputP; simp
        rw [if_pos rfl, this]; exact .none
      · have : rputP [(p, u)] p v = [(p, v)] := by unfold rputP; simp [hv, insR]
        rw [if_neg hv, this]; exact .leaf p v hv hp
    · rw [if_neg he]
      have hne : q ≠ p := fun e => he (by subst e; have := com_app q [] []; simp only [List.append_nil, com_nil] at this; exact ⟨by omega, by omega⟩)
      have hle := com_le q p
      by_cases hv : v = []
      · subst hv
        have : rputP [(q, u)] p [] = [(q, u)] := by unfold rputP; simp [hne]
        rw [if_pos rfl, this]; exact .leaf q u hu hq
      · rw [if_neg hv, hl]
        refine part_grows (.leaf [] u hu (by intro x hx; simp at hx)) (by simp [Pn.kd]) hq hp hv _ rfl ?_
        by_cases hc : com q p < q.length
        · exact .inl hc
        · exact .inr ⟨by omega, by omega, u, rfl, rfl, hu⟩
  | road q l k hq0 hq h hk ih =>
    intro p v hp
    simp only [putQ]
    have hle := com_le q p
    by_cases hc : com q p = q.length
    · rw [if_neg (by decide), if_pos trivial, if_pos hc, putQL_set]
      have e := com_whole hc
      have hd : nibs (p.drop q.length) := fun x hx => hp x (List.mem_of_mem_drop hx)
      have h2 := (ih (p.drop q.length) v hd).behind hq
      rw [hc]
      rw [← rput_pre, ← e] at h2
      simpa using h2
    · rw [if_neg (by decide), if_pos trivial, if_neg hc]
      by_cases hv : v = []
      · subst hv
        have : rputP (pre q l) p [] = pre q l := by unfold rputP; rw [if_pos rfl, hmiss (by omega)]
        rw [if_pos rfl, this]; exact .road q l k hq0 hq h hk
      · rw [if_neg hv]
        exact part_grows (a := k) h (by omega) hq hp hv _ rfl (.inl (by omega))
  | fork u ls ks hl hk h hm ih =>
    intro p v hp
    simp only [putQ]
    rw [if_neg (by decide), if_neg (by decide), if_pos trivial]
    cases p with
    | nil => rw [rput_bd_nil]; exact tidy_grows hl hk h
    | cons x p =>
      have hx : x.toNat < 16 := hp x List.mem_cons_self
      have hp2 : nibs p := fun y hy => hp y (List.mem_cons_of_mem _ hy)
      dsimp only
      rw [rput_bd_cons u v ls hl x hx p, putQL_set]
      refine tidy_grows (by simp [hl]) (by simp [hk]) (fun i l k h1 h2 => ?_)
      by_cases hi : i = x.toNat
      · subst hi
        rw [List.getElem?_set_self (by omega)] at h1 h2
        cases h1; cases h2
        have a1 : ls[x.toNat]? = some (ls[x.toNat]'(by omega)) := List.getElem?_eq_getElem _
        have a2 : ks[x.toNat]? = some (ks[x.toNat]'(by omega)) := List.getElem?_eq_getElem _
        rw [a1, a2]
        exact ih _ _ _ a1 a2 p v hp2
      · rw [List.getElem?_set_ne (fun e => hi e.symm)] at h1 h2
        exact h i l k h1 h2
end Go.Proofs.Ytcgpjceopnfahaa
