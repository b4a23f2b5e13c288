/- Routes stand in order; what grown asks of a list: plain Lean. -/
import Derived.Test.YtnhbfnegpjkojaaTree3
set_option linter.unusedSimpArgs false
set_option linter.unusedVariables false
namespace Go.Proofs.Ytnhbfnegpjkojaa
open Go.RowKit
def ltP : List UInt8 → List UInt8 → Prop
  | [], [] => False
  | [], _ :: _ => True
  | _ :: _, [] => False
  | x :: p, y :: q => x.toNat < y.toNat ∨ (x = y ∧ ltP p q)
def leP (p q : List UInt8) : Prop := p = q ∨ ltP p q
theorem ltP_pre (a : List UInt8) {p q : List UInt8} (h : ltP p q) : ltP (a ++ p) (a ++ q) := by
  induction a with
  | nil => exact h
  | cons x a ih => exact .inr ⟨rfl, ih⟩
theorem com_mid : ∀ {a b c : List UInt8}, leP a b → leP b c → com a c ≤ com a b
  | [], b, c, _, _ => by rw [com_nil]; omega
  | x :: a, [], c, h, _ => by rcases h with h | h; simp at h; exact h.elim
  | x :: a, y :: b, [], _, h => by rcases h with h | h; simp at h; exact h.elim
  | x :: a, y :: b, z :: c, h1, h2 => by
    by_cases hxz : x = z
    · subst hxz
      have hxy : x = y := by
        apply UInt8.toNat_inj.1
        rcases h1 with h1 | h1 | h1
        · rw [(List.cons.inj h1).1]
        · rcases h2 with h2 | h2 | h2
          · rw [(List.cons.inj h2).1] at h1; omega
          · omega
          · rw [h2.1] at h1; omega
        · rw [h1.1]
      subst hxy
      have h1' : leP a b := by
        rcases h1 with h1 | h1 | h1
        · exact .inl (List.cons.inj h1).2
        · omega
        · exact .inr h1.2
      have h2' : leP b c := by
        rcases h2 with h2 | h2 | h2
        · exact .inl (List.cons.inj h2).2
        · omega
        · exact .inr h2.2
      have := com_mid h1' h2'
      simp only [com, if_pos]
      omega
    · unfold com
      rw [if_neg hxz]
      omega
theorem ltP_drop : ∀ (c : Nat) {p q : List UInt8}, ltP p q → c ≤ com p q → ltP (p.drop c) (q.drop c)
  | 0, p, q, h, _ => h
  | c + 1, [], q, _, h => by rw [com_nil] at h; omega
  | c + 1, x :: p, [], h, _ => h.elim
  | c + 1, x :: p, y :: q, h, hc => by
    unfold com at hc
    split at hc
    · rename_i e
      subst e
      rcases h with h | h
      · omega
      · exact ltP_drop c h.2 (by omega)
    · omega
theorem ltP_ne {p q : List UInt8} (h : ltP p q) : q ≠ [] := by
  intro e; subst e
  cases p <;> exact h.elim
theorem ltP_trans : ∀ {a b c : List UInt8}, ltP a b → ltP b c → ltP a c
  | [], b, [], _, h2 => absurd rfl (ltP_ne h2)
  | [], _, _ :: _, _, _ => trivial
  | x :: a, [], _, h, _ => h.elim
  | x :: a, y :: b, [], _, h => h.elim
  | x :: a, y :: b, z :: c, h1, h2 => by
    rcases h1 with h1 | h1
    · rcases h2 with h2 | h2
      · left; omega
      · left; rw [← h2.1]; exact h1
    · rcases h2 with h2 | h2
      · left; rw [h1.1]; exact h2
      · right; exact ⟨h1.1.trans h2.1, ltP_trans h1.2 h2.2⟩
def Ord (l : List Rt) : Prop := l.Pairwise fun r s => ltP r.1 s.1
theorem ord_pre (p : List UInt8) {l : List Rt} (h : Ord l) : Ord (pre p l) := by
  unfold Ord pre
  rw [List.pairwise_map]
  exact h.imp fun h => ltP_pre p h
theorem ord_cat {ls : List (List Rt)} : ∀ {i : Nat}, i + ls.length ≤ 256 → (∀ l ∈ ls, Ord l) → Ord (cat i ls) := by
  induction ls with
  | nil => intro i _ _; exact List.Pairwise.nil
  | cons l ls ih =>
    intro i hi h
    simp only [List.length_cons] at hi
    unfold Ord cat
    rw [List.pairwise_append]
    refine ⟨ord_pre _ (h l List.mem_cons_self), ih (by omega) (fun m hm => h m (List.mem_cons_of_mem _ hm)), ?_⟩
    intro r hr s hs
    obtain ⟨r', _, rfl⟩ := pre_mem hr
    obtain ⟨j, m, hj, s', _, rfl⟩ := cat_mem hs
    have hj1 := (List.getElem?_eq_some_iff.1 hj).1
    left
    rw [ofNat_nat (by omega), ofNat_nat (by omega)]
    omega
theorem ord_rts : ∀ (n : Nat) (t : Nd), SizeOf.sizeOf t ≤ n → ∀ l, rts t = some l → Ord l
  | 0, .mk kd pv p vv v kv ks, h, l, _ => by simp at h
  | n + 1, .mk kd pv p vv v kv ks, h, l, hr => by
    have hks : ∀ k ∈ ks, ∀ l, rts k = some l → Ord l := by
      intro k hk
      have := List.sizeOf_lt_of_mem hk
      simp only [Nd.mk.sizeOf_spec] at h
      exact ord_rts n k (by omega)
    unfold rts at hr
    split at hr
    · simp at hr
    · split at hr
      · simp only [Option.some.injEq] at hr; subst hr; exact List.Pairwise.nil
      · split at hr
        · simp only [Option.some.injEq] at hr; subst hr; exact List.pairwise_singleton _ _
        · split at hr
          · rename_i hc
            obtain ⟨k, rfl⟩ := List.length_eq_one_iff.1 hc.2
            cases hk : rts k with
            | none => simp [rtsL, hk] at hr
            | some m =>
              simp only [rtsL, hk, Option.map_some, List.flatten_cons, List.flatten_nil, List.append_nil, Option.some.injEq] at hr
              subst hr
              exact ord_pre p (hks k (List.mem_singleton.2 rfl) m hk)
          · split at hr
            · rename_i hc
              cases hls : rtsL ks with
              | none => rw [hls] at hr; simp at hr
              | some ls =>
                rw [hls] at hr
                simp only [Option.map_some, Option.some.injEq] at hr
                subst hr
                obtain ⟨hll, hat⟩ := rtsL_at hls
                have hc2 : Ord (cat 0 ls) := by
                  refine ord_cat (by omega) (fun m hm => ?_)
                  obtain ⟨i, hi⟩ := List.getElem?_of_mem hm
                  have hi1 := (List.getElem?_eq_some_iff.1 hi).1
                  obtain ⟨m', hm', hk⟩ := hat i (ks[i]'(by omega)) (List.getElem?_eq_getElem (by omega))
                  rw [hi] at hm'
                  cases hm'
                  exact hks _ (List.getElem_mem _) m hk
                unfold Ord
                rw [List.pairwise_append]
                refine ⟨by split; exact List.Pairwise.nil; exact List.pairwise_singleton _ _, hc2, ?_⟩
                intro r hr s hs
                split at hr
                · simp at hr
                · rw [List.mem_singleton] at hr
                  subst hr
                  obtain ⟨j, m, hj, s', _, rfl⟩ := cat_mem hs
                  exact trivial
            · simp at hr
def bodyP (l : List Rt) : List Rt := if (hdP l).1 = [] then l.tail else l
/-- what grown asks of a list -/
def OkR : Nat → List Rt → Prop
  | 0, l => l = []
  | n + 1, l => l.length ≤ 1 ∨ (0 < fl l ∧ (∀ r ∈ l, fl l ≤ r.1.length) ∧ OkR n (shorterP (fl l) l)) ∨ (fl l = 0 ∧ (∀ r ∈ bodyP l, r.1 ≠ []) ∧ ∀ i < 16, OkR n (shorterP 1 (partP i (bodyP l))))
theorem ord_fl {l : List Rt} (h : Ord l) : ∀ r ∈ l, leP (hdP l).1 r.1 ∧ leP r.1 ((l.getLast?.map (·.1)).getD []) := by
  intro r hr
  cases l with
  | nil => simp at hr
  | cons a l =>
    constructor
    · rcases List.mem_cons.1 hr with rfl | hr
      · exact .inl rfl
      · exact .inr ((List.pairwise_cons.1 h).1 r hr)
    · rw [List.getLast?_eq_some_getLast (by simp)]
      have h2 : (a :: l) = (a :: l).dropLast ++ [(a :: l).getLast (by simp)] := (List.dropLast_concat_getLast (by simp)).symm
      unfold Ord at h
      rw [h2, List.pairwise_append] at h
      rw [h2, List.mem_append, List.mem_singleton] at hr
      rcases hr with hr | hr
      · exact .inr (h.2.2 r hr _ (List.mem_singleton.2 rfl))
      · rw [hr]; exact .inl rfl
theorem ord_shorter {l : List Rt} (c : Nat) (h : Ord l) (hc : ∀ r ∈ l, ∀ s ∈ l, ltP r.1 s.1 → c ≤ com r.1 s.1) : Ord (shorterP c l) := by
  unfold Ord shorterP
  rw [List.pairwise_map]
  refine List.Pairwise.imp_of_mem (fun {r s} hr hs h => ?_) h
  exact ltP_drop c h (hc r hr s hs h)
theorem hd_mem {l : List Rt} (h : l ≠ []) : hdP l ∈ l := by
  cases l with
  | nil => exact absurd rfl h
  | cons a l => exact List.mem_cons_self
theorem com_take {p q : List UInt8} {c : Nat} (h : c ≤ com p q) : q.take c = p.take c ∧ c ≤ p.length ∧ c ≤ q.length := by
  have hl := com_le p q
  refine ⟨?_, by omega, by omega⟩
  apply List.ext_getElem
  · simp; omega
  · intro k h1 h2
    simp only [List.length_take] at h1 h2
    rw [List.getElem_take, List.getElem_take]
    exact (com_same p q k (by omega)).symm
theorem com_of_take {p q : List UInt8} : ∀ {c : Nat}, c ≤ p.length → c ≤ q.length → p.take c = q.take c → c ≤ com p q := by
  induction p generalizing q with
  | nil => intro c h1 _ _; simp at h1; omega
  | cons x p ih =>
    intro c h1 h2 h
    cases q with
    | nil => simp at h2; omega
    | cons y q =>
      cases c with
      | zero => omega
      | succ c =>
        simp only [List.take_succ_cons, List.cons.injEq] at h
        unfold com
        rw [if_pos h.1]
        have := ih (q := q) (c := c) (by simpa using h1) (by simpa using h2) h.2
        omega
theorem ord_ok : ∀ (m : Nat) (l : List Rt), Ord l → (∀ r ∈ l, r.1.length < m) → OkR m l
  | 0, l, _, h => by
    cases l with
    | nil => rfl
    | cons a l => have := h a List.mem_cons_self; omega
  | m + 1, l, ho, h => by
    unfold OkR
    by_cases h1 : l.length ≤ 1
    · exact .inl h1
    · right
      have hne : l ≠ [] := fun e => by rw [e] at h1; simp at h1
      have hord := ord_fl ho
      have hfle : ∀ r ∈ l, fl l ≤ com (hdP l).1 r.1 := by
        intro r hr
        have h2 := com_mid (hord r hr).1 (hord r hr).2
        have : fl l = com (hdP l).1 ((l.getLast?.map (·.1)).getD []) := by
          cases l with
          | nil => exact absurd rfl hne
          | cons a l => rfl
        omega
      rcases Nat.eq_zero_or_pos (fl l) with h0 | h0
      · right
        have hb : ∀ r ∈ bodyP l, r.1 ≠ [] ∧ r ∈ l := by
          intro r hr
          unfold bodyP at hr
          cases l with
          | nil => exact absurd rfl hne
          | cons a l =>
            split at hr
            · exact ⟨ltP_ne ((List.pairwise_cons.1 ho).1 r hr), List.mem_cons_of_mem _ hr⟩
            · rename_i ha
              refine ⟨?_, hr⟩
              rcases List.mem_cons.1 hr with rfl | hr
              · exact ha
              · exact ltP_ne ((List.pairwise_cons.1 ho).1 r hr)
        refine ⟨h0, fun r hr => (hb r hr).1, fun i hi => ?_⟩
        have hsub : (bodyP l).Sublist l := by unfold bodyP; split; exact List.tail_sublist l; exact List.Sublist.refl _
        have hop : Ord (partP i (bodyP l)) := (List.Pairwise.sublist (List.filter_sublist.trans hsub) ho)
        have hmem : ∀ r ∈ partP i (bodyP l), r ∈ bodyP l ∧ (r.1[0]?.getD 0).toNat = i := by
          intro r hr
          unfold partP at hr
          have := List.mem_filter.1 hr
          exact ⟨this.1, of_decide_eq_true this.2⟩
        refine ord_ok m _ (ord_shorter 1 hop (fun r hr s hs _ => ?_)) (fun r hr => ?_)
        · obtain ⟨r1, r2⟩ := hmem r hr
          obtain ⟨s1, s2⟩ := hmem s hs
          have hr3 := (hb r r1).1
          have hs3 := (hb s s1).1
          obtain ⟨x, p, hx⟩ : ∃ x p, r.1 = x :: p := by cases hh : r.1 with | nil => exact absurd hh hr3 | cons x p => exact ⟨x, p, rfl⟩
          obtain ⟨y, q, hy⟩ : ∃ x p, s.1 = x :: p := by cases hh : s.1 with | nil => exact absurd hh hs3 | cons x p => exact ⟨x, p, rfl⟩
          rw [hx] at r2
          rw [hy] at s2
          simp only [List.getElem?_cons_zero, Option.getD_some] at r2 s2
          have : x = y := UInt8.toNat_inj.1 (r2.trans s2.symm)
          rw [hx, hy, this]
          unfold com
          rw [if_pos rfl]
          omega
        · unfold shorterP at hr
          obtain ⟨s, hs, rfl⟩ := List.mem_map.1 hr
          obtain ⟨s1, _⟩ := hmem s hs
          have h3 := h s (hb s s1).2
          have h4 := (hb s s1).1
          have : 0 < s.1.length := List.length_pos_iff.2 h4
          simp only [List.length_drop]
          omega
      · left
        have hlen : ∀ r ∈ l, fl l ≤ r.1.length := fun r hr => by have := hfle r hr; have := com_le (hdP l).1 r.1; omega
        refine ⟨h0, hlen, ord_ok m _ (ord_shorter _ ho (fun r hr s hs _ => ?_)) (fun r hr => ?_)⟩
        · obtain ⟨a1, a2, a3⟩ := com_take (hfle r hr)
          obtain ⟨b1, b2, b3⟩ := com_take (hfle s hs)
          exact com_of_take a3 b3 (a1.trans b1.symm)
        · unfold shorterP at hr
          obtain ⟨s, hs, rfl⟩ := List.mem_map.1 hr
          have h3 := h s hs
          have h4 := hlen s hs
          simp only [List.length_drop]
          omega
end Go.Proofs.Ytnhbfnegpjkojaa
