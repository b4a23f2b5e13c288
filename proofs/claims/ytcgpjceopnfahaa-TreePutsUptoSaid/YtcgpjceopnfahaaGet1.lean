/- The value of a key in a right tree: plain Lean. -/
import Derived.Test.YtcgpjceopnfahaaTreeP
set_option linter.unusedSimpArgs false
set_option linter.unusedVariables false
namespace Go.Proofs.Ytcgpjceopnfahaa
open Go.RowKit
mutual
def getP : Nd → List UInt8 → List UInt8
  | .mk kd _ p _ v _ ks, q =>
    if kd = 1 then (if p = q then v else [])
    else if kd = 2 then (if com p q = p.length then getL ks 0 (q.drop p.length) else [])
    else if kd = 3 then (match q with
      | [] => v
      | x :: q => getL ks x.toNat q)
    else []
def getL : List Nd → Nat → List UInt8 → List UInt8
  | [], _, _ => []
  | k :: _, 0, q => getP k q
  | _ :: ks, i + 1, q => getL ks i q
end
theorem getL_at : ∀ {ks : List Nd} {i : Nat} {k : Nd} {q : List UInt8}, ks[i]? = some k → getL ks i q = getP k q
  | [], i, k, q, h => by simp at h
  | a :: ks, 0, k, q, h => by simp only [List.getElem?_cons_zero, Option.some.injEq] at h; subst h; rfl
  | a :: ks, i + 1, k, q, h => by simp only [List.getElem?_cons_succ] at h; unfold getL; exact getL_at h
def fd (l : List Rt) (q : List UInt8) : Option (List UInt8) := (l.find? fun r => r.1 == q).map (·.2)
theorem fd_app (l m : List Rt) (q : List UInt8) : fd (l ++ m) q = (fd l q).or (fd m q) := by
  unfold fd
  rw [List.find?_append]
  cases l.find? fun r => r.1 == q <;> rfl
theorem fd_pre (p : List UInt8) (l : List Rt) (q : List UInt8) : fd (pre p l) (p ++ q) = fd l q := by
  induction l with
  | nil => rfl
  | cons r l ih =>
    unfold fd at ih ⊢
    simp only [pre, List.map_cons, List.find?_cons]
    by_cases h : r.1 = q
    · have h1 : (r.1 == q) = true := by rw [beq_iff_eq]; exact h
      have h2 : (p ++ r.1 == p ++ q) = true := by rw [beq_iff_eq, h]
      rw [h1, h2]; rfl
    · have h1 : (r.1 == q) = false := by rw [beq_eq_false_iff_ne]; exact h
      have h2 : (p ++ r.1 == p ++ q) = false := by rw [beq_eq_false_iff_ne]; exact fun e => h (List.append_cancel_left e)
      rw [h1, h2]; exact ih
theorem fd_none {l : List Rt} {q : List UInt8} (h : ∀ r ∈ l, r.1 ≠ q) : fd l q = none := by
  unfold fd
  have : (l.find? fun r => r.1 == q) = none := by
    rw [List.find?_eq_none]
    intro r hr
    simpa using h r hr
  rw [this]; rfl
theorem fd_cat {ls : List (List Rt)} : ∀ {i : Nat} (x : UInt8) (q : List UInt8), i + ls.length ≤ 256 → i ≤ x.toNat → fd (cat i ls) (x :: q) = fd (ls[x.toNat - i]?.getD []) q := by
  induction ls with
  | nil => intro i x q _ _; simp [cat, fd]
  | cons l ls ih =>
    intro i x q hi hx
    simp only [List.length_cons] at hi
    rw [cat, fd_app]
    by_cases h : i = x.toNat
    · have hxe : UInt8.ofNat i = x := by rw [h]; simp
      have h0 : x.toNat - i = 0 := by omega
      rw [h0, hxe]
      have h1 : fd (cat (i + 1) ls) (x :: q) = none := fd_none (fun r hr => by
        obtain ⟨j, m, hj, s, _, rfl⟩ := cat_mem hr
        have hj1 := (List.getElem?_eq_some_iff.1 hj).1
        intro e
        have := congrArg UInt8.toNat (List.cons.inj e).1
        rw [ofNat_nat (by omega)] at this
        omega)
      have h2 := fd_pre [x] l q
      change fd (pre [x] l) (x :: q) = fd l q at h2
      rw [h1, h2]
      simp
    · have h1 : fd (pre [UInt8.ofNat i] l) (x :: q) = none := fd_none (fun r hr => by
        obtain ⟨s, _, rfl⟩ := pre_mem hr
        intro e
        have := congrArg UInt8.toNat (List.cons.inj e).1
        rw [ofNat_nat (by omega)] at this
        omega)
      rw [h1, ih x q (by omega) (by omega)]
      have h2 : x.toNat - i = (x.toNat - (i + 1)) + 1 := by omega
      rw [h2]
      simp
theorem com_full {p q : List UInt8} (h : com p q = p.length) : q = p ++ q.drop p.length := by
  obtain ⟨h1, _, _⟩ := com_take (p := p) (q := q) (c := p.length) (by omega)
  rw [List.take_length] at h1
  conv => lhs; rw [← List.take_append_drop p.length q]
  rw [h1]
theorem com_pre_eq (p s : List UInt8) : com p (p ++ s) = p.length := by
  have := com_app p [] s
  rw [List.append_nil, com_nil] at this
  exact this
theorem get_rts : ∀ (n : Nat) (t : Nd), SizeOf.sizeOf t ≤ n → ∀ d, rgt d t = true → ∀ l, rts t = some l → ∀ q : List UInt8, (∀ x ∈ q, x.toNat < 16) → getP t q = (fd l q).getD []
  | 0, .mk kd pv p vv v kv ks, h, d, _, l, _, q, _ => by simp at h
  | n + 1, .mk kd pv p vv v kv ks, h, d, hr, l, hl, q, hq => by
    have hks : ∀ k ∈ ks, SizeOf.sizeOf k ≤ n := by
      intro k hk
      have := List.sizeOf_lt_of_mem hk
      simp only [Nd.mk.sizeOf_spec] at h
      omega
    unfold rgt at hr
    unfold rts at hl
    unfold getP
    by_cases h0 : kd = 0
    · subst h0
      simp at hl
      subst hl
      simp [fd]
    · rw [if_neg h0] at hr
      by_cases hh : (kd = 1 ∨ kd = 2) ∧ half p = false
      · rw [if_pos hh] at hl; simp at hl
      · rw [if_neg hh, if_neg h0] at hl
        by_cases h1 : kd = 1
        · subst h1
          rw [if_pos rfl] at hl ⊢
          simp only [Option.some.injEq] at hl
          subst hl
          by_cases he : p = q
          · rw [if_pos he]; simp [fd, he]
          · have : (p == q) = false := by rw [beq_eq_false_iff_ne]; exact he
            rw [if_neg he]; simp [fd, this]
        · rw [if_neg h1] at hr hl ⊢
          by_cases h2 : kd = 2
          · subst h2
            rw [if_pos rfl] at hr ⊢
            simp only [Bool.and_eq_true, decide_eq_true_eq] at hr
            obtain ⟨⟨⟨⟨hp, _⟩, hl1⟩, _⟩, hrk⟩ := hr
            rw [if_pos ⟨rfl, hl1⟩] at hl
            obtain ⟨k, rfl⟩ := List.length_eq_one_iff.1 hl1
            rw [rgtL_iff] at hrk
            cases hk : rts k with
            | none => simp [rtsL, hk] at hl
            | some m =>
              simp only [rtsL, hk, Option.map_some, List.flatten_cons, List.flatten_nil, List.append_nil, Option.some.injEq] at hl
              subst hl
              by_cases hc : com p q = p.length
              · rw [if_pos hc]
                have hqe := com_full hc
                have := fd_pre p m (q.drop p.length)
                rw [← hqe] at this
                rw [this]
                exact get_rts n k (hks k (List.mem_singleton.2 rfl)) _ (hrk k (List.mem_singleton.2 rfl)) m hk _ (fun x hx => hq x (List.mem_of_mem_drop hx))
              · rw [if_neg hc]
                have : fd (pre p m) q = none := fd_none (fun r hr => by
                  obtain ⟨s, _, rfl⟩ := pre_mem hr
                  intro e
                  dsimp only at e
                  rw [← e] at hc
                  exact hc (com_pre_eq p s.1))
                rw [this]; rfl
          · rw [if_neg h2] at hr ⊢
            by_cases h3 : kd = 3
            · subst h3
              rw [if_pos rfl] at hr ⊢
              simp only [Bool.and_eq_true, decide_eq_true_eq] at hr
              obtain ⟨⟨⟨⟨hl1, _⟩, _⟩, hrk⟩, _⟩ := hr
              rw [if_neg (fun e => h2 e.1), if_pos ⟨rfl, hl1⟩] at hl
              rw [rgtL_iff] at hrk
              cases hls : rtsL ks with
              | none => rw [hls] at hl; simp at hl
              | some ls =>
                rw [hls] at hl
                simp only [Option.map_some, Option.some.injEq] at hl
                subst hl
                obtain ⟨hll, hat⟩ := rtsL_at hls
                rw [fd_app]
                cases q with
                | nil =>
                  dsimp only
                  have hn : fd (cat 0 ls) [] = none := fd_none (fun r hr => by
                    obtain ⟨j, m, hj, s, _, rfl⟩ := cat_mem hr
                    simp)
                  rw [hn]
                  by_cases hv : v = []
                  · rw [if_pos hv]; simp [fd, hv]
                  · rw [if_neg hv]; simp [fd]
                | cons x q =>
                  dsimp only
                  have hx := hq x List.mem_cons_self
                  have hn : fd (if v = [] then [] else [([], v)]) (x :: q) = none := fd_none (fun r hr => by
                    split at hr
                    · simp at hr
                    · rw [List.mem_singleton] at hr; subst hr; simp)
                  rw [hn, fd_cat x q (by omega) (Nat.zero_le _), Nat.sub_zero]
                  have hk : ks[x.toNat]? = some (ks[x.toNat]'(by omega)) := List.getElem?_eq_getElem (by omega)
                  obtain ⟨m, hm, hkm⟩ := hat _ _ hk
                  rw [getL_at hk, hm]
                  simp only [Option.none_or, Option.getD_some]
                  exact get_rts n _ (hks _ (List.getElem_mem _)) _ (hrk _ (List.getElem_mem _)) m hkm q (fun y hy => hq y (List.mem_cons_of_mem _ hy))
            · rw [if_neg h3] at hr
              simp at hr
end Go.Proofs.Ytcgpjceopnfahaa
