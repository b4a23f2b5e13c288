/- The codes on the way to a key: plain Lean. -/
import Derived.Test.YtnhbfnegpjkojaaRwC
import Derived.Test.YtnhbfnegpjkojaaChk3
set_option linter.unusedSimpArgs false
set_option linter.unusedVariables false
namespace Go.Proofs.Ytnhbfnegpjkojaa
open Go.RowKit
mutual
/-- how many nodes there are -/
def szN : Nd → Nat
  | .mk kd _ _ _ _ _ ks => if kd = 0 then 0 else if kd = 1 then 1 else 1 + szL ks
def szL : List Nd → Nat
  | [] => 0
  | k :: ks => szN k + szL ks
end
mutual
theorem alN_sz : ∀ (t : Nd), t.kd ≠ 0 → (alN t).length = szN t
  | .mk kd pv p vv v kv ks, h => by
    have h0 : kd ≠ 0 := h
    rw [alN, szN, List.length_cons, if_neg h0]
    by_cases h1 : kd = 1
    · rw [if_pos h1, if_pos h1]; rfl
    · rw [if_neg h1, if_neg h1, alL_sz ks]; omega
theorem alL_sz : ∀ (ks : List Nd), (alL ks).length = szL ks
  | [] => by rw [alL, szL]; rfl
  | k :: ks => by
    rw [alL, szL, List.length_append, alL_sz ks]
    by_cases h : k.kd = 0
    · rw [if_pos h]
      obtain ⟨kd, pv, p, vv, v, kv, ks'⟩ := k
      have h0 : kd = 0 := h
      rw [szN, if_pos h0]; rfl
    · rw [if_neg h, alN_sz k h]
end
mutual
theorem szN_le : ∀ (t : Nd), szN t ≤ bulkN t
  | .mk kd pv p vv v kv ks => by
    rw [szN, bulkN]
    have := szL_le ks
    split
    · omega
    · split <;> omega
theorem szL_le : ∀ (ks : List Nd), szL ks ≤ bulkNL ks
  | [] => by rw [szL, bulkNL]; omega
  | k :: ks => by rw [szL, bulkNL]; have := szN_le k; have := szL_le ks; omega
end
theorem szL_snoc : ∀ (ks : List Nd) (k : Nd), szL (ks ++ [k]) = szL ks + szN k
  | [], k => by rw [List.nil_append, szL, szL, szL]; omega
  | x :: ks, k => by rw [List.cons_append, szL, szL, szL_snoc ks k]; omega
theorem szL_take (ks : List Nd) (k : Nat) : szL (ks.take k) ≤ szL ks := by
  rw [← alL_sz, ← alL_sz]
  have : ∀ (a b : List Nd), (alL a).length ≤ (alL (a ++ b)).length := by
    intro a b
    induction a with
    | nil => simp [alL]
    | cons x a ih => rw [List.cons_append, alL, alL, List.length_append, List.length_append]; omega
  have h := this (ks.take k) (ks.drop k)
  rwa [List.take_append_drop] at h
theorem alL_at : ∀ (ks : List Nd) (i : Nat) (k : Nd), ks[i]? = some k → k.kd ≠ 0 → ∃ l, (alL ks).drop (szL (ks.take i)) = alN k ++ l
  | [], i, k, h, _ => by simp at h
  | x :: ks, 0, k, h, h0 => by
    simp only [List.getElem?_cons_zero, Option.some.injEq] at h
    subst h
    rw [List.take_zero, szL, List.drop_zero, alL, if_neg h0]
    exact ⟨_, rfl⟩
  | x :: ks, i + 1, k, h, h0 => by
    rw [List.getElem?_cons_succ] at h
    obtain ⟨l, hl⟩ := alL_at ks i k h h0
    refine ⟨l, ?_⟩
    rw [List.take_succ_cons, szL, alL, ← hl]
    by_cases hx : x.kd = 0
    · rw [if_pos hx, List.nil_append]
      have : szN x = 0 := by
        obtain ⟨kd, pv, p, vv, v, kv, ks'⟩ := x
        have h0 : kd = 0 := hx
        rw [szN, if_pos h0]
      rw [this, Nat.zero_add]
    · rw [if_neg hx, ← alN_sz x hx, List.drop_append]
      rw [List.drop_of_length_le (by omega), List.nil_append]
      congr 1; omega
/-- where a path goes on behind a node: by that kid, what is left of it -/
def rst (kd : Int) (path p : List UInt8) : Option (Nat × List UInt8) :=
  if kd = 2 then (if com path p = path.length then some (0, p.drop path.length) else none)
  else if kd = 3 then (match p with
    | [] => none
    | x :: q => some (x.toNat, q))
  else none
def hdN (t : Nd) : List UInt8 := (whN t).headD []
/-- the codes on the way down -/
def dn : Nat → Nd → List UInt8 → List (List UInt8)
  | 0, t, _ => [hdN t]
  | n + 1, .mk kd pv path vv v kv ks, p => hdN (.mk kd pv path vv v kv ks) :: (match rst kd path p with
    | none => []
    | some (i, q) => match ks[i]? with
      | none => []
      | some k => if k.kd = 0 then [] else dn n k q)
theorem hdN_kd {t : Nd} (h : t.kd ≠ 0) : hdN t = cdN t := by
  unfold hdN whN
  rw [if_neg h]
  obtain ⟨l, hl⟩ := alN_ne t
  rw [hl]; rfl
theorem whN_hd (t : Nd) : ∃ l, whN t = hdN t :: l := by
  obtain ⟨c, l, h⟩ := whN_ne t
  exact ⟨l, by unfold hdN; rw [h]; rfl⟩
theorem rst_way (kd : Int) (path p : List UInt8) : (rst kd path p = none ∧ (wayP kd path p).1 = -1) ∨ ∃ i q, rst kd path p = some (i, q) ∧ (wayP kd path p).1 = (i : Int) ∧ (wayP kd path p).2.1 = q := by
  unfold rst wayP
  by_cases h2 : kd = 2
  · subst h2
    by_cases hc : com path p = path.length
    · have hc' := (com_all path p).1 hc
      exact .inr ⟨0, p.drop path.length, by simp [hc], by simp [hc'.1, hc'.2], by simp [hc'.1, hc'.2]⟩
    · have hc' : ¬ (path.length ≤ p.length ∧ p.take path.length = path) := fun e => hc ((com_all path p).2 e)
      exact .inl ⟨by simp [hc], by rw [if_neg (by decide), if_pos rfl, if_neg hc']⟩
  · rw [if_neg h2]
    by_cases h3 : kd = 3
    · subst h3
      cases p with
      | nil => exact .inl ⟨rfl, rfl⟩
      | cons x q => exact .inr ⟨x.toNat, q, rfl, rfl, rfl⟩
    · rw [if_neg h3]
      refine .inl ⟨rfl, ?_⟩
      by_cases h1 : kd = 1
      · rw [if_pos h1]
      · rw [if_neg h1, if_neg h2, if_neg h3]
theorem rst_half {kd : Int} {path p q : List UInt8} {i : Nat} (h : rst kd path p = some (i, q)) (hp : ∀ x ∈ p, x.toNat < 16) : (∀ x ∈ q, x.toNat < 16) ∧ q.length ≤ p.length ∧ i < 16 := by
  unfold rst at h
  by_cases h2 : kd = 2
  · rw [if_pos h2] at h
    split at h
    · simp only [Option.some.injEq, Prod.mk.injEq] at h
      obtain ⟨rfl, rfl⟩ := h
      exact ⟨fun x hx => hp x (List.mem_of_mem_drop hx), by simp, by omega⟩
    · cases h
  · rw [if_neg h2] at h
    split at h
    · cases p with
      | nil => cases h
      | cons x r =>
        simp only [Option.some.injEq, Prod.mk.injEq] at h
        obtain ⟨rfl, rfl⟩ := h
        exact ⟨fun y hy => hp y (List.mem_cons_of_mem _ hy), by simp, hp x List.mem_cons_self⟩
    · cases h
/-- a right node has the kid by which a path goes on -/
theorem rst_kid {kd : Int} {pv : Value} {path : List UInt8} {vv : Value} {v : List UInt8} {kv : Value} {ks : List Nd} {d : Nat} (h : rgt d (.mk kd pv path vv v kv ks) = true) {p q : List UInt8} {i : Nat} (hr : rst kd path p = some (i, q)) (hp : ∀ x ∈ p, x.toNat < 16) :
    ∃ k d', ks[i]? = some k ∧ rgt d' k = true ∧ (kd = 2 → k.kd = 3 ∧ ks = [k]) ∧ (kd = 3 → ks.length = 16) := by
  have hmem : ∀ (d : Nat) (l : List Nd), rgtL d l = true → ∀ k ∈ l, rgt d k = true := by
    intro d l
    induction l with
    | nil => intro _ k hk; simp at hk
    | cons x l ih =>
      intro h k hk
      rw [rgtL, Bool.and_eq_true] at h
      rcases List.mem_cons.1 hk with rfl | hk
      · exact h.1
      · exact ih h.2 k hk
  have h16 := (rst_half hr hp).2.2
  unfold rst at hr
  unfold rgt at h
  by_cases h2 : kd = 2
  · subst h2
    rw [if_neg (by decide), if_neg (by decide), if_pos rfl] at h
    simp only [Bool.and_eq_true, decide_eq_true_eq] at h
    obtain ⟨k, rfl⟩ := List.length_eq_one_iff.1 h.1.1.2
    rw [if_pos rfl] at hr
    split at hr
    · simp only [Option.some.injEq, Prod.mk.injEq] at hr
      obtain ⟨rfl, rfl⟩ := hr
      exact ⟨k, _, rfl, hmem _ _ h.2 k List.mem_cons_self, fun _ => ⟨by simpa using h.1.2, rfl⟩, fun e => absurd e (by decide)⟩
    · cases hr
  · rw [if_neg h2] at hr
    by_cases h3 : kd = 3
    · subst h3
      rw [if_neg (by decide), if_neg (by decide), if_neg (by decide), if_pos rfl] at h
      simp only [Bool.and_eq_true, decide_eq_true_eq] at h
      have hl : ks.length = 16 := h.1.1.1.1
      exact ⟨ks[i]'(by omega), d + 1, List.getElem?_eq_getElem _, hmem _ _ h.1.2 _ (List.getElem_mem _), fun e => absurd e (by decide), fun _ => hl⟩
    · rw [if_neg h3] at hr; cases hr
end Go.Proofs.Ytnhbfnegpjkojaa
