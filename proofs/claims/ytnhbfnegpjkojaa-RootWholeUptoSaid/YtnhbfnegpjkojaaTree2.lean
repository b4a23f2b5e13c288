/- A right tree is what grows of its routes, and the other way. -/
import Derived.Test.YtnhbfnegpjkojaaTree1
set_option linter.unusedSimpArgs false
set_option linter.unusedVariables false
namespace Go.Proofs.Ytnhbfnegpjkojaa
open Go.RowKit
theorem pre_len (p : List UInt8) (l : List Rt) : (pre p l).length = l.length := by unfold pre; rw [List.length_map]
theorem pre_nil (l : List Rt) : pre [] l = l := by unfold pre; simp
theorem pre_pre (p q : List UInt8) (l : List Rt) : pre p (pre q l) = pre (p ++ q) l := by
  unfold pre; rw [List.map_map]; congr 1; funext r; simp
theorem pre_mem {p : List UInt8} {l : List Rt} {r : Rt} (h : r ∈ pre p l) : ∃ s ∈ l, r = (p ++ s.1, s.2) := by
  unfold pre at h
  obtain ⟨s, hs, rfl⟩ := List.mem_map.1 h
  exact ⟨s, hs, rfl⟩
theorem mem_pre {p : List UInt8} {l : List Rt} {s : Rt} (h : s ∈ l) : (p ++ s.1, s.2) ∈ pre p l := List.mem_map.2 ⟨s, h, rfl⟩
theorem shorter_pre (p : List UInt8) (l : List Rt) : shorterP p.length (pre p l) = l := by
  unfold shorterP pre
  rw [List.map_map]
  have : ((fun r : Rt => (r.1.drop p.length, r.2)) ∘ fun r : Rt => (p ++ r.1, r.2)) = id := by funext r; simp
  rw [this, List.map_id]
theorem com_app (p q r : List UInt8) : com (p ++ q) (p ++ r) = p.length + com q r := by
  induction p with
  | nil => simp
  | cons x p ih =>
    simp only [List.cons_append, com, if_pos, ih, List.length_cons]
    omega
theorem com_nil (q : List UInt8) : com [] q = 0 := by cases q <;> rfl
theorem com_ne {x y : UInt8} (p q : List UInt8) (h : x ≠ y) : com (x :: p) (y :: q) = 0 := by unfold com; rw [if_neg h]
theorem com_pos {p q : List UInt8} (h : p ≠ []) (hq : q ≠ []) (h0 : com p q = 0) : ∃ x y p' q', p = x :: p' ∧ q = y :: q' ∧ x ≠ y := by
  cases p with
  | nil => exact absurd rfl h
  | cons x p =>
    cases q with
    | nil => exact absurd rfl hq
    | cons y q =>
      refine ⟨x, y, p, q, rfl, rfl, fun e => ?_⟩
      subst e
      unfold com at h0
      rw [if_pos rfl] at h0
      omega
/-- the first and the last of a list of two or more -/
def fl (l : List Rt) : Nat := com ((l.head?.map (·.1)).getD []) ((l.getLast?.map (·.1)).getD [])
theorem fl_pre (p : List UInt8) (l : List Rt) (h : l ≠ []) : fl (pre p l) = p.length + fl l := by
  unfold fl pre
  rw [List.head?_map, List.getLast?_map]
  cases hl : l with
  | nil => exact absurd hl h
  | cons a l' =>
    have h1 : (a :: l').head? = some a := rfl
    have h2 : (a :: l').getLast? = some ((a :: l').getLast (by simp)) := List.getLast?_eq_some_getLast (by simp)
    rw [h1, h2]
    exact com_app _ _ _
theorem cat_nil_iff (ls : List (List Rt)) : ∀ i, cat i ls = [] ↔ ∀ l ∈ ls, l = [] := by
  induction ls with
  | nil => intro i; simp [cat]
  | cons l ls ih =>
    intro i
    simp only [cat, List.append_eq_nil_iff, List.mem_cons, forall_eq_or_imp, ih]
    constructor
    · rintro ⟨h, h2⟩; exact ⟨by cases l with | nil => rfl | cons _ _ => simp [pre] at h, h2⟩
    · rintro ⟨rfl, h2⟩; exact ⟨rfl, h2⟩
theorem cat_mem {ls : List (List Rt)} : ∀ {i : Nat} {r : Rt}, r ∈ cat i ls → ∃ (j : Nat) (l : List Rt), ls[j]? = some l ∧ ∃ s ∈ l, r = (UInt8.ofNat (i + j) :: s.1, s.2) := by
  induction ls with
  | nil => intro i r h; simp [cat] at h
  | cons l ls ih =>
    intro i r h
    simp only [cat, List.mem_append] at h
    rcases h with h | h
    · obtain ⟨s, hs, rfl⟩ := pre_mem h
      exact ⟨0, l, rfl, s, hs, rfl⟩
    · obtain ⟨j, l', hj, s, hs, rfl⟩ := ih h
      exact ⟨j + 1, l', hj, s, hs, by rw [Nat.add_right_comm]; rfl⟩
theorem mem_cat {ls : List (List Rt)} : ∀ {i j : Nat} {l : List Rt} {s : Rt}, ls[j]? = some l → s ∈ l → (UInt8.ofNat (i + j) :: s.1, s.2) ∈ cat i ls := by
  induction ls with
  | nil => intro i j l s h; simp at h
  | cons l0 ls ih =>
    intro i j l s h hs
    simp only [cat, List.mem_append]
    cases j with
    | zero =>
      simp only [List.getElem?_cons_zero, Option.some.injEq] at h
      subst h
      exact .inl (mem_pre hs)
    | succ j =>
      simp only [List.getElem?_cons_succ] at h
      have := ih (i := i + 1) h hs
      rw [Nat.add_right_comm] at this
      exact .inr this
theorem ofNat_nat {i : Nat} (h : i < 256) : (UInt8.ofNat i).toNat = i := by rw [UInt8.toNat_ofNat']; omega
/-- what of it begins with i -/
theorem part_cat (ls : List (List Rt)) : ∀ (i j : Nat), i + ls.length ≤ 256 → partP j (cat i ls) = if i ≤ j then pre [UInt8.ofNat j] (ls[j - i]?.getD []) else [] := by
  induction ls with
  | nil => intro i j _; simp [cat, partP, pre]
  | cons l ls ih =>
    intro i j h
    simp only [List.length_cons] at h
    have h1 : partP j (pre [UInt8.ofNat i] l) = if i = j then pre [UInt8.ofNat j] l else [] := by
      unfold partP pre
      split
      · rename_i e
        subst e
        rw [List.filter_eq_self]
        intro r hr
        obtain ⟨s, _, rfl⟩ := List.mem_map.1 hr
        simp only [List.cons_append, List.getElem?_cons_zero, Option.getD_some, decide_eq_true_eq]
        exact ofNat_nat (by omega)
      · rename_i e
        rw [List.filter_eq_nil_iff]
        intro r hr
        obtain ⟨s, _, rfl⟩ := List.mem_map.1 hr
        simp only [List.cons_append, List.getElem?_cons_zero, Option.getD_some, decide_eq_true_eq]
        rw [ofNat_nat (by omega)]
        exact e
    unfold cat
    have h2 : partP j (pre [UInt8.ofNat i] l ++ cat (i + 1) ls) = partP j (pre [UInt8.ofNat i] l) ++ partP j (cat (i + 1) ls) := by unfold partP; rw [List.filter_append]
    rw [h2, h1, ih (i + 1) j (by omega)]
    rcases Nat.lt_trichotomy i j with h3 | h3 | h3
    · rw [if_neg (by omega), if_pos (by omega), if_pos (by omega)]
      have : j - i = (j - (i + 1)) + 1 := by omega
      rw [this]
      simp
    · subst h3
      rw [if_pos rfl, if_neg (by omega), if_pos (Nat.le_refl _)]
      simp
    · rw [if_neg (by omega), if_neg (by omega), if_neg (by omega)]
      rfl
theorem fl_cat {ls : List (List Rt)} : ∀ {i : Nat}, i + ls.length ≤ 256 → fl (cat i ls) = 0 → cat i ls ≠ [] → ∃ (j k : Nat), j < k ∧ (∃ l, ls[j]? = some l ∧ l ≠ []) ∧ ∃ l, ls[k]? = some l ∧ l ≠ [] := by
  intro i hi h hne
  unfold fl at h
  cases hc : cat i ls with
  | nil => exact absurd hc hne
  | cons a l' =>
    rw [hc] at h
    have h1 : (a :: l').head? = some a := rfl
    have h2 : (a :: l').getLast? = some ((a :: l').getLast (by simp)) := List.getLast?_eq_some_getLast (by simp)
    rw [h1, h2] at h
    simp only [Option.map_some, Option.getD_some] at h
    obtain ⟨j, lj, hj, s, hs, ha⟩ := cat_mem (i := i) (ls := ls) (r := a) (by rw [hc]; exact List.mem_cons_self)
    obtain ⟨k, lk, hk, t, ht, hz⟩ := cat_mem (i := i) (ls := ls) (r := (a :: l').getLast (by simp)) (by rw [hc]; exact List.getLast_mem _)
    rw [hz, ha] at h
    have hj1 := (List.getElem?_eq_some_iff.1 hj).1
    have hk1 := (List.getElem?_eq_some_iff.1 hk).1
    have hne : j ≠ k := by
      intro e
      subst e
      unfold com at h
      rw [if_pos rfl] at h
      omega
    rcases Nat.lt_or_gt_of_ne hne with h3 | h3
    · exact ⟨j, k, h3, ⟨lj, hj, List.ne_nil_of_mem hs⟩, ⟨lk, hk, List.ne_nil_of_mem ht⟩⟩
    · exact ⟨k, j, h3, ⟨lk, hk, List.ne_nil_of_mem ht⟩, ⟨lj, hj, List.ne_nil_of_mem hs⟩⟩
/-- the first of a cat is of the first that has any, the last of the last -/
theorem cat_fl {ls : List (List Rt)} : ∀ {i : Nat} {j k : Nat} {lj lk : List Rt}, i + ls.length ≤ 256 → j < k → ls[j]? = some lj → lj ≠ [] → ls[k]? = some lk → lk ≠ [] → fl (cat i ls) = 0 := by
  induction ls with
  | nil => intro i j k lj lk _ _ h; simp at h
  | cons l ls ih =>
    intro i j k lj lk hi hjk hj hjn hk hkn
    simp only [List.length_cons] at hi
    cases k with
    | zero => omega
    | succ k =>
      simp only [List.getElem?_cons_succ] at hk
      have hcn : cat (i + 1) ls ≠ [] := fun e => hkn ((cat_nil_iff ls (i + 1)).1 e lk (List.mem_of_getElem? hk))
      cases l with
      | nil =>
        have : cat i ([] :: ls) = cat (i + 1) ls := rfl
        rw [this]
        cases j with
        | zero => simp only [List.getElem?_cons_zero, Option.some.injEq] at hj; exact absurd hj.symm hjn
        | succ j =>
          simp only [List.getElem?_cons_succ] at hj
          exact ih (by omega) (by omega) hj hjn hk hkn
      | cons r l =>
        unfold fl
        have h1 : (cat i ((r :: l) :: ls)).head? = some (UInt8.ofNat i :: r.1, r.2) := rfl
        have h2 : (cat i ((r :: l) :: ls)).getLast? = (cat (i + 1) ls).getLast? := by
          show (pre [UInt8.ofNat i] (r :: l) ++ cat (i + 1) ls).getLast? = _
          rw [List.getLast?_append]
          rw [List.getLast?_eq_some_getLast hcn]
          rfl
        rw [h1, h2, List.getLast?_eq_some_getLast hcn]
        obtain ⟨m, lm, hm, s, hs, hz⟩ := cat_mem (i := i + 1) (ls := ls) (List.getLast_mem hcn)
        have hm1 := (List.getElem?_eq_some_iff.1 hm).1
        rw [hz]
        simp only [Option.map_some, Option.getD_some]
        refine com_ne _ _ (fun e => ?_)
        have := congrArg UInt8.toNat e
        rw [ofNat_nat (by omega), ofNat_nat (by omega)] at this
        omega
end Go.Proofs.Ytnhbfnegpjkojaa
