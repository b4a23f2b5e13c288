/- Trees as plain data: routes, what grows of them, what is right: plain Lean. | A right tree is what grows of its routes, and the other way. | A right tree is what grows of its routes, and the other way. | Routes stand in order; what grown asks of a list: plain Lean. -/
import Derived.Test.YtljbbpcnoajfeaaNib1
/- (Tree1) Trees as plain data: routes, what grows of them, what is right: plain Lean. -/
set_option linter.unusedSimpArgs false
set_option linter.unusedVariables false
namespace Go.Proofs.Ytljbbpcnoajfeaa
open Go.RowKit
/-- a node: its kind, its path (value, bytes), its value (value, bytes), its kids (value, nodes) -/
inductive Nd where
  | mk (kd : Int) (pv : Value) (p : List UInt8) (vv : Value) (v : List UInt8) (kv : Value) (ks : List Nd)
def Nd.kd : Nd → Int
  | .mk kd _ _ _ _ _ _ => kd
abbrev Rt := List UInt8 × List UInt8
def pre (p : List UInt8) (l : List Rt) : List Rt := l.map fun r => (p ++ r.1, r.2)
def cat : Nat → List (List Rt) → List Rt
  | _, [] => []
  | i, l :: ls => pre [UInt8.ofNat i] l ++ cat (i + 1) ls
def half (p : List UInt8) : Bool := p.all fun x => decide (x.toNat ≤ 15)
mutual
/-- all values with their paths -/
def rts : Nd → Option (List Rt)
  | .mk kd _ p _ v _ ks =>
    if (kd = 1 ∨ kd = 2) ∧ half p = false then none
    else if kd = 0 then some []
    else if kd = 1 then some [(p, v)]
    else if kd = 2 ∧ ks.length = 1 then (rtsL ks).map fun l => pre p l.flatten
    else if kd = 3 ∧ ks.length = 16 then (rtsL ks).map fun l => (if v = [] then [] else [([], v)]) ++ cat 0 l
    else none
def rtsL : List Nd → Option (List (List Rt))
  | [] => some []
  | k :: ks => match rts k with
    | none => none
    | some l => match rtsL ks with
      | none => none
      | some ls => some (l :: ls)
end
/-- plain trees -/
inductive Pn where
  | mk (kd : Int) (p v : List UInt8) (ks : List Pn)
def shorterP (c : Nat) (l : List Rt) : List Rt := l.map fun r => (r.1.drop c, r.2)
def partP (i : Nat) (l : List Rt) : List Rt := l.filter fun r => decide ((r.1[0]?.getD 0).toNat = i)
/-- the tree of values whose paths stand in order -/
def grw : Nat → List Rt → Pn
  | 0, _ => .mk 0 [] [] []
  | n + 1, l => match l with
    | [] => .mk 0 [] [] []
    | [r] => .mk 1 r.1 r.2 []
    | r :: r' :: l' =>
      let z := (r' :: l').getLast (by simp)
      let c := com r.1 z.1
      if 0 < c then .mk 2 (r.1.take c) [] [grw n (shorterP c (r :: r' :: l'))]
      else .mk 3 [] (if r.1 = [] then r.2 else []) ((List.range 16).map fun i => grw n (shorterP 1 (partP i (if r.1 = [] then r' :: l' else r :: r' :: l'))))
mutual
/-- the same -/
def sameP : Nd → Pn → Bool
  | .mk kd _ p _ v _ ks, .mk kd' p' v' ks' =>
    if kd ≠ kd' then false
    else if kd = 1 then p == p' && v == v'
    else if kd = 2 then p == p' && sameL ks ks'
    else if kd = 3 then v == v' && sameL ks ks'
    else true
def sameL : List Nd → List Pn → Bool
  | [], [] => true
  | k :: ks, k' :: ks' => sameP k k' && sameL ks ks'
  | _, _ => false
end
def endsP (d : Nat) : Bool := decide (d % 2 = 0) && decide (d ≤ 64)
def manyP : List Nd → Nat
  | [] => 0
  | k :: ks => (if k.kd = 0 then 0 else 1) + manyP ks
mutual
/-- is it a tree? -/
def rgt : Nat → Nd → Bool
  | d, .mk kd _ p _ v _ ks =>
    if kd = 0 then true
    else if kd = 1 then half p && endsP (d + p.length) && decide (0 < v.length) && decide (v.length ≤ 1024)
    else if kd = 2 then decide (0 < p.length) && half p && decide (ks.length = 1) && decide (((ks[0]?.map Nd.kd).getD 0) = 3) && rgtL (d + p.length) ks
    else if kd = 3 then decide (ks.length = 16) && decide (v.length ≤ 1024) && (decide (v.length = 0) || endsP d) && rgtL (d + 1) ks && decide (2 ≤ min v.length 1 + manyP ks)
    else false
def rgtL : Nat → List Nd → Bool
  | _, [] => true
  | d, k :: ks => rgt d k && rgtL d ks
end
def fineP (d : Nat) (r : Rt) : Prop := (d + r.1.length) % 2 = 0 ∧ d + r.1.length ≤ 64 ∧ 0 < r.2.length ∧ r.2.length ≤ 1024
instance (d : Nat) (r : Rt) : Decidable (fineP d r) := by unfold fineP; infer_instance
end Go.Proofs.Ytljbbpcnoajfeaa
/- (Tree2) A right tree is what grows of its routes, and the other way. -/
namespace Go.Proofs.Ytljbbpcnoajfeaa
open Go.RowKit
theorem pre_len (p : List UInt8) (l : List Rt) : (pre p l).length = l.length := by unfold pre; rw [List.length_map]
theorem pre_nil (l : List Rt) : pre [] l = l := by unfold pre; simp
theorem pre_pre (p q : List UInt8) (l : List Rt) : pre p (pre q l) = pre (p ++ q) l := by
  unfold pre; rw [List.map_map]; congr 1; funext r; simp
theorem pre_mem {p : List UInt8} {l : List Rt} {r : Rt} (h : r ∈ pre p l) : ∃ s ∈ l, r = (p ++ s.1, s.2) := by
  unfold pre at h
  obtain ⟨s, hs, rfl⟩ := List.mem_map.1 h
  exact ⟨s, hs, rfl⟩
theorem mem_pre {p : List UInt8} {l : List Rt} {s : Rt} (h : s ∈ l) : (p ++ s.1, s.2) ∈ pre p l := List.mem_map.2 ⟨s, h, rfl⟩
theorem shorter_pre (p : List UInt8) (l : List Rt) : shorterP p.length (pre p l) = l := by
  unfold shorterP pre
  rw [List.map_map]
  have : ((fun r : Rt => (r.1.drop p.length, r.2)) ∘ fun r : Rt => (p ++ r.1, r.2)) = id := by funext r; simp
  rw [this, List.map_id]
theorem com_app (p q r : List UInt8) : com (p ++ q) (p ++ r) = p.length + com q r := by
  induction p with
  | nil => simp
  | cons x p ih =>
    simp only [List.cons_append, com, if_pos, ih, List.length_cons]
    omega
theorem com_nil (q : List UInt8) : com [] q = 0 := by cases q <;> rfl
theorem com_ne {x y : UInt8} (p q : List UInt8) (h : x ≠ y) : com (x :: p) (y :: q) = 0 := by unfold com; rw [if_neg h]
theorem com_pos {p q : List UInt8} (h : p ≠ []) (hq : q ≠ []) (h0 : com p q = 0) : ∃ x y p' q', p = x :: p' ∧ q = y :: q' ∧ x ≠ y := by
  cases p with
  | nil => exact absurd rfl h
  | cons x p =>
    cases q with
    | nil => exact absurd rfl hq
    | cons y q =>
      refine ⟨x, y, p, q, rfl, rfl, fun e => ?_⟩
      subst e
      unfold com at h0
      rw [if_pos rfl] at h0
      omega
/-- the first and the last of a list of two or more -/
def fl (l : List Rt) : Nat := com ((l.head?.map (·.1)).getD []) ((l.getLast?.map (·.1)).getD [])
theorem fl_pre (p : List UInt8) (l : List Rt) (h : l ≠ []) : fl (pre p l) = p.length + fl l := by
  unfold fl pre
  rw [List.head?_map, List.getLast?_map]
  cases hl : l with
  | nil => exact absurd hl h
  | cons a l' =>
    have h1 : (a :: l').head? = some a := rfl
    have h2 : (a :: l').getLast? = some ((a :: l').getLast (by simp)) := List.getLast?_eq_some_getLast (by simp)
    rw [h1, h2]
    exact com_app _ _ _
theorem cat_nil_iff (ls : List (List Rt)) : ∀ i, cat i ls = [] ↔ ∀ l ∈ ls, l = [] := by
  induction ls with
  | nil => intro i; simp [cat]
  | cons l ls ih =>
    intro i
    simp only [cat, List.append_eq_nil_iff, List.mem_cons, forall_eq_or_imp, ih]
    constructor
    · rintro ⟨h, h2⟩; exact ⟨by cases l with | nil => rfl | cons _ _ => simp [pre] at h, h2⟩
    · rintro ⟨rfl, h2⟩; exact ⟨rfl, h2⟩
theorem cat_mem {ls : List (List Rt)} : ∀ {i : Nat} {r : Rt}, r ∈ cat i ls → ∃ (j : Nat) (l : List Rt), ls[j]? = some l ∧ ∃ s ∈ l, r = (UInt8.ofNat (i + j) :: s.1, s.2) := by
  induction ls with
  | nil => intro i r h; simp [cat] at h
  | cons l ls ih =>
    intro i r h
    simp only [cat, List.mem_append] at h
    rcases h with h | h
    · obtain ⟨s, hs, rfl⟩ := pre_mem h
      exact ⟨0, l, rfl, s, hs, rfl⟩
    · obtain ⟨j, l', hj, s, hs, rfl⟩ := ih h
      exact ⟨j + 1, l', hj, s, hs, by rw [Nat.add_right_comm]; rfl⟩
theorem mem_cat {ls : List (List Rt)} : ∀ {i j : Nat} {l : List Rt} {s : Rt}, ls[j]? = some l → s ∈ l → (UInt8.ofNat (i + j) :: s.1, s.2) ∈ cat i ls := by
  induction ls with
  | nil => intro i j l s h; simp at h
  | cons l0 ls ih =>
    intro i j l s h hs
    simp only [cat, List.mem_append]
    cases j with
    | zero =>
      simp only [List.getElem?_cons_zero, Option.some.injEq] at h
      subst h
      exact .inl (mem_pre hs)
    | succ j =>
      simp only [List.getElem?_cons_succ] at h
      have := ih (i := i + 1) h hs
      rw [Nat.add_right_comm] at this
      exact .inr this
theorem ofNat_nat {i : Nat} (h : i < 256) : (UInt8.ofNat i).toNat = i := by rw [UInt8.toNat_ofNat']; omega
/-- what of it begins with i -/
theorem part_cat (ls : List (List Rt)) : ∀ (i j : Nat), i + ls.length ≤ 256 → partP j (cat i ls) = if i ≤ j then pre [UInt8.ofNat j] (ls[j - i]?.getD []) else [] := by
  induction ls with
  | nil => intro i j _; simp [cat, partP, pre]
  | cons l ls ih =>
    intro i j h
    simp only [List.length_cons] at h
    have h1 : partP j (pre [UInt8.ofNat i] l) = if i = j then pre [UInt8.ofNat j] l else [] := by
      unfold partP pre
      split
      · rename_i e
        subst e
        rw [List.filter_eq_self]
        intro r hr
        obtain ⟨s, _, rfl⟩ := List.mem_map.1 hr
        simp only [List.cons_append, List.getElem?_cons_zero, Option.getD_some, decide_eq_true_eq]
        exact ofNat_nat (by omega)
      · rename_i e
        rw [List.filter_eq_nil_iff]
        intro r hr
        obtain ⟨s, _, rfl⟩ := List.mem_map.1 hr
        simp only [List.cons_append, List.getElem?_cons_zero, Option.getD_some, decide_eq_true_eq]
        rw [ofNat_nat (by omega)]
        exact e
    unfold cat
    have h2 : partP j (pre [UInt8.ofNat i] l ++ cat (i + 1) ls) = partP j (pre [UInt8.ofNat i] l) ++ partP j (cat (i + 1) ls) := by unfold partP; rw [List.filter_append]
    rw [h2, h1, ih (i + 1) j (by omega)]
    rcases Nat.lt_trichotomy i j with h3 | h3 | h3
    · rw [if_neg (by omega), if_pos (by omega), if_pos (by omega)]
      have : j - i = (j - (i + 1)) + 1 := by omega
      rw [this]
      simp
    · subst h3
      rw [if_pos rfl, if_neg (by omega), if_pos (Nat.le_refl _)]
      simp
    · rw [if_neg (by omega), if_neg (by omega), if_neg (by omega)]
      rfl
theorem fl_cat {ls : List (List Rt)} : ∀ {i : Nat}, i + ls.length ≤ 256 → fl (cat i ls) = 0 → cat i ls ≠ [] → ∃ (j k : Nat), j < k ∧ (∃ l, ls[j]? = some l ∧ l ≠ []) ∧ ∃ l, ls[k]? = some l ∧ l ≠ [] := by
  intro i hi h hne
  unfold fl at h
  cases hc : cat i ls with
  | nil => exact absurd hc hne
  | cons a l' =>
    rw [hc] at h
    have h1 : (a :: l').head? = some a := rfl
    have h2 : (a :: l').getLast? = some ((a :: l').getLast (by simp)) := List.getLast?_eq_some_getLast (by simp)
    rw [h1, h2] at h
    simp only [Option.map_some, Option.getD_some] at h
    obtain ⟨j, lj, hj, s, hs, ha⟩ := cat_mem (i := i) (ls := ls) (r := a) (by rw [hc]; exact List.mem_cons_self)
    obtain ⟨k, lk, hk, t, ht, hz⟩ := cat_mem (i := i) (ls := ls) (r := (a :: l').getLast (by simp)) (by rw [hc]; exact List.getLast_mem _)
    rw [hz, ha] at h
    have hj1 := (List.getElem?_eq_some_iff.1 hj).1
    have hk1 := (List.getElem?_eq_some_iff.1 hk).1
    have hne : j ≠ k := by
      intro e
      subst e
      unfold com at h
      rw [if_pos rfl] at h
      omega
    rcases Nat.lt_or_gt_of_ne hne with h3 | h3
    · exact ⟨j, k, h3, ⟨lj, hj, List.ne_nil_of_mem hs⟩, ⟨lk, hk, List.ne_nil_of_mem ht⟩⟩
    · exact ⟨k, j, h3, ⟨lk, hk, List.ne_nil_of_mem ht⟩, ⟨lj, hj, List.ne_nil_of_mem hs⟩⟩
/-- the first of a cat is of the first that has any, the last of the last -/
theorem cat_fl {ls : List (List Rt)} : ∀ {i : Nat} {j k : Nat} {lj lk : List Rt}, i + ls.length ≤ 256 → j < k → ls[j]? = some lj → lj ≠ [] → ls[k]? = some lk → lk ≠ [] → fl (cat i ls) = 0 := by
  induction ls with
  | nil => intro i j k lj lk _ _ h; simp at h
  | cons l ls ih =>
    intro i j k lj lk hi hjk hj hjn hk hkn
    simp only [List.length_cons] at hi
    cases k with
    | zero => omega
    | succ k =>
      simp only [List.getElem?_cons_succ] at hk
      have hcn : cat (i + 1) ls ≠ [] := fun e => hkn ((cat_nil_iff ls (i + 1)).1 e lk (List.mem_of_getElem? hk))
      cases l with
      | nil =>
        have : cat i ([] :: ls) = cat (i + 1) ls := rfl
        rw [this]
        cases j with
        | zero => simp only [List.getElem?_cons_zero, Option.some.injEq] at hj; exact absurd hj.symm hjn
        | succ j =>
          simp only [List.getElem?_cons_succ] at hj
          exact ih (by omega) (by omega) hj hjn hk hkn
      | cons r l =>
        unfold fl
        have h1 : (cat i ((r :: l) :: ls)).head? = some (UInt8.ofNat i :: r.1, r.2) := rfl
        have h2 : (cat i ((r :: l) :: ls)).getLast? = (cat (i + 1) ls).getLast? := by
          show (pre [UInt8.ofNat i] (r :: l) ++ cat (i + 1) ls).getLast? = _
          rw [List.getLast?_append]
          rw [List.getLast?_eq_some_getLast hcn]
          rfl
        rw [h1, h2, List.getLast?_eq_some_getLast hcn]
        obtain ⟨m, lm, hm, s, hs, hz⟩ := cat_mem (i := i + 1) (ls := ls) (List.getLast_mem hcn)
        have hm1 := (List.getElem?_eq_some_iff.1 hm).1
        rw [hz]
        simp only [Option.map_some, Option.getD_some]
        refine com_ne _ _ (fun e => ?_)
        have := congrArg UInt8.toNat e
        rw [ofNat_nat (by omega), ofNat_nat (by omega)] at this
        omega
end Go.Proofs.Ytljbbpcnoajfeaa
/- (Tree3) A right tree is what grows of its routes, and the other way. -/
namespace Go.Proofs.Ytljbbpcnoajfeaa
open Go.RowKit
theorem rtsL_at : ∀ {ks : List Nd} {ls : List (List Rt)}, rtsL ks = some ls → ls.length = ks.length ∧ ∀ (i : Nat) (k : Nd), ks[i]? = some k → ∃ l, ls[i]? = some l ∧ rts k = some l
  | [], ls, h => by
    simp only [rtsL, Option.some.injEq] at h
    subst h
    exact ⟨rfl, fun i k h => by simp at h⟩
  | k :: ks, ls, h => by
    unfold rtsL at h
    cases h1 : rts k with
    | none => rw [h1] at h; simp at h
    | some l =>
      rw [h1] at h
      dsimp only at h
      cases h2 : rtsL ks with
      | none => rw [h2] at h; simp at h
      | some ls' =>
        rw [h2] at h
        simp only [Option.some.injEq] at h
        subst h
        obtain ⟨h3, h4⟩ := rtsL_at h2
        refine ⟨by simp [h3], fun i k' hi => ?_⟩
        cases i with
        | zero => simp only [List.getElem?_cons_zero, Option.some.injEq] at hi; subst hi; exact ⟨l, rfl, h1⟩
        | succ i => simp only [List.getElem?_cons_succ] at hi; exact h4 i k' hi
theorem rtsL_all : ∀ {ks : List Nd}, (∀ k ∈ ks, ∃ l, rts k = some l) → ∃ ls, rtsL ks = some ls
  | [], _ => ⟨[], rfl⟩
  | k :: ks, h => by
    obtain ⟨l, hl⟩ := h k List.mem_cons_self
    obtain ⟨ls, hls⟩ := rtsL_all (ks := ks) (fun k' hk => h k' (List.mem_cons_of_mem _ hk))
    exact ⟨l :: ls, by unfold rtsL; rw [hl, hls]⟩
theorem rgtL_iff (d : Nat) : ∀ {ks : List Nd}, rgtL d ks = true ↔ ∀ k ∈ ks, rgt d k = true
  | [] => by simp [rgtL]
  | k :: ks => by simp [rgtL, rgtL_iff d (ks := ks)]
theorem sameL_iff : ∀ {ks : List Nd} {ks' : List Pn}, sameL ks ks' = true ↔ ks.length = ks'.length ∧ ∀ (i : Nat) k k', ks[i]? = some k → ks'[i]? = some k' → sameP k k' = true
  | [], [] => by simp [sameL]
  | [], _ :: _ => by simp [sameL]
  | _ :: _, [] => by simp [sameL]
  | k :: ks, k' :: ks' => by
    simp only [sameL, Bool.and_eq_true, sameL_iff (ks := ks) (ks' := ks'), List.length_cons, Nat.add_right_cancel_iff]
    constructor
    · rintro ⟨h1, h2, h3⟩
      refine ⟨h2, fun i a b ha hb => ?_⟩
      cases i with
      | zero => simp only [List.getElem?_cons_zero, Option.some.injEq] at ha hb; subst ha; subst hb; exact h1
      | succ i => simp only [List.getElem?_cons_succ] at ha hb; exact h3 i a b ha hb
    · rintro ⟨h2, h3⟩
      exact ⟨h3 0 k k' rfl rfl, h2, fun i a b ha hb => h3 (i + 1) a b (by simpa using ha) (by simpa using hb)⟩
theorem many_one : ∀ {ks : List Nd}, 1 ≤ manyP ks ↔ ∃ (j : Nat) (a : Nd), ks[j]? = some a ∧ a.kd ≠ 0
  | [] => by simp [manyP]
  | k :: ks => by
    have ih := many_one (ks := ks)
    unfold manyP
    by_cases h : k.kd = 0
    · rw [if_pos h, Nat.zero_add, ih]
      constructor
      · rintro ⟨j, a, h1, h2⟩; exact ⟨j + 1, a, by simpa using h1, h2⟩
      · rintro ⟨j, a, h1, h2⟩
        cases j with
        | zero => simp only [List.getElem?_cons_zero, Option.some.injEq] at h1; subst h1; exact absurd h h2
        | succ j => exact ⟨j, a, by simpa using h1, h2⟩
    · rw [if_neg h]
      exact ⟨fun _ => ⟨0, k, rfl, h⟩, fun _ => by omega⟩
theorem many_two : ∀ {ks : List Nd}, 2 ≤ manyP ks ↔ ∃ (i j : Nat) (a b : Nd), i < j ∧ ks[i]? = some a ∧ a.kd ≠ 0 ∧ ks[j]? = some b ∧ b.kd ≠ 0
  | [] => by simp [manyP]
  | k :: ks => by
    have ih := many_two (ks := ks)
    have ih1 := many_one (ks := ks)
    unfold manyP
    by_cases h : k.kd = 0
    · rw [if_pos h, Nat.zero_add, ih]
      constructor
      · rintro ⟨i, j, a, b, h0, h1, h2, h3, h4⟩; exact ⟨i + 1, j + 1, a, b, by omega, by simpa using h1, h2, by simpa using h3, h4⟩
      · rintro ⟨i, j, a, b, h0, h1, h2, h3, h4⟩
        cases i with
        | zero => simp only [List.getElem?_cons_zero, Option.some.injEq] at h1; subst h1; exact absurd h h2
        | succ i =>
          cases j with
          | zero => omega
          | succ j => exact ⟨i, j, a, b, by omega, by simpa using h1, h2, by simpa using h3, h4⟩
    · rw [if_neg h]
      constructor
      · intro h2
        obtain ⟨j, a, h3, h4⟩ := ih1.1 (by omega)
        exact ⟨0, j + 1, k, a, by omega, rfl, h, by simpa using h3, h4⟩
      · rintro ⟨i, j, a, b, h0, h1, h2, h3, h4⟩
        cases j with
        | zero => omega
        | succ j =>
          have := ih1.2 ⟨j, b, by simpa using h3, h4⟩
          omega
def hdP (l : List Rt) : Rt := l.head?.getD ([], [])
theorem grw_two (n : Nat) (l : List Rt) (h : 2 ≤ l.length) : grw (n + 1) l = if 0 < fl l then .mk 2 ((hdP l).1.take (fl l)) [] [grw n (shorterP (fl l) l)]
    else .mk 3 [] (if (hdP l).1 = [] then (hdP l).2 else []) ((List.range 16).map fun i => grw n (shorterP 1 (partP i (if (hdP l).1 = [] then l.tail else l)))) := by
  cases l with
  | nil => simp at h
  | cons r l =>
    cases l with
    | nil => simp at h
    | cons r' l' =>
      have hz : fl (r :: r' :: l') = com r.1 ((r' :: l').getLast (by simp)).1 := by
        unfold fl
        have h2 : (r :: r' :: l').getLast? = some ((r' :: l').getLast (by simp)) := by rw [List.getLast?_cons_cons, List.getLast?_eq_some_getLast (by simp)]
        rw [h2]
        rfl
      rw [hz]
      rfl
def bdP (v : List UInt8) (ls : List (List Rt)) : List Rt := (if v = [] then [] else [([], v)]) ++ cat 0 ls
theorem bd_kid {v : List UInt8} {ls : List (List Rt)} (h : bdP v ls ≠ []) : (if (hdP (bdP v ls)).1 = [] then (hdP (bdP v ls)).2 else []) = v ∧ (if (hdP (bdP v ls)).1 = [] then (bdP v ls).tail else bdP v ls) = cat 0 ls := by
  unfold bdP at h ⊢
  by_cases hv : v = []
  · subst hv
    rw [if_pos rfl, List.nil_append] at h ⊢
    cases hc : cat 0 ls with
    | nil => exact absurd hc h
    | cons a l' =>
      obtain ⟨j, lj, hj, s, hs, ha⟩ := cat_mem (i := 0) (ls := ls) (r := a) (by rw [hc]; exact List.mem_cons_self)
      have : (hdP (a :: l')).1 ≠ [] := by show a.1 ≠ []; rw [ha]; simp
      rw [if_neg this, if_neg this]
      exact ⟨rfl, rfl⟩
  · rw [if_neg hv]
    exact ⟨rfl, rfl⟩
theorem fl_bd {v : List UInt8} {ls : List (List Rt)} (hv : v ≠ []) : fl (bdP v ls) = 0 := by
  unfold fl bdP
  rw [if_neg hv]
  exact com_nil _
theorem range16 (f : Nat → Pn) (i : Nat) (x : Pn) (h : ((List.range 16).map f)[i]? = some x) : i < 16 ∧ x = f i := by
  rw [List.getElem?_map] at h
  have hi : i < 16 := by
    rcases Nat.lt_or_ge i 16 with h1 | h1
    · exact h1
    · rw [List.getElem?_eq_none (by simpa using h1)] at h; simp at h
  rw [List.getElem?_range hi] at h
  simp only [Option.map_some, Option.some.injEq] at h
  exact ⟨hi, h.symm⟩
theorem part_bd {ls : List (List Rt)} (hl : ls.length = 16) (i : Nat) : shorterP 1 (partP i (cat 0 ls)) = ls[i]?.getD [] := by
  rw [part_cat ls 0 i (by omega), if_pos (Nat.zero_le _), Nat.sub_zero]
  exact shorter_pre [UInt8.ofNat i] _
theorem grw_nil (m : Nat) : grw m [] = .mk 0 [] [] [] := by cases m <;> rfl
theorem endsP_iff (d : Nat) : endsP d = true ↔ d % 2 = 0 ∧ d ≤ 64 := by unfold endsP; simp
/-- a right tree is what grows of its routes, and these are fine -/
theorem rgt_grw : ∀ (n : Nat) (t : Nd), SizeOf.sizeOf t ≤ n → ∀ d, rgt d t = true → ∃ l, rts t = some l ∧ (∀ r ∈ l, fineP d r) ∧ (t.kd ≠ 0 → l ≠ []) ∧ (t.kd = 3 → 2 ≤ l.length ∧ fl l = 0) ∧ ∀ m, (∀ r ∈ l, r.1.length < m) → sameP t (grw m l) = true
  | 0, .mk kd pv p vv v kv ks, h, d, _ => by simp at h
  | n + 1, .mk kd pv p vv v kv ks, h, d, hr => by
    have hks : ∀ k ∈ ks, SizeOf.sizeOf k ≤ n := by
      intro k hk
      have := List.sizeOf_lt_of_mem hk
      simp only [Nd.mk.sizeOf_spec] at h
      omega
    unfold rgt at hr
    by_cases h0 : kd = 0
    · subst h0
      exact ⟨[], by simp [rts], by simp, fun e => absurd rfl e, fun e => by simp [Nd.kd] at e, fun m _ => by rw [grw_nil]; simp [sameP]⟩
    · rw [if_neg h0] at hr
      by_cases h1 : kd = 1
      · subst h1
        rw [if_pos rfl] at hr
        simp only [Bool.and_eq_true, decide_eq_true_eq, endsP_iff] at hr
        obtain ⟨⟨⟨hh, he1, he2⟩, hv1⟩, hv2⟩ := hr
        refine ⟨[(p, v)], by simp [rts, hh], ?_, by simp, fun e => by simp [Nd.kd] at e, fun m hm => ?_⟩
        · intro r hr
          simp only [List.mem_singleton] at hr
          subst hr
          exact ⟨he1, he2, hv1, hv2⟩
        · cases m with
          | zero => have := hm _ (List.mem_singleton.2 rfl); omega
          | succ m => simp [grw, sameP]
      · rw [if_neg h1] at hr
        by_cases h2 : kd = 2
        · subst h2
          rw [if_pos rfl] at hr
          simp only [Bool.and_eq_true, decide_eq_true_eq] at hr
          obtain ⟨⟨⟨⟨hp, hh⟩, hl⟩, hk3⟩, hrk⟩ := hr
          obtain ⟨k, rfl⟩ := List.length_eq_one_iff.1 hl
          simp only [List.getElem?_cons_zero, Option.map_some, Option.getD_some] at hk3
          rw [rgtL_iff] at hrk
          obtain ⟨l, hl1, hl2, hl3, hl4, hl5⟩ := rgt_grw n k (hks k (List.mem_singleton.2 rfl)) _ (hrk k (List.mem_singleton.2 rfl))
          obtain ⟨h2l, hf⟩ := hl4 hk3
          have hne : l ≠ [] := fun e => by rw [e] at h2l; simp at h2l
          have hr : rts (.mk 2 pv p vv v kv [k]) = some (pre p l) := by
            simp [rts, hh, rtsL, hl1]
          refine ⟨pre p l, hr, ?_, ?_, fun e => by simp [Nd.kd] at e, ?_⟩
          · intro r hr
            obtain ⟨s, hs, rfl⟩ := pre_mem hr
            have := hl2 s hs
            unfold fineP at this ⊢
            simp only [List.length_append, ← Nat.add_assoc]
            exact this
          · intro _ e
            have := congrArg List.length e
            rw [pre_len] at this
            simp at this
            exact hne this
          · intro m hm
            have hs0 : ∀ s ∈ l, p.length + s.1.length < m := fun s hs => by have := hm _ (mem_pre hs); simpa using this
            cases m with
            | zero => obtain ⟨s, hs⟩ := List.exists_mem_of_ne_nil l hne; have := hs0 s hs; omega
            | succ m =>
              have hfl : fl (pre p l) = p.length := by rw [fl_pre p l hne, hf]; rfl
              rw [grw_two m _ (by rw [pre_len]; exact h2l), hfl, if_pos hp, shorter_pre]
              have hhd : (hdP (pre p l)).1.take p.length = p := by
                cases l with
                | nil => exact absurd rfl hne
                | cons a l => simp [hdP, pre]
              rw [hhd]
              have := hl5 m (fun r hr => by have := hs0 r hr; omega)
              simp [sameP, sameL, this]
        · rw [if_neg h2] at hr
          by_cases h3 : kd = 3
          · subst h3
            rw [if_pos rfl] at hr
            simp only [Bool.and_eq_true, decide_eq_true_eq, Bool.or_eq_true, endsP_iff] at hr
            obtain ⟨⟨⟨⟨hl, hv⟩, he⟩, hrk⟩, hm2⟩ := hr
            rw [rgtL_iff] at hrk
            have ih := fun k (hk : k ∈ ks) => rgt_grw n k (hks k hk) _ (hrk k hk)
            obtain ⟨ls, hls⟩ := rtsL_all (fun k hk => (ih k hk).imp fun l hl => hl.1)
            obtain ⟨hll, hat⟩ := rtsL_at hls
            have hr : rts (.mk 3 pv p vv v kv ks) = some (bdP v ls) := by
              simp [rts, hls, hl, bdP]
            have hkid : ∀ (i : Nat) (k : Nd), ks[i]? = some k → ∃ l, ls[i]? = some l ∧ (∀ r ∈ l, fineP (d + 1) r) ∧ (k.kd ≠ 0 → l ≠ []) ∧ ∀ m, (∀ r ∈ l, r.1.length < m) → sameP k (grw m l) = true := by
              intro i k hk
              obtain ⟨l, hl1, hl2⟩ := hat i k hk
              obtain ⟨l', hl1', a, b, _, c⟩ := ih k (List.mem_of_getElem? hk)
              rw [hl2] at hl1'
              cases hl1'
              exact ⟨l, hl1, a, b, c⟩
            have hkat : ∀ (i : Nat) (l : List Rt), ls[i]? = some l → ∃ k, ks[i]? = some k := by
              intro i l hi
              have := (List.getElem?_eq_some_iff.1 hi).1
              exact ⟨ks[i]'(by omega), List.getElem?_eq_getElem (by omega)⟩
            have hfl : fl (bdP v ls) = 0 ∧ 2 ≤ (bdP v ls).length := by
              by_cases hvn : v = []
              · have h2m : 2 ≤ manyP ks := by rw [hvn] at hm2; simp at hm2; exact hm2
                obtain ⟨i, j, a, b, hij, ha, ha0, hb, hb0⟩ := many_two.1 h2m
                obtain ⟨la, hla, _, hna, _⟩ := hkid i a ha
                obtain ⟨lb, hlb, _, hnb, _⟩ := hkid j b hb
                have hf : fl (cat 0 ls) = 0 := cat_fl (by omega) hij hla (hna ha0) hlb (hnb hb0)
                unfold bdP
                rw [if_pos hvn, List.nil_append]
                refine ⟨hf, ?_⟩
                obtain ⟨s, hs⟩ := List.exists_mem_of_ne_nil la (hna ha0)
                have hm1 := mem_cat (i := 0) hla hs
                match hc : cat 0 ls with
                | [] => rw [hc] at hm1; simp at hm1
                | [x] =>
                  rw [hc] at hf
                  obtain ⟨j, lj, hj, s, hs, ha⟩ := cat_mem (i := 0) (ls := ls) (r := x) (by rw [hc]; exact List.mem_cons_self)
                  rw [ha] at hf
                  simp [fl, com] at hf
                | _ :: _ :: _ => simp
              · refine ⟨fl_bd hvn, ?_⟩
                have hvl : 1 ≤ v.length := by cases v with | nil => exact absurd rfl hvn | cons _ _ => simp
                have h1m : 1 ≤ manyP ks := by have h9 : min v.length 1 = 1 := (by omega); omega
                obtain ⟨i, a, ha, ha0⟩ := many_one.1 h1m
                obtain ⟨la, hla, _, hna, _⟩ := hkid i a ha
                obtain ⟨s, hs⟩ := List.exists_mem_of_ne_nil la (hna ha0)
                have hm1 := mem_cat (i := 0) hla hs
                have := List.length_pos_of_mem hm1
                unfold bdP
                rw [if_neg hvn, List.length_append]
                simp only [List.length_singleton]
                omega
            obtain ⟨hf, h2l⟩ := hfl
            have hne : bdP v ls ≠ [] := fun e => by rw [e] at h2l; simp at h2l
            refine ⟨bdP v ls, hr, ?_, fun _ => hne, fun _ => ⟨h2l, hf⟩, ?_⟩
            · intro r hr
              unfold bdP at hr
              rw [List.mem_append] at hr
              rcases hr with hr | hr
              · split at hr
                · simp at hr
                · rename_i hvn
                  simp only [List.mem_singleton] at hr
                  subst hr
                  have hvl : v.length ≠ 0 := fun e => hvn (List.eq_nil_of_length_eq_zero e)
                  rcases he with he | he
                  · exact absurd he hvl
                  · exact ⟨by simpa using he.1, by simpa using he.2, by show 0 < v.length; omega, hv⟩
              · obtain ⟨j, l, hj, s, hs, rfl⟩ := cat_mem hr
                obtain ⟨k, hk⟩ := hkat j l hj
                obtain ⟨l', hl1, hl2, _⟩ := hkid j k hk
                rw [hj] at hl1
                cases hl1
                have := hl2 s hs
                unfold fineP at this ⊢
                simp only [List.length_cons]
                obtain ⟨a, b, c, e⟩ := this
                exact ⟨by omega, by omega, c, e⟩
            · intro m hm
              cases m with
              | zero => obtain ⟨s, hs⟩ := List.exists_mem_of_ne_nil _ hne; have := hm s hs; omega
              | succ m =>
                obtain ⟨hb1, hb2⟩ := bd_kid hne
                rw [grw_two m _ h2l, hf, if_neg (by omega), hb1, hb2]
                have : sameL ks ((List.range 16).map fun i => grw m (shorterP 1 (partP i (cat 0 ls)))) = true := by
                  rw [sameL_iff]
                  refine ⟨by simp [hl], fun i k x hk hx => ?_⟩
                  obtain ⟨hi, rfl⟩ := range16 _ i x hx
                  obtain ⟨l, hl1, _, _, hl4⟩ := hkid i k hk
                  rw [part_bd (by omega) i, hl1]
                  refine hl4 m (fun r hr => ?_)
                  have := hm (UInt8.ofNat (0 + i) :: r.1, r.2) (by unfold bdP; rw [List.mem_append]; exact .inr (mem_cat hl1 hr))
                  simp only [List.length_cons] at this
                  omega
                simp [sameP, this]
          · rw [if_neg h3] at hr
            simp at hr
/-- what grows of its fine routes is right -/
theorem grw_rgt : ∀ (n : Nat) (t : Nd), SizeOf.sizeOf t ≤ n → ∀ d l m, rts t = some l → (∀ r ∈ l, fineP d r) → (∀ r ∈ l, r.1.length < m) → sameP t (grw m l) = true → rgt d t = true
  | 0, .mk kd pv p vv v kv ks, h, d, l, m, _, _, _, _ => by simp at h
  | n + 1, .mk kd pv p vv v kv ks, h, d, l, m, hr, hf, hm, hs => by
    have hks : ∀ k ∈ ks, SizeOf.sizeOf k ≤ n := by
      intro k hk
      have := List.sizeOf_lt_of_mem hk
      simp only [Nd.mk.sizeOf_spec] at h
      omega
    unfold rts at hr
    by_cases hh : (kd = 1 ∨ kd = 2) ∧ half p = false
    · rw [if_pos hh] at hr; simp at hr
    · rw [if_neg hh] at hr
      by_cases h0 : kd = 0
      · unfold rgt; rw [if_pos h0]
      · rw [if_neg h0] at hr
        by_cases h1 : kd = 1
        · subst h1
          rw [if_pos rfl] at hr
          simp only [Option.some.injEq] at hr
          subst hr
          obtain ⟨a, b, c, e⟩ := hf _ (List.mem_singleton.2 rfl)
          have hh2 : half p = true := by cases hx : half p with | true => rfl | false => exact absurd ⟨.inl rfl, hx⟩ hh
          unfold rgt
          simp only [Int.reduceEq, reduceIte, Bool.and_eq_true, decide_eq_true_eq, endsP_iff]
          exact ⟨⟨⟨hh2, a, b⟩, c⟩, e⟩
        · rw [if_neg h1] at hr
          by_cases h2 : kd = 2 ∧ ks.length = 1
          · rw [if_pos h2] at hr
            obtain ⟨h2, hl⟩ := h2
            subst h2
            obtain ⟨k, rfl⟩ := List.length_eq_one_iff.1 hl
            have hh2 : half p = true := by cases hx : half p with | true => rfl | false => exact absurd ⟨.inr rfl, hx⟩ hh
            cases hrk : rts k with
            | none => simp [rtsL, hrk] at hr
            | some l' =>
              simp only [rtsL, hrk, Option.map_some, List.flatten_cons, List.flatten_nil, List.append_nil, Option.some.injEq] at hr
              subst hr
              have h2l : 2 ≤ (pre p l').length := by
                match hc : pre p l' with
                | [] => rw [hc, grw_nil] at hs; simp [sameP] at hs
                | [x] => rw [hc] at hs; cases m <;> simp [sameP, grw] at hs
                | _ :: _ :: _ => simp
              cases m with
              | zero => simp [grw, sameP] at hs
              | succ m =>
                rw [grw_two m _ h2l] at hs
                rw [pre_len] at h2l
                have hne : l' ≠ [] := fun e => by rw [e] at h2l; simp at h2l
                have hflp := fl_pre p l' hne
                split at hs
                · rename_i hpos
                  simp only [sameP, sameL, ne_eq, not_true_eq_false, reduceIte, Int.reduceEq, Bool.and_eq_true, beq_iff_eq, and_true] at hs
                  obtain ⟨hs1, hs2⟩ := hs
                  have hcl : fl (pre p l') ≤ (hdP (pre p l')).1.length := by
                    unfold fl hdP
                    cases hc : pre p l' with
                    | nil => simp [com]
                    | cons a q => exact (com_le _ _).1
                  have hpl : p.length = fl (pre p l') := by
                    have := congrArg List.length hs1
                    rw [List.length_take] at this
                    omega
                  have hf0 : fl l' = 0 := by omega
                  rw [← hpl, shorter_pre] at hs2
                  have hmm : ∀ r ∈ l', r.1.length < m := by
                    intro r hr
                    have := hm _ (mem_pre (p := p) hr)
                    simp only [List.length_append] at this
                    omega
                  have hfn : ∀ r ∈ l', fineP (d + p.length) r := by
                    intro r hr
                    have := hf _ (mem_pre (p := p) hr)
                    unfold fineP at this ⊢
                    simp only [List.length_append, ← Nat.add_assoc] at this
                    exact this
                  have hrg := grw_rgt n k (hks k (List.mem_singleton.2 rfl)) _ _ _ hrk hfn hmm hs2
                  have hk3 : k.kd = 3 := by
                    cases m with
                    | zero => obtain ⟨s, hs⟩ := List.exists_mem_of_ne_nil l' hne; have := hmm s hs; omega
                    | succ m =>
                      rw [grw_two m _ h2l, hf0, if_neg (by omega)] at hs2
                      obtain ⟨kd', pv', p', vv', v', kv', ks'⟩ := k
                      unfold sameP at hs2
                      show kd' = 3
                      by_cases hx : kd' = 3
                      · exact hx
                      · rw [if_pos hx] at hs2; simp at hs2
                  unfold rgt
                  simp only [Int.reduceEq, reduceIte, Bool.and_eq_true, decide_eq_true_eq, rgtL, hrg, hh2, List.length_singleton, List.getElem?_cons_zero, Option.map_some, Option.getD_some, hk3, and_true]
                  omega
                · simp [sameP] at hs
          · rw [if_neg h2] at hr
            by_cases h3 : kd = 3 ∧ ks.length = 16
            · rw [if_pos h3] at hr
              obtain ⟨h3, hl⟩ := h3
              subst h3
              cases hls : rtsL ks with
              | none => rw [hls] at hr; simp at hr
              | some ls =>
                rw [hls] at hr
                simp only [Option.map_some, Option.some.injEq] at hr
                change bdP v ls = l at hr
                subst hr
                obtain ⟨hll, hat⟩ := rtsL_at hls
                have h2l : 2 ≤ (bdP v ls).length := by
                  match hc : bdP v ls with
                  | [] => rw [hc, grw_nil] at hs; simp [sameP] at hs
                  | [x] => rw [hc] at hs; cases m <;> simp [sameP, grw] at hs
                  | _ :: _ :: _ => simp
                have hne : bdP v ls ≠ [] := fun e => by rw [e] at h2l; simp at h2l
                cases m with
                | zero => simp [grw, sameP] at hs
                | succ m =>
                  rw [grw_two m _ h2l] at hs
                  split at hs
                  · simp [sameP] at hs
                  · rename_i hpos
                    obtain ⟨hb1, hb2⟩ := bd_kid hne
                    rw [hb1, hb2] at hs
                    simp only [sameP, ne_eq, not_true_eq_false, reduceIte, Int.reduceEq, Bool.and_eq_true, beq_iff_eq, true_and, sameL_iff] at hs
                    obtain ⟨_, hs⟩ := hs
                    have hrk : ∀ k ∈ ks, rgt (d + 1) k = true := by
                      intro k hk
                      obtain ⟨i, hi⟩ := List.getElem?_of_mem hk
                      obtain ⟨li, hli, hrk⟩ := hat i k hi
                      have hi16 : i < 16 := by have := (List.getElem?_eq_some_iff.1 hi).1; omega
                      have hsi := hs i k (grw m (shorterP 1 (partP i (cat 0 ls)))) hi (by rw [List.getElem?_map, List.getElem?_range hi16]; rfl)
                      rw [part_bd (by omega) i, hli] at hsi
                      refine grw_rgt n k (hks k hk) _ _ _ hrk (fun r hr => ?_) (fun r hr => ?_) hsi
                      · have := hf (UInt8.ofNat (0 + i) :: r.1, r.2) (by unfold bdP; rw [List.mem_append]; exact .inr (mem_cat hli hr))
                        unfold fineP at this ⊢
                        simp only [List.length_cons] at this
                        obtain ⟨a, b, c, e⟩ := this
                        exact ⟨by omega, by omega, c, e⟩
                      · have := hm (UInt8.ofNat (0 + i) :: r.1, r.2) (by unfold bdP; rw [List.mem_append]; exact .inr (mem_cat hli hr))
                        simp only [List.length_cons] at this
                        omega
                    have hnon : ∀ (i : Nat) (li : List Rt), ls[i]? = some li → li ≠ [] → ∃ k, ks[i]? = some k ∧ k.kd ≠ 0 := by
                      intro i li hi hn
                      have hi1 := (List.getElem?_eq_some_iff.1 hi).1
                      have hk : ks[i]? = some (ks[i]'(by omega)) := List.getElem?_eq_getElem (by omega)
                      refine ⟨_, hk, fun e => hn ?_⟩
                      obtain ⟨li', h1, h2⟩ := hat i _ hk
                      rw [hi] at h1
                      cases h1
                      revert e h2
                      generalize ks[i]'(by omega) = k
                      intro e h2
                      obtain ⟨kd', pv', p', vv', v', kv', ks'⟩ := k
                      change kd' = 0 at e
                      subst e
                      simp [rts] at h2
                      exact h2
                    have hval : v.length ≤ 1024 ∧ (v.length = 0 ∨ endsP d = true) := by
                      by_cases hvn : v = []
                      · subst hvn; exact ⟨by simp, .inl rfl⟩
                      · obtain ⟨a, b, c, e⟩ := hf ([], v) (by unfold bdP; rw [if_neg hvn]; simp)
                        exact ⟨e, .inr ((endsP_iff d).2 ⟨by simpa using a, by simpa using b⟩)⟩
                    have hmany : 2 ≤ min v.length 1 + manyP ks := by
                      by_cases hvn : v = []
                      · have hbd : bdP v ls = cat 0 ls := by unfold bdP; rw [if_pos hvn]; rfl
                        rw [hbd] at hne hpos
                        obtain ⟨j, k, hjk, ⟨lj, hlj, hnj⟩, lk, hlk, hnk⟩ := fl_cat (i := 0) (ls := ls) (by omega) (by omega) hne
                        obtain ⟨a, ha, ha0⟩ := hnon j lj hlj hnj
                        obtain ⟨b, hb, hb0⟩ := hnon k lk hlk hnk
                        have := many_two.2 ⟨j, k, a, b, hjk, ha, ha0, hb, hb0⟩
                        omega
                      · have hvl : 1 ≤ v.length := by cases v with | nil => exact absurd rfl hvn | cons _ _ => simp
                        have hc : cat 0 ls ≠ [] := by
                          intro e
                          unfold bdP at h2l
                          rw [e, if_neg hvn] at h2l
                          simp at h2l
                        obtain ⟨x, hx⟩ := List.exists_mem_of_ne_nil _ hc
                        obtain ⟨j, lj, hj, s, hs, _⟩ := cat_mem hx
                        obtain ⟨a, ha, ha0⟩ := hnon j lj hj (List.ne_nil_of_mem hs)
                        have := many_one.2 ⟨j, a, ha, ha0⟩
                        have : min v.length 1 = 1 := by omega
                        omega
                    unfold rgt
                    simp only [Int.reduceEq, reduceIte, Bool.and_eq_true, decide_eq_true_eq, Bool.or_eq_true, rgtL_iff]
                    exact ⟨⟨⟨⟨hl, hval.1⟩, hval.2⟩, hrk⟩, hmany⟩
            · rw [if_neg h3] at hr
              simp at hr
/-- the two answers -/
theorem rgt_iff (t : Nd) (m : Nat) (hm : 65 ≤ m) : rgt 0 t = match rts t with | none => false | some l => l.all (fun r => decide (fineP 0 r)) && sameP t (grw m l) := by
  cases hr : rgt 0 t with
  | true =>
    obtain ⟨l, h1, h2, _, _, h3⟩ := rgt_grw (SizeOf.sizeOf t) t (Nat.le_refl _) 0 hr
    rw [h1]
    dsimp only
    have h4 := h3 m (fun r hr => by have := (h2 r hr).2.1; omega)
    rw [h4, Bool.and_true]
    symm
    rw [List.all_eq_true]
    exact fun r hr => decide_eq_true (h2 r hr)
  | false =>
    cases hl : rts t with
    | none => rfl
    | some l =>
      dsimp only
      symm
      rw [← Bool.not_eq_true, Bool.and_eq_true, List.all_eq_true]
      rintro ⟨h1, h2⟩
      have := grw_rgt (SizeOf.sizeOf t) t (Nat.le_refl _) 0 l m hl (fun r hr => of_decide_eq_true (h1 r hr)) (fun r hr => by have := (of_decide_eq_true (h1 r hr)).2.1; omega) h2
      rw [this] at hr
      simp at hr
end Go.Proofs.Ytljbbpcnoajfeaa
/- (Tree4) Routes stand in order; what grown asks of a list: plain Lean. -/
namespace Go.Proofs.Ytljbbpcnoajfeaa
open Go.RowKit
def ltP : List UInt8 → List UInt8 → Prop
  | [], [] => False
  | [], _ :: _ => True
  | _ :: _, [] => False
  | x :: p, y :: q => x.toNat < y.toNat ∨ (x = y ∧ ltP p q)
def leP (p q : List UInt8) : Prop := p = q ∨ ltP p q
theorem ltP_pre (a : List UInt8) {p q : List UInt8} (h : ltP p q) : ltP (a ++ p) (a ++ q) := by
  induction a with
  | nil => exact h
  | cons x a ih => exact .inr ⟨rfl, ih⟩
theorem com_mid : ∀ {a b c : List UInt8}, leP a b → leP b c → com a c ≤ com a b
  | [], b, c, _, _ => by rw [com_nil]; omega
  | x :: a, [], c, h, _ => by rcases h with h | h; simp at h; exact h.elim
  | x :: a, y :: b, [], _, h => by rcases h with h | h; simp at h; exact h.elim
  | x :: a, y :: b, z :: c, h1, h2 => by
    by_cases hxz : x = z
    · subst hxz
      have hxy : x = y := by
        apply UInt8.toNat_inj.1
        rcases h1 with h1 | h1 | h1
        · rw [(List.cons.inj h1).1]
        · rcases h2 with h2 | h2 | h2
          · rw [(List.cons.inj h2).1] at h1; omega
          · omega
          · rw [h2.1] at h1; omega
        · rw [h1.1]
      subst hxy
      have h1' : leP a b := by
        rcases h1 with h1 | h1 | h1
        · exact .inl (List.cons.inj h1).2
        · omega
        · exact .inr h1.2
      have h2' : leP b c := by
        rcases h2 with h2 | h2 | h2
        · exact .inl (List.cons.inj h2).2
        · omega
        · exact .inr h2.2
      have := com_mid h1' h2'
      simp only [com, if_pos]
      omega
    · unfold com
      rw [if_neg hxz]
      omega
theorem ltP_drop : ∀ (c : Nat) {p q : List UInt8}, ltP p q → c ≤ com p q → ltP (p.drop c) (q.drop c)
  | 0, p, q, h, _ => h
  | c + 1, [], q, _, h => by rw [com_nil] at h; omega
  | c + 1, x :: p, [], h, _ => h.elim
  | c + 1, x :: p, y :: q, h, hc => by
    unfold com at hc
    split at hc
    · rename_i e
      subst e
      rcases h with h | h
      · omega
      · exact ltP_drop c h.2 (by omega)
    · omega
theorem ltP_ne {p q : List UInt8} (h : ltP p q) : q ≠ [] := by
  intro e; subst e
  cases p <;> exact h.elim
theorem ltP_trans : ∀ {a b c : List UInt8}, ltP a b → ltP b c → ltP a c
  | [], b, [], _, h2 => absurd rfl (ltP_ne h2)
  | [], _, _ :: _, _, _ => trivial
  | x :: a, [], _, h, _ => h.elim
  | x :: a, y :: b, [], _, h => h.elim
  | x :: a, y :: b, z :: c, h1, h2 => by
    rcases h1 with h1 | h1
    · rcases h2 with h2 | h2
      · left; omega
      · left; rw [← h2.1]; exact h1
    · rcases h2 with h2 | h2
      · left; rw [h1.1]; exact h2
      · right; exact ⟨h1.1.trans h2.1, ltP_trans h1.2 h2.2⟩
def Ord (l : List Rt) : Prop := l.Pairwise fun r s => ltP r.1 s.1
theorem ord_pre (p : List UInt8) {l : List Rt} (h : Ord l) : Ord (pre p l) := by
  unfold Ord pre
  rw [List.pairwise_map]
  exact h.imp fun h => ltP_pre p h
theorem ord_cat {ls : List (List Rt)} : ∀ {i : Nat}, i + ls.length ≤ 256 → (∀ l ∈ ls, Ord l) → Ord (cat i ls) := by
  induction ls with
  | nil => intro i _ _; exact List.Pairwise.nil
  | cons l ls ih =>
    intro i hi h
    simp only [List.length_cons] at hi
    unfold Ord cat
    rw [List.pairwise_append]
    refine ⟨ord_pre _ (h l List.mem_cons_self), ih (by omega) (fun m hm => h m (List.mem_cons_of_mem _ hm)), ?_⟩
    intro r hr s hs
    obtain ⟨r', _, rfl⟩ := pre_mem hr
    obtain ⟨j, m, hj, s', _, rfl⟩ := cat_mem hs
    have hj1 := (List.getElem?_eq_some_iff.1 hj).1
    left
    rw [ofNat_nat (by omega), ofNat_nat (by omega)]
    omega
theorem ord_rts : ∀ (n : Nat) (t : Nd), SizeOf.sizeOf t ≤ n → ∀ l, rts t = some l → Ord l
  | 0, .mk kd pv p vv v kv ks, h, l, _ => by simp at h
  | n + 1, .mk kd pv p vv v kv ks, h, l, hr => by
    have hks : ∀ k ∈ ks, ∀ l, rts k = some l → Ord l := by
      intro k hk
      have := List.sizeOf_lt_of_mem hk
      simp only [Nd.mk.sizeOf_spec] at h
      exact ord_rts n k (by omega)
    unfold rts at hr
    split at hr
    · simp at hr
    · split at hr
      · simp only [Option.some.injEq] at hr; subst hr; exact List.Pairwise.nil
      · split at hr
        · simp only [Option.some.injEq] at hr; subst hr; exact List.pairwise_singleton _ _
        · split at hr
          · rename_i hc
            obtain ⟨k, rfl⟩ := List.length_eq_one_iff.1 hc.2
            cases hk : rts k with
            | none => simp [rtsL, hk] at hr
            | some m =>
              simp only [rtsL, hk, Option.map_some, List.flatten_cons, List.flatten_nil, List.append_nil, Option.some.injEq] at hr
              subst hr
              exact ord_pre p (hks k (List.mem_singleton.2 rfl) m hk)
          · split at hr
            · rename_i hc
              cases hls : rtsL ks with
              | none => rw [hls] at hr; simp at hr
              | some ls =>
                rw [hls] at hr
                simp only [Option.map_some, Option.some.injEq] at hr
                subst hr
                obtain ⟨hll, hat⟩ := rtsL_at hls
                have hc2 : Ord (cat 0 ls) := by
                  refine ord_cat (by omega) (fun m hm => ?_)
                  obtain ⟨i, hi⟩ := List.getElem?_of_mem hm
                  have hi1 := (List.getElem?_eq_some_iff.1 hi).1
                  obtain ⟨m', hm', hk⟩ := hat i (ks[i]'(by omega)) (List.getElem?_eq_getElem (by omega))
                  rw [hi] at hm'
                  cases hm'
                  exact hks _ (List.getElem_mem _) m hk
                unfold Ord
                rw [List.pairwise_append]
                refine ⟨by split; exact List.Pairwise.nil; exact List.pairwise_singleton _ _, hc2, ?_⟩
                intro r hr s hs
                split at hr
                · simp at hr
                · rw [List.mem_singleton] at hr
                  subst hr
                  obtain ⟨j, m, hj, s', _, rfl⟩ := cat_mem hs
                  exact trivial
            · simp at hr
def bodyP (l : List Rt) : List Rt := if (hdP l).1 = [] then l.tail else l
/-- what grown asks of a list -/
def OkR : Nat → List Rt → Prop
  | 0, l => l = []
  | n + 1, l => l.length ≤ 1 ∨ (0 < fl l ∧ (∀ r ∈ l, fl l ≤ r.1.length) ∧ OkR n (shorterP (fl l) l)) ∨ (fl l = 0 ∧ (∀ r ∈ bodyP l, r.1 ≠ []) ∧ ∀ i < 16, OkR n (shorterP 1 (partP i (bodyP l))))
theorem ord_fl {l : List Rt} (h : Ord l) : ∀ r ∈ l, leP (hdP l).1 r.1 ∧ leP r.1 ((l.getLast?.map (·.1)).getD []) := by
  intro r hr
  cases l with
  | nil => simp at hr
  | cons a l =>
    constructor
    · rcases List.mem_cons.1 hr with rfl | hr
      · exact .inl rfl
      · exact .inr ((List.pairwise_cons.1 h).1 r hr)
    · rw [List.getLast?_eq_some_getLast (by simp)]
      have h2 : (a :: l) = (a :: l).dropLast ++ [(a :: l).getLast (by simp)] := (List.dropLast_concat_getLast (by simp)).symm
      unfold Ord at h
      rw [h2, List.pairwise_append] at h
      rw [h2, List.mem_append, List.mem_singleton] at hr
      rcases hr with hr | hr
      · exact .inr (h.2.2 r hr _ (List.mem_singleton.2 rfl))
      · rw [hr]; exact .inl rfl
theorem ord_shorter {l : List Rt} (c : Nat) (h : Ord l) (hc : ∀ r ∈ l, ∀ s ∈ l, ltP r.1 s.1 → c ≤ com r.1 s.1) : Ord (shorterP c l) := by
  unfold Ord shorterP
  rw [List.pairwise_map]
  refine List.Pairwise.imp_of_mem (fun {r s} hr hs h => ?_) h
  exact ltP_drop c h (hc r hr s hs h)
theorem hd_mem {l : List Rt} (h : l ≠ []) : hdP l ∈ l := by
  cases l with
  | nil => exact absurd rfl h
  | cons a l => exact List.mem_cons_self
theorem com_take {p q : List UInt8} {c : Nat} (h : c ≤ com p q) : q.take c = p.take c ∧ c ≤ p.length ∧ c ≤ q.length := by
  have hl := com_le p q
  refine ⟨?_, by omega, by omega⟩
  apply List.ext_getElem
  · simp; omega
  · intro k h1 h2
    simp only [List.length_take] at h1 h2
    rw [List.getElem_take, List.getElem_take]
    exact (com_same p q k (by omega)).symm
theorem com_of_take {p q : List UInt8} : ∀ {c : Nat}, c ≤ p.length → c ≤ q.length → p.take c = q.take c → c ≤ com p q := by
  induction p generalizing q with
  | nil => intro c h1 _ _; simp at h1; omega
  | cons x p ih =>
    intro c h1 h2 h
    cases q with
    | nil => simp at h2; omega
    | cons y q =>
      cases c with
      | zero => omega
      | succ c =>
        simp only [List.take_succ_cons, List.cons.injEq] at h
        unfold com
        rw [if_pos h.1]
        have := ih (q := q) (c := c) (by simpa using h1) (by simpa using h2) h.2
        omega
theorem ord_ok : ∀ (m : Nat) (l : List Rt), Ord l → (∀ r ∈ l, r.1.length < m) → OkR m l
  | 0, l, _, h => by
    cases l with
    | nil => rfl
    | cons a l => have := h a List.mem_cons_self; omega
  | m + 1, l, ho, h => by
    unfold OkR
    by_cases h1 : l.length ≤ 1
    · exact .inl h1
    · right
      have hne : l ≠ [] := fun e => by rw [e] at h1; simp at h1
      have hord := ord_fl ho
      have hfle : ∀ r ∈ l, fl l ≤ com (hdP l).1 r.1 := by
        intro r hr
        have h2 := com_mid (hord r hr).1 (hord r hr).2
        have : fl l = com (hdP l).1 ((l.getLast?.map (·.1)).getD []) := by
          cases l with
          | nil => exact absurd rfl hne
          | cons a l => rfl
        omega
      rcases Nat.eq_zero_or_pos (fl l) with h0 | h0
      · right
        have hb : ∀ r ∈ bodyP l, r.1 ≠ [] ∧ r ∈ l := by
          intro r hr
          unfold bodyP at hr
          cases l with
          | nil => exact absurd rfl hne
          | cons a l =>
            split at hr
            · exact ⟨ltP_ne ((List.pairwise_cons.1 ho).1 r hr), List.mem_cons_of_mem _ hr⟩
            · rename_i ha
              refine ⟨?_, hr⟩
              rcases List.mem_cons.1 hr with rfl | hr
              · exact ha
              · exact ltP_ne ((List.pairwise_cons.1 ho).1 r hr)
        refine ⟨h0, fun r hr => (hb r hr).1, fun i hi => ?_⟩
        have hsub : (bodyP l).Sublist l := by unfold bodyP; split; exact List.tail_sublist l; exact List.Sublist.refl _
        have hop : Ord (partP i (bodyP l)) := (List.Pairwise.sublist (List.filter_sublist.trans hsub) ho)
        have hmem : ∀ r ∈ partP i (bodyP l), r ∈ bodyP l ∧ (r.1[0]?.getD 0).toNat = i := by
          intro r hr
          unfold partP at hr
          have := List.mem_filter.1 hr
          exact ⟨this.1, of_decide_eq_true this.2⟩
        refine ord_ok m _ (ord_shorter 1 hop (fun r hr s hs _ => ?_)) (fun r hr => ?_)
        · obtain ⟨r1, r2⟩ := hmem r hr
          obtain ⟨s1, s2⟩ := hmem s hs
          have hr3 := (hb r r1).1
          have hs3 := (hb s s1).1
          obtain ⟨x, p, hx⟩ : ∃ x p, r.1 = x :: p := by cases hh : r.1 with | nil => exact absurd hh hr3 | cons x p => exact ⟨x, p, rfl⟩
          obtain ⟨y, q, hy⟩ : ∃ x p, s.1 = x :: p := by cases hh : s.1 with | nil => exact absurd hh hs3 | cons x p => exact ⟨x, p, rfl⟩
          rw [hx] at r2
          rw [hy] at s2
          simp only [List.getElem?_cons_zero, Option.getD_some] at r2 s2
          have : x = y := UInt8.toNat_inj.1 (r2.trans s2.symm)
          rw [hx, hy, this]
          unfold com
          rw [if_pos rfl]
          omega
        · unfold shorterP at hr
          obtain ⟨s, hs, rfl⟩ := List.mem_map.1 hr
          obtain ⟨s1, _⟩ := hmem s hs
          have h3 := h s (hb s s1).2
          have h4 := (hb s s1).1
          have : 0 < s.1.length := List.length_pos_iff.2 h4
          simp only [List.length_drop]
          omega
      · left
        have hlen : ∀ r ∈ l, fl l ≤ r.1.length := fun r hr => by have := hfle r hr; have := com_le (hdP l).1 r.1; omega
        refine ⟨h0, hlen, ord_ok m _ (ord_shorter _ ho (fun r hr s hs _ => ?_)) (fun r hr => ?_)⟩
        · obtain ⟨a1, a2, a3⟩ := com_take (hfle r hr)
          obtain ⟨b1, b2, b3⟩ := com_take (hfle s hs)
          exact com_of_take a3 b3 (a1.trans b1.symm)
        · unfold shorterP at hr
          obtain ⟨s, hs, rfl⟩ := List.mem_map.1 hr
          have h3 := h s hs
          have h4 := hlen s hs
          simp only [List.length_drop]
          omega
end Go.Proofs.Ytljbbpcnoajfeaa
