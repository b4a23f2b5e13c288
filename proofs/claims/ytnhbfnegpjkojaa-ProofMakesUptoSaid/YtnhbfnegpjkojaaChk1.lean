/- What codes show of a key: plain Lean. -/
import Derived.Test.YtnhbfnegpjkojaaRootReadsW
import Derived.Test.YtnhbfnegpjkojaaNib1
import Derived.Test.YtnhbfnegpjkojaaSumA
set_option linter.unusedSimpArgs false
set_option linter.unusedVariables false
namespace Go.Proofs.Ytnhbfnegpjkojaa
open Go.RowKit
/-- behind a shape: the sum by which a path goes on, what is left of it, the value on which it ends -/
def nxtP (s : Shq) (p : List UInt8) : List UInt8 × List UInt8 × List UInt8 :=
  if s.1 = 1 then (if s.2.1 = p then ([], [], s.2.2.1) else ([], [], []))
  else if s.1 = 2 then (if com s.2.1 p = s.2.1.length then (s.2.2.2[0]?.getD [], p.drop s.2.1.length, []) else ([], [], []))
  else if s.1 = 3 then (match p with
    | [] => ([], [], s.2.2.1)
    | x :: p => (s.2.2.2[x.toNat]?.getD [], p, []))
  else ([], [], [])
/-- what the codes show: a value, an error -/
def shw (h left : List UInt8) : Bool → List (List UInt8) → List UInt8 × Int
  | _, [] => ([], 5)
  | first, c :: cs => if sumB c = h then
      (match rdB c with
      | none => ([], 1)
      | some s => if first = false ∧ s.1 = 0 then ([], 1)
        else if (nxtP s left).1 = [] then (if cs = [] then ((nxtP s left).2.2, 0) else ([], 6))
        else shw (nxtP s left).1 (nxtP s left).2.1 false cs)
    else ([], 4)
theorem okQ_kinds {s : Shq} (h : okQ s = true) : s.1 = 0 ∨ s.1 = 1 ∨ (s.1 = 2 ∧ s.2.2.2.length = 1 ∧ (s.2.2.2[0]?.getD []).length = 32) ∨ (s.1 = 3 ∧ s.2.2.2.length = 16 ∧ ∀ k ∈ s.2.2.2, k.length = 32 ∨ k.length = 0) := by
  unfold okQ shOk at h
  by_cases h0 : s.1 = 0
  · exact .inl h0
  · rw [if_neg h0] at h
    by_cases h1 : s.1 = 1
    · exact .inr (.inl h1)
    · rw [if_neg h1] at h
      by_cases h2 : s.1 = 2
      · rw [if_pos h2] at h
        simp only [Bool.and_eq_true, decide_eq_true_eq] at h
        exact .inr (.inr (.inl ⟨h2, h.1.2, h.2⟩))
      · rw [if_neg h2] at h
        by_cases h3 : s.1 = 3
        · rw [if_pos h3] at h
          simp only [Bool.and_eq_true, decide_eq_true_eq, List.all_eq_true] at h
          refine .inr (.inr (.inr ⟨h3, h.1.1.1, fun k hk => ?_⟩))
          have := h.1.2 k hk
          unfold sumOk at this
          simpa using this
        · rw [if_neg h3] at h
          simp at h
theorem com_all (p : List UInt8) : ∀ q, com p q = p.length ↔ p.length ≤ q.length ∧ q.take p.length = p := by
  induction p with
  | nil => intro q; cases q <;> simp [com]
  | cons x p ih =>
    intro q
    cases q with
    | nil => simp [com]
    | cons y q =>
      unfold com
      by_cases h : x = y
      · subst h
        rw [if_pos rfl]
        have := ih q
        simp only [List.length_cons, List.take_succ_cons, List.cons.injEq, true_and]
        constructor
        · intro e
          obtain ⟨h1, h2⟩ := this.1 (by omega)
          exact ⟨by omega, h2⟩
        · rintro ⟨h1, h2⟩
          have := this.2 ⟨by omega, h2⟩
          omega
      · rw [if_neg h]
        simp only [List.length_cons, List.take_succ_cons, List.cons.injEq]
        constructor
        · intro e; omega
        · rintro ⟨_, h2, _⟩; exact absurd h2.symm h
/-- where it goes on behind a node: a kid's number, what is left, whether it ends on a value -/
def wayP (kd : Int) (p q : List UInt8) : Int × List UInt8 × Bool :=
  if kd = 1 then (-1, [], p == q)
  else if kd = 2 then (if p.length ≤ q.length ∧ q.take p.length = p then (0, q.drop p.length, false) else (-1, [], false))
  else if kd = 3 then (match q with
    | [] => (-1, [], true)
    | x :: q => ((x.toNat : Int), q, false))
  else (-1, [], false)
/-- the one and the other -/
theorem way_next {s : Shq} (h : okQ s = true) (q : List UInt8) (hq : ∀ x ∈ q, x.toNat < 16) :
    ((wayP s.1 s.2.1 q).1 = -1 ∧ (nxtP s q).1 = [] ∧ (nxtP s q).2.2 = if (wayP s.1 s.2.1 q).2.2 = true then s.2.2.1 else []) ∨
    ∃ k : Nat, (wayP s.1 s.2.1 q).1 = (k : Int) ∧ k < s.2.2.2.length ∧ (nxtP s q).1 = s.2.2.2[k]?.getD [] ∧ (nxtP s q).2.1 = (wayP s.1 s.2.1 q).2.1 ∧ (nxtP s q).2.2 = [] ∧ (wayP s.1 s.2.1 q).2.2 = false ∧ ((nxtP s q).1.length = 32 ∨ (nxtP s q).1.length = 0) := by
  rcases okQ_kinds h with h0 | h1 | ⟨h2, h21, h22⟩ | ⟨h3, h31, h32⟩
  · left
    unfold wayP nxtP
    rw [h0]
    simp
  · left
    unfold wayP nxtP
    rw [h1]
    by_cases he : s.2.1 = q
    · simp [he]
    · have : (s.2.1 == q) = false := by rw [beq_eq_false_iff_ne]; exact he
      simp [he]
  · unfold wayP nxtP
    simp only [h2, Int.reduceEq, reduceIte]
    by_cases hc : com s.2.1 q = s.2.1.length
    · right
      rw [if_pos hc, if_pos ((com_all _ _).1 hc)]
      exact ⟨0, rfl, by omega, rfl, rfl, rfl, rfl, .inl h22⟩
    · left
      rw [if_neg hc, if_neg (fun e => hc ((com_all _ _).2 e))]
      exact ⟨rfl, rfl, rfl⟩
  · unfold wayP nxtP
    simp only [h3, Int.reduceEq, reduceIte]
    cases q with
    | nil => left; exact ⟨rfl, rfl, rfl⟩
    | cons x q =>
      right
      have hx := hq x List.mem_cons_self
      refine ⟨x.toNat, rfl, by omega, rfl, rfl, rfl, rfl, ?_⟩
      dsimp only
      have : s.2.2.2[x.toNat]? = some (s.2.2.2[x.toNat]'(by omega)) := List.getElem?_eq_getElem (by omega)
      rw [this]
      exact h32 _ (List.getElem_mem _)
theorem nxt_rest {s : Shq} {q : List UInt8} (hq : ∀ x ∈ q, x.toNat < 16) : ∀ x ∈ (nxtP s q).2.1, x.toNat < 16 := by
  intro x hx
  unfold nxtP at hx
  split at hx
  · split at hx <;> simp at hx
  · split at hx
    · split at hx
      · exact hq x (List.mem_of_mem_drop hx)
      · simp at hx
    · split at hx
      · cases q with
        | nil => simp at hx
        | cons y q => exact hq x (List.mem_cons_of_mem _ hx)
      · simp at hx
end Go.Proofs.Ytnhbfnegpjkojaa
