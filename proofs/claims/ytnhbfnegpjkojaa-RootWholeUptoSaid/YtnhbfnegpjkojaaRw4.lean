/- Nodes that count: what a right tree has. -/
import Derived.Test.YtnhbfnegpjkojaaRw3
set_option linter.unusedSimpArgs false
set_option linter.unusedVariables false
namespace Go.Proofs.Ytnhbfnegpjkojaa
open Go.RowKit
inductive OkN : Nd → Prop where
  | leaf (pv : Value) (p : List UInt8) (vv : Value) (v : List UInt8) (kv : Value) (ks : List Nd) : OkN (.mk 1 pv p vv v kv ks)
  | inner (kd : Int) (pv : Value) (p : List UInt8) (vv : Value) (v : List UInt8) (kv : Value) (ks : List Nd) (hk : kd = 2 ∨ kd = 3) (h : ∀ k ∈ ks, k.kd ≠ 0 → OkN k) : OkN (.mk kd pv p vv v kv ks)
mutual
theorem rgt_ok : ∀ (d : Nat) (t : Nd), rgt d t = true → t.kd ≠ 0 → OkN t
  | d, .mk kd pv p vv v kv ks, h, hne => by
    unfold rgt at h
    by_cases h0 : kd = 0
    · exact absurd h0 hne
    · rw [if_neg h0] at h
      by_cases h1 : kd = 1
      · subst h1; exact .leaf ..
      · rw [if_neg h1] at h
        by_cases h2 : kd = 2
        · rw [if_pos h2] at h
          simp only [Bool.and_eq_true] at h
          exact .inner kd pv p vv v kv ks (.inl h2) (rgtL_ok _ ks h.2)
        · rw [if_neg h2] at h
          by_cases h3 : kd = 3
          · rw [if_pos h3] at h
            simp only [Bool.and_eq_true] at h
            exact .inner kd pv p vv v kv ks (.inr h3) (rgtL_ok _ ks h.1.2)
          · rw [if_neg h3] at h; cases h
theorem rgtL_ok : ∀ (d : Nat) (ks : List Nd), rgtL d ks = true → ∀ k ∈ ks, k.kd ≠ 0 → OkN k
  | _, [], _, k, hk, _ => by simp at hk
  | d, x :: ks, h, k, hk, hne => by
    unfold rgtL at h
    rw [Bool.and_eq_true] at h
    rcases List.mem_cons.1 hk with hk | hk
    · rw [hk] at hne ⊢; exact rgt_ok d x h.1 hne
    · exact rgtL_ok d ks h.2 k hk hne
end
end Go.Proofs.Ytnhbfnegpjkojaa
