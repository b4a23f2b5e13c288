/- tree.inner of a right tree; tree.get. -/
import Derived.Test.YtcgpjceopnfahaaGet2
import Derived.Test.YtcgpjceopnfahaaNib1
set_option linter.unusedSimpArgs false
set_option linter.unusedVariables false
namespace Go.Proofs.Ytcgpjceopnfahaa
open Go.RowKit
theorem inner_any : ∀ (n : Nat) (t : Nd), SizeOf.sizeOf t ≤ n → InC t
  | 0, .mk kd pv p vv v kv ks, h => by simp at h
  | n + 1, .mk kd pv p vv v kv ks, h => by
    intro d w hI hr
    have hks : ∀ k ∈ ks, InC k := by
      intro k hk
      refine inner_any n k ?_
      have := List.sizeOf_lt_of_mem hk
      simp only [Nd.mk.sizeOf_spec] at h
      omega
    obtain ⟨hp, hv, hk, hall⟩ := hI.inv
    obtain ⟨pa, pc, rfl, _, _⟩ := hp.form
    obtain ⟨va, vc, rfl, _, _⟩ := hv.form
    obtain ⟨ka, kc, rfl, _, _⟩ := hk.form
    unfold rgt at hr
    unfold nv
    by_cases h0 : kd = 0
    · subst h0
      exact inner_none pa va ka _ pc _ vc _ kc w
    · rw [if_neg h0] at hr
      by_cases h1 : kd = 1
      · subst h1
        exact inner_leaf pa va ka _ pc _ vc _ kc w
      · rw [if_neg h1] at hr ⊢
        by_cases h2 : kd = 2
        · subst h2
          rw [if_pos rfl] at hr ⊢
          simp only [Bool.and_eq_true, decide_eq_true_eq] at hr
          obtain ⟨⟨⟨⟨_, _⟩, hl⟩, hk3⟩, hrk⟩ := hr
          obtain ⟨k, rfl⟩ := List.length_eq_one_iff.1 hl
          simp only [List.getElem?_cons_zero, Option.map_some, Option.getD_some] at hk3
          rw [rgtL_iff] at hrk
          exact inner_road pa va ka _ pc _ vc kc w k hk3 _ (hrk k (List.mem_singleton.2 rfl)) hk (hall k (List.mem_singleton.2 rfl)) (hks k (List.mem_singleton.2 rfl))
        · rw [if_neg h2] at hr ⊢
          by_cases h3 : kd = 3
          · subst h3
            rw [if_pos rfl] at hr ⊢
            simp only [Bool.and_eq_true, decide_eq_true_eq] at hr
            obtain ⟨⟨⟨⟨hl, _⟩, _⟩, hrk⟩, _⟩ := hr
            rw [rgtL_iff] at hrk
            have := inner_fork pa va ka p.length pc v.length vc kc ks w hl _ hrk (by rw [← hl]; exact hk) hall hks
            rw [← hl] at this
            exact this
          · rw [if_neg h3] at hr
            simp at hr
theorem as1_1 (x : Value) (W : World) : (Instr.typeAssert (.iface 95 x) 50 95 true).run Try.prog W = .ok (.tuple #[x, .bool true]) W := by kernel_rfl
theorem as2_1 (x : Value) (W : World) : (Instr.typeAssert (.iface 98 x) 50 95 true).run Try.prog W = .ok (.tuple #[.agg #[.slice none 0 0, .slice none 0 0], .bool false]) W := by kernel_rfl
theorem as3_1 (x : Value) (W : World) : (Instr.typeAssert (.iface 102 x) 50 95 true).run Try.prog W = .ok (.tuple #[.agg #[.slice none 0 0, .slice none 0 0], .bool false]) W := by kernel_rfl
theorem as0_1 (W : World) : (Instr.typeAssert .nilIface 50 95 true).run Try.prog W = .ok (.tuple #[.agg #[.slice none 0 0, .slice none 0 0], .bool false]) W := by kernel_rfl
theorem as2_2 (x : Value) (W : World) : (Instr.typeAssert (.iface 98 x) 50 98 true).run Try.prog W = .ok (.tuple #[x, .bool true]) W := by kernel_rfl
theorem as3_2 (x : Value) (W : World) : (Instr.typeAssert (.iface 102 x) 50 98 true).run Try.prog W = .ok (.tuple #[.agg #[.slice none 0 0, .nilIface], .bool false]) W := by kernel_rfl
theorem as0_2 (W : World) : (Instr.typeAssert .nilIface 50 98 true).run Try.prog W = .ok (.tuple #[.agg #[.slice none 0 0, .nilIface], .bool false]) W := by kernel_rfl
theorem as3_3 (x : Value) (W : World) : (Instr.typeAssert (.iface 102 x) 50 102 true).run Try.prog W = .ok (.tuple #[x, .bool true]) W := by kernel_rfl
def GtPost (v : List UInt8) (w : World) (e : Ending) (w' : World) : Prop := ∃ (a : Option Addr) (n c : Nat), e = .returned (.slice a n c) ∧ Below w.heap.size w w' ∧ Bytes w' (.slice a n c) v
section
variable (pa va qa : Option Addr) (pn pc vn vc qn qc : Nat) (p v q : List UInt8) (w : World)
end
end Go.Proofs.Ytcgpjceopnfahaa
