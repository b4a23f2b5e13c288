/- tree.inner of a right tree; tree.get. -/
import Derived.Test.YtikndlkfmjhgdaaGet2
import Derived.Test.YtikndlkfmjhgdaaNib1
set_option linter.unusedSimpArgs false
set_option linter.unusedVariables false
namespace Go.Proofs.Ytikndlkfmjhgdaa
open Go.RowKit
theorem inner_any : ∀ (n : Nat) (t : Nd), SizeOf.sizeOf t ≤ n → InC t
  | 0, .mk kd pv p vv v kv ks, h => by simp at h
  | n + 1, .mk kd pv p vv v kv ks, h => by
    intro d w hI hr
    have hks : ∀ k ∈ ks, InC k := by
      intro k hk
      refine inner_any n k ?_
      have := List.sizeOf_lt_of_mem hk
      simp only [Nd.mk.sizeOf_spec] at h
      omega
    obtain ⟨hp, hv, hk, hall⟩ := hI.inv
    obtain ⟨pa, pc, rfl, _, _⟩ := hp.form
    obtain ⟨va, vc, rfl, _, _⟩ := hv.form
    obtain ⟨ka, kc, rfl, _, _⟩ := hk.form
    unfold rgt at hr
    unfold nv
    by_cases h0 : kd = 0
    · subst h0
      exact inner_none pa va ka _ pc _ vc _ kc w
    · rw [if_neg h0] at hr
      by_cases h1 : kd = 1
      · subst h1
        exact inner_leaf pa va ka _ pc _ vc _ kc w
      · rw [if_neg h1] at hr ⊢
        by_cases h2 : kd = 2
        · subst h2
          rw [if_pos rfl] at hr ⊢
          simp only [Bool.and_eq_true, decide_eq_true_eq] at hr
          obtain ⟨⟨⟨⟨_, _⟩, hl⟩, hk3⟩, hrk⟩ := hr
          obtain ⟨k, rfl⟩ := List.length_eq_one_iff.1 hl
          simp only [List.getElem?_cons_zero, Option.map_some, Option.getD_some] at hk3
          rw [rgtL_iff] at hrk
          exact inner_road pa va ka _ pc _ vc kc w k hk3 _ (hrk k (List.mem_singleton.2 rfl)) hk (hall k (List.mem_singleton.2 rfl)) (hks k (List.mem_singleton.2 rfl))
        · rw [if_neg h2] at hr ⊢
          by_cases h3 : kd = 3
          · subst h3
            rw [if_pos rfl] at hr ⊢
            simp only [Bool.and_eq_true, decide_eq_true_eq] at hr
            obtain ⟨⟨⟨⟨hl, _⟩, _⟩, hrk⟩, _⟩ := hr
            rw [rgtL_iff] at hrk
            have := inner_fork pa va ka p.length pc v.length vc kc ks w hl _ hrk (by rw [← hl]; exact hk) hall hks
            rw [← hl] at this
            exact this
          · rw [if_neg h3] at hr
            simp at hr
theorem as1_1 (x : Value) (W : World) : (Instr.typeAssert (.iface 190 x) 107 190 true).run Try.prog W = .ok (.tuple #[x, .bool true]) W := by kernel_rfl
theorem as2_1 (x : Value) (W : World) : (Instr.typeAssert (.iface 193 x) 107 190 true).run Try.prog W = .ok (.tuple #[.agg #[.slice none 0 0, .slice none 0 0], .bool false]) W := by kernel_rfl
theorem as3_1 (x : Value) (W : World) : (Instr.typeAssert (.iface 196 x) 107 190 true).run Try.prog W = .ok (.tuple #[.agg #[.slice none 0 0, .slice none 0 0], .bool false]) W := by kernel_rfl
theorem as0_1 (W : World) : (Instr.typeAssert .nilIface 107 190 true).run Try.prog W = .ok (.tuple #[.agg #[.slice none 0 0, .slice none 0 0], .bool false]) W := by kernel_rfl
theorem as2_2 (x : Value) (W : World) : (Instr.typeAssert (.iface 193 x) 107 193 true).run Try.prog W = .ok (.tuple #[x, .bool true]) W := by kernel_rfl
theorem as3_2 (x : Value) (W : World) : (Instr.typeAssert (.iface 196 x) 107 193 true).run Try.prog W = .ok (.tuple #[.agg #[.slice none 0 0, .nilIface], .bool false]) W := by kernel_rfl
theorem as0_2 (W : World) : (Instr.typeAssert .nilIface 107 193 true).run Try.prog W = .ok (.tuple #[.agg #[.slice none 0 0, .nilIface], .bool false]) W := by kernel_rfl
theorem as3_3 (x : Value) (W : World) : (Instr.typeAssert (.iface 196 x) 107 196 true).run Try.prog W = .ok (.tuple #[x, .bool true]) W := by kernel_rfl
def GtPost (v : List UInt8) (w : World) (e : Ending) (w' : World) : Prop := ∃ (a : Option Addr) (n c : Nat), e = .returned (.slice a n c) ∧ Below w.heap.size w w' ∧ Bytes w' (.slice a n c) v
def GtC (k : Nd) : Prop := ∀ (d : Nat) (q : List UInt8) (qa : Option Addr) (qn qc : Nat) (u : World), IsNd u k → rgt d k = true → (∀ x ∈ q, x.toNat < 16) → Bytes u (.slice qa qn qc) q → Calls Try.prog 80 #[nv k, .slice qa qn qc] u (GtPost (getP k q) u)
section
variable (pa va qa : Option Addr) (pn pc vn vc qn qc : Nat) (p v q : List UInt8) (w : World)
theorem get_none : Calls Try.prog 80 #[.nilIface, .slice qa qn qc] w (GtPost [] w) := by
  have z : (Instr.typeAssert .nilIface 107 196 true).run Try.prog w = .ok (.tuple #[.agg #[.nilIface, .nilIface, .nilIface, .nilIface, .nilIface, .nilIface, .nilIface, .nilIface, .nilIface, .nilIface, .nilIface, .nilIface, .nilIface, .nilIface, .nilIface, .nilIface, .slice none 0 0], .bool false]) w := by kernel_rfl
  have z1 := as0_1 w
  have z2 := as0_2 w
  go_enter Try.func80, Try.ntmps80
  go_wp2_with fail
  go_ret
  exact ⟨none, 0, 0, rfl, Below.refl _ _, RowOf.nil b8 1 _⟩
set_option maxHeartbeats 1000000 in
set_option maxRecDepth 100000 in
theorem get_leaf (hp : Bytes w (.slice pa pn pc) p) (hv : Bytes w (.slice va vn vc) v) (hq : Bytes w (.slice qa qn qc) q) :
    Calls Try.prog 80 #[.iface 190 (.agg #[.slice pa pn pc, .slice va vn vc]), .slice qa qn qc] w (GtPost (if p = q then v else []) w) := by
  obtain ⟨R, hR⟩ : ∃ R, R = if p = q then v else [] := ⟨_, rfl⟩
  rw [← hR]
  have HR := Lib.hid hR
  have z1 := as1_1
  have hbel : Below w.heap.size w (w.alloc (.cells #[.slice pa pn pc, .slice va vn vc] 190)) := (Below.refl _ _).alloc (Nat.le_refl _) _
  have s1 := run_str (P := Try.prog) (src := 24) (dst := 9) elU8.ht (by kernel_rfl) (by kernel_rfl) (hp.below hbel)
  have s2 := run_str (P := Try.prog) (src := 24) (dst := 9) elU8.ht (by kernel_rfl) (by kernel_rfl) (hq.below hbel)
  have hv2 := hv.below hbel
  clear hR hp hq hv
  by_cases he : p = q
  · subst he
    have hRv : v = R := by rw [HR.out, if_pos rfl]
    subst hRv
    go_enter Try.func80, Try.ntmps80
    go_wp2_with fail
    go_ret
    exact ⟨va, vn, vc, rfl, hbel, hv2⟩
  · have he2 : (p == q) = false := by rw [beq_eq_false_iff_ne]; exact he
    have hRv : [] = R := by rw [HR.out, if_neg he]
    subst hRv
    clear he
    go_enter Try.func80, Try.ntmps80
    go_wp2_with fail
    go_ret
    exact ⟨none, 0, 0, rfl, hbel, RowOf.nil b8 1 _⟩
end
end Go.Proofs.Ytikndlkfmjhgdaa
