/- append as a step of a region that draws its order, with the place of what comes of it. -/
import Derived.Test.YtohenjgegkgncaaHeld
import Derived.Test.YtohenjgegkgncaaApp
set_option linter.unusedSimpArgs false
set_option linter.unusedVariables false
namespace Go.Proofs.Ytohenjgegkgncaa
open Go.RowKit
/-- 'append(own, src...)' as one step. -/
theorem step_appP {α : Type} {f : α → List Value} {P : Program} {w : World} {ops : Array Oper} {o : Oper} {a : Act} {K : Act → World → Prop} {Q : Exit → Act → World → Prop} {E : Prop} (hgd : o.guard = none) (s x : Operand) (t : TypeId)
    (ho : o.op = .call { callee := .builtin .append, args := #[s, x], argTypes := #[t, t] })
    {e : TypeId} {z : Value} {size bytes : Nat} (el : El0 P t e z size bytes f) {B : Nat}
    {v : Value} {l m : List α} (h1 : ∀ u ∈ m.flatMap f, u.oneCell' = true) (hs : a.eval s = v) (hown : OwnOf f size e w B v l)
    {u : Value} (hx : a.eval x = u) (hrow : RowOf f size w u m) (hB : B ≤ w.heap.size)
    (hbytes : (l.length + m.length) * bytes ≤ 140737488355328) (h63 : l.length + m.length ≤ maxLen)
    (h : ∀ v' w', OwnOf f size e w' B v' (l ++ m) → w.grownBy w' v.ownBlock → (∀ k, v'.ownBlock = some k → v.ownBlock = some k ∨ w.heap.size ≤ k) → K (a.put o.dst v') w') : if Region.wanted o (yielded ops a.tmps) then o.wp P a w K Q else E := by
  have hw : Region.wanted o (yielded ops a.tmps) = true := by simp [Region.wanted, hgd]
  rw [if_pos hw]
  obtain ⟨i, hi, hz, hsi, hby⟩ := el.info
  obtain ⟨h0, ad, c, rfl, _, _, h3⟩ := hrow
  rcases h3 with ⟨rfl, hm, rfl⟩ | ⟨b, off, sp, rfl, hsp, h3⟩
  · obtain rfl : m = [] := List.eq_nil_of_length_eq_zero hm
    have hrun := run_append_owned_none (P := P) (w := w) B t o.type e i size el.ht hi v _ _ hown
    have hh := h v w (by simpa using hown) ⟨rfl, rfl, rfl, Nat.le_refl _, fun _ _ _ => rfl⟩ (fun k hk => .inl hk)
    unfold Oper.wp
    simp only [List.length_nil] at hx
    simp [execOp, ho, resolve, invoke, builtin, hs, hx, hrun, Result.andThen]
    exact hh
  · have hnews : ∀ j y, (m.flatMap f)[j]? = some y → w.cell? ((⟨b, off, sp⟩ : Addr).add j) = some y := by
      intro j y hy
      by_cases hm : m.length = 0
      · obtain rfl : m = [] := List.eq_nil_of_length_eq_zero hm
        simp at hy
      · obtain rfl : sp = none := hsp.resolve_right hm
        have hadd : (⟨b, off, none⟩ : Addr).add j = ⟨b, off + j, none⟩ := by unfold Addr.add; split <;> simp_all
        rw [hadd]; exact h3 j y hy
    obtain ⟨v', w', hr, k1, k2, _, k4⟩ := run_append_own_at (P := P) w B t o.type e i z size bytes el.ht hi hz hsi hby el.hzs el.hsz v _ _ hown ⟨b, off, sp⟩ _ c _ h0 hnews h1 h63 hbytes hB
    unfold Oper.wp execOp
    simp only [ho, resolve, invoke, builtin, Sem.run_bind, Sem.run_pure, Result.andThen_ok, List.map_toArray, List.map_cons, List.map_nil, hs, hx, hr]
    exact h v' w' (by unfold OwnOf; rw [List.length_append, List.flatMap_append]; exact k1) k2 (fun k hk => by
      rcases k4 with k4 | k4
      · exact .inl (k4 ▸ hk)
      · rw [k4] at hk; cases hk; exact .inr (Nat.le_refl _))
end Go.Proofs.Ytohenjgegkgncaa
