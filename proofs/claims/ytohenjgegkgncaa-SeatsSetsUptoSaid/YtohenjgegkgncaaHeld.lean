/- A region that draws its order, walked in an order that is laid down: what reads is taken first (its value is one and the same in every world that meets S), what changes memory comes up alone. No program in sight. -/
import Derived.Test.YtohenjgegkgncaaTyped
import Derived.OrdersHeld
set_option linter.unusedSimpArgs false
set_option linter.unusedVariables false
namespace Go.Proofs.Ytohenjgegkgncaa
open Go.RowKit
/-- The worlds that meet S. -/
def In (S : World → Prop) : Type := { w : World // S w }
def In.val {S : World → Prop} (u : In S) : World := Subtype.val u
theorem In.held {S : World → Prop} (u : In S) : S u.val := u.property
section
variable {P : Program} {ops : Array Oper} {Q : Exit → Act → World → Prop} {S : World → Prop}
def constUponI (P : Program) (w : World) (v : Value) : Result Next → Prop
  | .ok (.value u) w' => w' = w ∧ u = v
  | .ok .skip w' => w' = w ∧ v = undef
  | _ => False
def constAtI (P : Program) (o : Oper) (a : Act) (w : World) (v : Value) : Prop := (execOp a.eval o).run P w = .ok (.value v) w
def constI (P : Program) (S : World → Prop) (o : Oper) (a : Act) (next : Act → Prop) : Prop := ∃ v, (∀ u : In S, constAtI P o a u.val v) ∧ next (a.put o.dst v)
attribute [go_sem] constAtI constI
/-- The rest of the region. -/
def wpH (P : Program) (ops : Array Oper) (S : World → Prop) (Q : Exit → Act → World → Prop) (n : Nat) (listed : Array Bool) (a : Act) (w : World) : Prop := wpAnyH P .any ops Q S n listed a w
theorem wp_region_h (S : World → Prop) {id : Nat} {a : Act} {w : World} {l : List Oper} (hm : P.follows .mixedOrders = true)
    (h : ∀ w1, w1 = w.drew → wpH P l.toArray S Q l.length (List.replicate l.length false).toArray a w1) : (Code.region id l.toArray true).wp P Q a w :=
  wp_region_held hm (by have := h w.drew rfl; rw [List.toArray_replicate] at this; simpa [wpH] using this)
/-- Number 'i' reads: it is taken first. -/
theorem wpH_take (i : Nat) {oi : Oper} {n : Nat} {listed : Array Bool} {a : Act} {w : World} (hi : ops[i]? = some oi)
    (hs : (Region.noSelect ops && Region.free .any ops listed i && (Region.ready .any ops listed).contains i) = true)
    (hQ : ∀ c a w, Q (.panic c) (a.put oi.dst undef) w → Q (.panic c) a w) (hQ' : ∀ c (a : Act) v w, Q (.panic c) (a.put oi.dst v) w → Q (.panic c) a w) (hS : S w)
    (h : ∀ K : Act → Prop, (∀ a, wpH P ops S Q n (listed.setIfInBounds i true) a w → K a) → if Region.wanted oi (yielded ops a.tmps) then constI P S oi a K else K (a.put oi.dst undef)) : wpH P ops S Q (n + 1) listed a w := by
  simp only [Bool.and_eq_true] at hs
  have hc := h (fun a => wpH P ops S Q n (listed.setIfInBounds i true) a w) (fun _ h => h)
  by_cases hw : Region.wanted oi (yielded ops a.tmps) = true
  · rw [if_pos hw] at hc
    obtain ⟨v, hv, hn⟩ := hc
    exact wpAnyH_take hi hs.1.1 hs.1.2 hs.2 (fun c a w => hQ' c a v w) (.inl ⟨hw, fun w hw => hv ⟨w, hw⟩⟩) hS hn
  · rw [if_neg hw] at hc
    exact wpAnyH_take hi hs.1.1 hs.1.2 hs.2 hQ (.inr ⟨by simpa using hw, rfl⟩) hS hc
/-- Number 'i' comes up, and no other can: it is carried out. -/
theorem wpH_only (i : Nat) {oi : Oper} {n : Nat} {listed : Array Bool} {a : Act} {w : World} (hi : ops[i]? = some oi) (hr : Region.ready .any ops listed = [i])
    (h : ∀ K : Act → World → Prop, (∀ a' w', S w' → wpH P ops S Q n (listed.setIfInBounds i true) a' w' → K a' w') → if Region.wanted oi (yielded ops a.tmps) then oi.wp P a w K Q else K (a.put oi.dst undef) w) : wpH P ops S Q (n + 1) listed a w := by
  refine wpAnyH_all hr (by simp) fun j hj => ?_
  obtain rfl : j = i := by simpa using hj
  have hc := h (fun a' w' => S w' ∧ wpH P ops S Q n (listed.setIfInBounds j true) a' w') (fun _ _ h1 h2 => ⟨h1, h2⟩)
  unfold wpOp
  simp only [hi]
  by_cases hw : Region.wanted oi (yielded ops a.tmps) = true
  · rw [if_pos hw] at hc ⊢; exact .inl hc
  · rw [if_neg hw] at hc ⊢; exact hc
/-- One of those that may come up, carried out. -/
def brH (P : Program) (ops : Array Oper) (S : World → Prop) (Q : Exit → Act → World → Prop) (n : Nat) (listed : Array Bool) (a : Act) (w : World) (i : Nat) : Prop :=
  ∀ oi, ops[i]? = some oi → ∀ K : Act → World → Prop, (∀ a' w', S w' → wpH P ops S Q n (listed.setIfInBounds i true) a' w' → K a' w') → if Region.wanted oi (yielded ops a.tmps) then oi.wp P a w K Q else K (a.put oi.dst undef) w
theorem brH_of {i : Nat} {oi : Oper} {n : Nat} {listed : Array Bool} {a : Act} {w : World} (hi : ops[i]? = some oi)
    (h : ∀ K : Act → World → Prop, (∀ a' w', S w' → wpH P ops S Q n (listed.setIfInBounds i true) a' w' → K a' w') → if Region.wanted oi (yielded ops a.tmps) then oi.wp P a w K Q else K (a.put oi.dst undef) w) : brH P ops S Q n listed a w i := by
  intro o ho
  rw [hi] at ho
  obtain rfl : oi = o := by simpa using ho
  exact h
/-- Whichever of 'rs' comes up. -/
theorem wpH_all (rs : List Nat) {n : Nat} {listed : Array Bool} {a : Act} {w : World} (hr : Region.ready .any ops listed = rs) (hne : rs ≠ []) (h : ∀ i ∈ rs, brH P ops S Q n listed a w i) : wpH P ops S Q (n + 1) listed a w := by
  refine wpAnyH_all hr hne fun j hj => ?_
  have hj' : j ∈ Region.ready .any ops listed := by rw [hr]; exact hj
  obtain ⟨_, o, ho, _⟩ := mem_ready.1 hj'
  have hc := h j hj o ho (fun a' w' => S w' ∧ wpH P ops S Q n (listed.setIfInBounds j true) a' w') (fun _ _ h1 h2 => ⟨h1, h2⟩)
  unfold wpOp
  simp only [ho]
  by_cases hw : Region.wanted o (yielded ops a.tmps) = true
  · rw [if_pos hw] at hc ⊢; exact .inl hc
  · rw [if_neg hw] at hc ⊢; exact hc
/-- A region by what is known behind it: for many ways that meet again. -/
theorem wp_region_via {id : Nat} {d : Bool} {a : Act} {w : World} (R : Act → Act → World → Prop) (h1 : (Code.region id ops d).wp P (fun e b w' => e = .normal ∧ R a b w') a w) (h2 : ∀ b w', R a b w' → Q .normal b w') : (Code.region id ops d).wp P Q a w :=
  Code.wp_mono (fun e b w' h => by obtain ⟨rfl, h⟩ := h; exact h2 _ _ h) h1
/-- A whole array is stored, as one step. -/
theorem step_storeA {o : Oper} {a : Act} {w : World} {K : Act → World → Prop} {E : Prop} (hgd : o.guard = none) (ty : TypeId) (x y : Operand) (ho : o.op = .store ty x y)
    (g : Nat) (cs : List Value) (hx : a.eval x = .pointer (some ⟨g, 0, none⟩)) (hy : a.eval y = .agg cs.toArray) {n : Nat} (hty : Agg P ty n) {e : TypeId} {old : List Value} (hb : Blk e w g old) (hn : cs.length = n) (ho2 : old.length = n)
    (h1 : ∀ u ∈ cs, u.oneCell' = true) (h : ∀ w', Blk e w' g cs → Below g w w' → w.grownBy w' (some g) → K (a.put o.dst undef) w') : if Region.wanted o (yielded ops a.tmps) then o.wp P a w K Q else E := by
  have hw : Region.wanted o (yielded ops a.tmps) = true := by simp [Region.wanted, hgd]
  rw [if_pos hw]
  obtain ⟨d, _, _, h3⟩ := hty
  refine wp_store_row ty x y ho g cs.toArray hx hy e old.toArray hb (by rw [h3]; simp [hn]) (by simp [hn, ho2]) (by rw [Array.all_eq_true_iff_forall_mem]; simpa using h1) ?_
  refine h _ ?_ (below_setRow (Below.refl _ _) (Nat.le_refl _) _) ⟨rfl, rfl, rfl, by simp, fun k _ hk => setRow_other w g k _ (fun e => hk (by rw [e]))⟩
  exact setRow_heap w g _ _ e _ hb
/-- A whole array is loaded, first. -/
theorem take_loadA {o : Oper} {a : Act} {K : Act → Prop} {E : Prop} (hgd : o.guard = none) (ty : TypeId) (x : Operand) (ho : o.op = .load ty x) (g : Nat) (hx : a.eval x = .pointer (some ⟨g, 0, none⟩)) {n : Nat} (hty : Agg P ty n)
    {e : TypeId} {cs : List Value} (hb : ∀ u, S u → Blk e u g cs) (hn : cs.length = n) (h : K (a.put o.dst (.agg cs.toArray))) : if Region.wanted o (yielded ops a.tmps) then constI P S o a K else E := by
  have hw : Region.wanted o (yielded ops a.tmps) = true := by simp [Region.wanted, hgd]
  rw [if_pos hw]
  refine ⟨_, fun u => ?_, h⟩
  obtain ⟨d, h1, h2, h3⟩ := hty
  unfold constAtI execOp
  simp only [ho, hx, Instr.loadAt, Instr.sureAddr, Sem.run_bind, Sem.run_pure, Result.andThen_ok, run_loadVar_row (P := P) u.val g e ty cs.toArray (0, 0) d (hb _ u.held) h1 (by cases d <;> simp_all) (by rw [h3]; simp [hn])]
theorem wpH_done {listed : Array Bool} {a : Act} {w : World} {n : Nat} (hr : Region.ready .any ops listed = []) (h : Q .normal a w) : wpH P ops S Q n listed a w :=
  wpAnyH_done hr h n
end
/-- An '==' whose run is known, in a drawn region. -/
theorem const_eql {P : Program} {o : Oper} {a : Act} {w : World} {v v' u : Value} (ty : TypeId) (x y : Operand) (t : TypeId) (ho : o.op = .binOp .eql ty x y t) (hx : a.eval x = v) (hy : a.eval y = v')
    (hg : ∀ o1 o2 w1, (eqGuard .eql ty o1 o2 v v').run P w1 = .ok () w1) (hq : ∀ w1, (binOp .eql ty v v').run P w1 = .ok u w1) : constAt P o a w u := by
  unfold constAt execOp
  simp only [ho, hx, hy, Sem.run_bind, hg, hq, Result.andThen_ok, Sem.run_pure]
  exact ⟨rfl, rfl⟩
end Go.Proofs.Ytohenjgegkgncaa
