/- The law of XTyped over an order of one's own in the place of Below: operations may also write into blocks that were there, as that order allows. Printed by gen_turn.py. No program in sight. -/
import Derived.Test.YtgmdbleeagfhpaaRow
set_option linter.unusedSimpArgs false
set_option linter.unusedVariables false
namespace Go.Proofs.Ytgmdbleeagfhpaa.Turn
open Go.RowKit
/-- An order of worlds. -/
structure Le where
  r : World → World → Prop
  refl : ∀ w, r w w
  trans : ∀ {a b c}, r a b → r b c → r a c
  size : ∀ {a b}, r a b → a.heap.size ≤ b.heap.size
/-- The block that a value leads to. -/
def blkOf : Value → Option Nat
  | .slice (some a) _ _ => some a.block
  | .pointer (some a) => some a.block
  | _ => none
/-- Which slots hold a block of their own; each with the old blocks that it may hold instead. -/
abbrev Own := Tmp → Option (List Nat)
def noF (F : Own) : Option Tmp → Bool
  | none => true
  | some t => (F t).isNone
theorem noF_some {F : Own} {d : Option Tmp} {t : Tmp} {Os : List Nat} (h : noF F d = true) (hd : d = some t) (hf : F t = some Os) : False := by
  subst hd
  have h2 : (F t).isNone = true := h
  rw [hf] at h2
  cases h2
def Born (F : Own) (d : Option Tmp) (n : Nat) (u : Value) (w' : World) : Prop := ∀ t Os, d = some t → F t = some Os → ∀ g, blkOf u = some g → g < w'.heap.size ∧ (n ≤ g ∨ g ∈ Os)
theorem Born.none {F : Own} {d : Option Tmp} {n : Nat} {u : Value} {w' : World} (h : noF F d = true) : Born F d n u w' := by
  intro t Os hd hf
  exact (noF_some h hd hf).elim
def OldOk (F : Own) (w0 : World) : Prop := (∀ s t Os Ot, s ≠ t → F s = some Os → F t = some Ot → ∀ g ∈ Os, g ∉ Ot) ∧ (∀ t Os, F t = some Os → ∀ g ∈ Os, g < w0.heap.size)
def ApartN (F : Own) (ops : Array Oper) (n : Nat) (a : Act) : Prop := ∀ i j, i < n → j < n → i ≠ j → ∀ s t Os Ot, dstOf ops i = some s → dstOf ops j = some t → F s = some Os → F t = some Ot → ∀ v u g, a.tmps[s]? = some v → a.tmps[t]? = some u → blkOf v = some g → blkOf u ≠ some g
section
variable {le : Le} {F : Own} {P : Program} {ops : Array Oper} {w0 : World} {n : Nat} {A : Nat → Act} {G : Nat → Env}
def Mono (le : Le) (T : Ty) : Prop := ∀ v w w', T v w → le.r w w' → T v w'
def constUpon (le : Le) (P : Program) (w : World) (v : Value) : Result Next → Prop
  | .ok (.value u) w' => w' = w ∧ u = v
  | .ok .skip w' => w' = w ∧ v = undef
  | .ok (.enter f args) w' => w' = w ∧ Calls P f args w (fun e w'' => e = .returned v ∧ le.r w w'')
  | _ => False
def constAt (le : Le) (P : Program) (o : Oper) (a : Act) (w : World) (v : Value) : Prop := constUpon le P w v ((execOp a.eval o).run P w)
def constOp (le : Le) (P : Program) (w0 : World) (o : Oper) (a : Act) (next : Act → Prop) : Prop := ∃ v, (∀ u : In (le.r w0), constAt le P o a u.val v) ∧ next (a.put o.dst v)
attribute [go_sem] constOp constAt constUpon
def goodUpon (le : Le) (P : Program) (T : Ty) (w : World) : Result Next → Prop
  | .ok (.value u) w' => le.r w w' ∧ T u w'
  | .ok .skip w' => le.r w w' ∧ T undef w'
  | .ok (.enter f args) w' => w' = w ∧ Calls P f args w (fun e w'' => ∃ v, e = .returned v ∧ T v w'' ∧ le.r w w'')
  | _ => False
attribute [go_sem] goodUpon
def wpX (le : Le) (F : Own) (P : Program) (ops : Array Oper) (w0 : World) (fin : Act → Env → Prop) : List Oper → Act → Env → Prop
  | [], a, Γ => fin a Γ
  | o :: rest, a, Γ =>
    (((relOf Γ (o.looksAt ops)) = [] ∧ noF F o.dst = true) ∧
      if Region.wanted o (yielded ops a.tmps) then constOp le P w0 o a (fun a' => wpX le F P ops w0 fin rest a' Γ) else wpX le F P ops w0 fin rest (a.put o.dst undef) Γ) ∨
    (∃ (d : Tmp) (T : Ty), o.dst = some d ∧ d < a.tmps.size ∧ Mono le T ∧
      (∀ w, le.r w0 w → forallRel w (relOf Γ (o.looksAt ops)) a (fun a' => Region.wanted o (yielded ops a'.tmps) = true ∧ goodUpon le P (fun u w' => T u w' ∧ Born F (some d) w.heap.size u w') w ((execOp a'.eval o).run P w))) ∧
      wpX le F P ops w0 fin rest (a.put o.dst undef) ((d, T) :: Γ)) ∨
    (∃ (X : Value), noF F o.dst = true ∧
      (∀ w, le.r w0 w → forallRel w (relOf Γ (o.looksAt ops)) a (fun a' => Region.wanted o (yielded ops a'.tmps) = true ∧ goodUpon le P (fun v _ => v = X) w ((execOp a'.eval o).run P w))) ∧
      wpX le F P ops w0 fin rest (a.put o.dst X) Γ)
theorem wpX_nil {w0 : World} {fin : Act → Env → Prop} {a : Act} {Γ : Env} (h : fin a Γ) : wpX le F P ops w0 fin [] a Γ := h
/-- An operation whose value is one and the same in every world of the class. -/
theorem wpX_step {w0 : World} {fin : Act → Env → Prop} {a : Act} {Γ : Env} {o : Oper} {rest : List Oper} (hr : (relOf Γ (o.looksAt ops)) = []) (hf : noF F o.dst = true)
    (h : ∀ K : Act → Prop, (∀ a, wpX le F P ops w0 fin rest a Γ → K a) → if Region.wanted o (yielded ops a.tmps) then constOp le P w0 o a K else K (a.put o.dst undef)) : wpX le F P ops w0 fin (o :: rest) a Γ :=
  .inl ⟨⟨hr, hf⟩, h (fun a => wpX le F P ops w0 fin rest a Γ) (fun _ h => h)⟩
/-- An operation whose value is known by a property. -/
theorem wpX_rel {w0 : World} {fin : Act → Env → Prop} {a : Act} {Γ : Env} {o : Oper} {rest : List Oper} (d : Tmp) (T : Ty) (hd : o.dst = some d) (hlt : d < a.tmps.size) (hm : Mono le T)
    (h : ∀ w, le.r w0 w → forallRel w (relOf Γ (o.looksAt ops)) a (fun a' => Region.wanted o (yielded ops a'.tmps) = true ∧ goodUpon le P (fun u w' => T u w' ∧ Born F (some d) w.heap.size u w') w ((execOp a'.eval o).run P w)))
    (hn : wpX le F P ops w0 fin rest (a.put o.dst undef) ((d, T) :: Γ)) : wpX le F P ops w0 fin (o :: rest) a Γ :=
  .inr (.inl ⟨d, T, hd, hlt, hm, h, hn⟩)
/-- An operation that looks at such values and yields one that is known outright. -/
theorem wpX_eq {w0 : World} {fin : Act → Env → Prop} {a : Act} {Γ : Env} {o : Oper} {rest : List Oper} (X : Value) (hf : noF F o.dst = true)
    (h : ∀ w, le.r w0 w → forallRel w (relOf Γ (o.looksAt ops)) a (fun a' => Region.wanted o (yielded ops a'.tmps) = true ∧ goodUpon le P (fun v _ => v = X) w ((execOp a'.eval o).run P w)))
    (hn : wpX le F P ops w0 fin rest (a.put o.dst X) Γ) : wpX le F P ops w0 fin (o :: rest) a Γ :=
  .inr (.inr ⟨X, hf, h, hn⟩)

def StepX (le : Le) (F : Own) (P : Program) (ops : Array Oper) (w0 : World) (o : Oper) (a : Act) (Γ : Env) (a' : Act) (Γ' : Env) : Prop :=
  ((relOf Γ (o.looksAt ops) = [] ∧ noF F o.dst = true) ∧ Γ' = Γ ∧ ((Region.wanted o (yielded ops a.tmps) = true ∧ ∃ v, (∀ u : In (le.r w0), constAt le P o a u.val v) ∧ a' = a.put o.dst v) ∨ (Region.wanted o (yielded ops a.tmps) = false ∧ a' = a.put o.dst undef))) ∨
  (∃ (d : Tmp) (T : Ty), o.dst = some d ∧ d < a.tmps.size ∧ Mono le T ∧
      (∀ w, le.r w0 w → forallRel w (relOf Γ (o.looksAt ops)) a (fun a' => Region.wanted o (yielded ops a'.tmps) = true ∧ goodUpon le P (fun u w' => T u w' ∧ Born F (some d) w.heap.size u w') w ((execOp a'.eval o).run P w))) ∧ a' = a.put o.dst undef ∧ Γ' = (d, T) :: Γ) ∨
  (∃ (X : Value), noF F o.dst = true ∧
      (∀ w, le.r w0 w → forallRel w (relOf Γ (o.looksAt ops)) a (fun a' => Region.wanted o (yielded ops a'.tmps) = true ∧ goodUpon le P (fun v _ => v = X) w ((execOp a'.eval o).run P w))) ∧ a' = a.put o.dst X ∧ Γ' = Γ)
theorem seqX {w0 : World} {fin : Act → Env → Prop} : ∀ (l : List Oper) (a : Act) (Γ : Env), wpX le F P ops w0 fin l a Γ →
    ∃ (A : Nat → Act) (G : Nat → Env), A 0 = a ∧ G 0 = Γ ∧ fin (A l.length) (G l.length) ∧ ∀ j o, l[j]? = some o → StepX le F P ops w0 o (A j) (G j) (A (j + 1)) (G (j + 1))
  | [], a, Γ, h => ⟨fun _ => a, fun _ => Γ, rfl, rfl, h, fun j o hj => by simp at hj⟩
  | o :: l, a, Γ, h => by
    have key : ∃ a' Γ', StepX le F P ops w0 o a Γ a' Γ' ∧ wpX le F P ops w0 fin l a' Γ' := by
      unfold wpX at h
      rcases h with ⟨hr, h⟩ | ⟨d, T, h1, h2, h3, h5, h6⟩ | ⟨X, h4, h5, h6⟩
      · by_cases hw : Region.wanted o (yielded ops a.tmps) = true
        · rw [if_pos hw] at h
          obtain ⟨v, hv, hn⟩ := h
          exact ⟨_, _, .inl ⟨hr, rfl, .inl ⟨hw, v, hv, rfl⟩⟩, hn⟩
        · rw [if_neg hw] at h
          exact ⟨_, _, .inl ⟨hr, rfl, .inr ⟨by simpa using hw, rfl⟩⟩, h⟩
      · exact ⟨_, _, .inr (.inl ⟨d, T, h1, h2, h3, h5, rfl, rfl⟩), h6⟩
      · exact ⟨_, _, .inr (.inr ⟨X, h4, h5, rfl, rfl⟩), h6⟩
    obtain ⟨a', Γ', hs, hn⟩ := key
    obtain ⟨A, G, hA, hG, hf, hst⟩ := seqX l a' Γ' hn
    refine ⟨fun k => match k with | 0 => a | k + 1 => A k, fun k => match k with | 0 => Γ | k + 1 => G k, rfl, rfl, hf, fun j o' hj => ?_⟩
    cases j with
    | zero =>
      simp only [List.getElem?_cons_zero, Option.some.injEq] at hj
      subst hj
      show StepX le F P ops w0 o a Γ (A 0) (G 0)
      rw [hA, hG]; exact hs
    | succ j => exact hst j o' (by simpa using hj)
theorem StepX.keeps {w0 : World} {o : Oper} {a a' : Act} {Γ Γ' : Env} (h : StepX le F P ops w0 o a Γ a' Γ') : a'.tmps.size = a.tmps.size ∧ a'.defers = a.defers ∧ ∀ t, o.dst ≠ some t → a'.tmps[t]? = a.tmps[t]? ∧ Γ'.get t = Γ.get t := by
  rcases h with ⟨_, rfl, ⟨_, v, _, rfl⟩ | ⟨_, rfl⟩⟩ | ⟨d, T, hd, _, _, _, rfl, rfl⟩ | ⟨X, _, _, rfl, rfl⟩
  · exact ⟨put_size _ _ _, put_defers' _ _ _, fun t ht => ⟨put_other _ _ _ _ ht, rfl⟩⟩
  · exact ⟨put_size _ _ _, put_defers' _ _ _, fun t ht => ⟨put_other _ _ _ _ ht, rfl⟩⟩
  · refine ⟨put_size _ _ _, put_defers' _ _ _, fun t ht => ⟨put_other _ _ _ _ ht, ?_⟩⟩
    have : d ≠ t := fun e => ht (by rw [hd, e])
    have hb : (d == t) = false := by simpa using this
    unfold Env.get
    rw [List.find?_cons_of_neg (by simpa using hb)]
  · exact ⟨put_size _ _ _, put_defers' _ _ _, fun t ht => ⟨put_other _ _ _ _ ht, rfl⟩⟩
theorem okAt_mono {Γ : Env} (hm : ∀ t T, Γ.get t = some T → Mono le T) {a b : Act} {w w' : World} {t : Tmp} (h : okAt Γ a w t b) (hb : le.r w w') : okAt Γ a w' t b := by
  unfold okAt at *
  cases hg : Γ.get t with
  | none => simpa [hg] using h
  | some T =>
    simp only [hg] at h ⊢
    obtain ⟨v, h1, h2⟩ := h
    exact ⟨v, h1, hm t T hg v w w' h2 hb⟩
/-- What follows behind the head: the tail, under what is known of the slots. -/
def finX (le : Le) (F : Own) (P : Program) (ops : Array Oper) (w0 : World) (Q : Exit → Act → World → Prop) (n : Nat) (a : Act) (Γ : Env) : Prop :=
  ∀ w', le.r w0 w' → forallRel w' Γ.reverse a (fun a' => ApartN F ops n a' → wpList P ops Q (ops.toList.drop n) a' w')
theorem wpX_end {w0 : World} {Q : Exit → Act → World → Prop} {n : Nat} {a : Act} {Γ : Env} (hn : ops.toList.drop n = []) (h : ∀ w', le.r w0 w' → forallRel w' Γ.reverse a (fun a' => ApartN F ops n a' → Q .normal a' w')) : wpX le F P ops w0 (finX le F P ops w0 Q n) [] a Γ := by
  intro w' hw
  rw [hn]
  exact h w' hw
structure Inv (le : Le) (F : Own) (ops : Array Oper) (w0 : World) (n : Nat) (A : Nat → Act) (G : Nat → Env) (listed : Array Bool) (b : Act) (w : World) : Prop where
  size : listed.size = ops.size
  closed : Closed ops listed
  bel : le.r w0 w
  defers : b.defers = (A 0).defers
  bs : b.tmps.size = (A 0).tmps.size
  typed : ∀ i, i < n → listed.getD i false = true → ∀ t, dstOf ops i = some t → okAt (G (i + 1)) (A (i + 1)) w t b
  rest : ∀ t, (∀ i, i < n → listed.getD i false = true → dstOf ops i ≠ some t) → b.tmps[t]? = (A 0).tmps[t]?
  tail : ∀ i, n ≤ i → listed.getD i false = false
  born : ∀ i, i < n → listed.getD i false = true → ∀ t Os, dstOf ops i = some t → F t = some Os → ∀ v g, b.tmps[t]? = some v → blkOf v = some g → g < w.heap.size ∧ (w0.heap.size ≤ g ∨ g ∈ Os)
  apart : ∀ i j, i < n → j < n → i ≠ j → listed.getD i false = true → listed.getD j false = true → ∀ s t Os Ot, dstOf ops i = some s → dstOf ops j = some t → F s = some Os → F t = some Ot → ∀ v u g, b.tmps[s]? = some v → b.tmps[t]? = some u → blkOf v = some g → blkOf u ≠ some g
theorem states_size (hst : ∀ j o, ops[j]? = some o → j < n → StepX le F P ops w0 o (A j) (G j) (A (j + 1)) (G (j + 1))) (hn : n ≤ ops.size) : ∀ j, j ≤ n → (A j).tmps.size = (A 0).tmps.size ∧ (A j).defers = (A 0).defers
  | 0, _ => ⟨rfl, rfl⟩
  | j + 1, hj => by
    have ih := states_size hst hn j (by omega)
    have ho : ops[j]? = some ops[j] := Array.getElem?_eq_getElem (by omega)
    have := (hst j _ ho (by omega)).keeps
    exact ⟨this.1.trans ih.1, this.2.1.trans ih.2⟩
theorem states_before (hst : ∀ j o, ops[j]? = some o → j < n → StepX le F P ops w0 o (A j) (G j) (A (j + 1)) (G (j + 1))) (hn : n ≤ ops.size) (t : Tmp) : ∀ j, j ≤ n → (∀ i, i < j → dstOf ops i ≠ some t) → (A j).tmps[t]? = (A 0).tmps[t]? ∧ (G j).get t = (G 0).get t
  | 0, _, _ => ⟨rfl, rfl⟩
  | j + 1, hj, h => by
    have ih := states_before hst hn t j (by omega) (fun i hi => h i (by omega))
    have ho : ops[j]? = some ops[j] := Array.getElem?_eq_getElem (by omega)
    have hk := (hst j _ ho (by omega)).keeps.2.2 t (by have := h j (by omega); unfold dstOf at this; rw [ho] at this; exact this)
    exact ⟨hk.1.trans ih.1, hk.2.trans ih.2⟩
theorem states_after (hst : ∀ j o, ops[j]? = some o → j < n → StepX le F P ops w0 o (A j) (G j) (A (j + 1)) (G (j + 1))) (hS : Shape ops n) (t : Tmp) (i : Nat) (hi : i < n) (ht : dstOf ops i = some t) : ∀ d, i + 1 + d ≤ n → (A (i + 1 + d)).tmps[t]? = (A (i + 1)).tmps[t]? ∧ (G (i + 1 + d)).get t = (G (i + 1)).get t
  | 0, _ => ⟨rfl, rfl⟩
  | d + 1, hd => by
    have ih := states_after hst hS t i hi ht d (by omega)
    have hle := hS.le
    have ho : ops[i + 1 + d]? = some ops[i + 1 + d] := Array.getElem?_eq_getElem (by omega)
    have hk := (hst (i + 1 + d) _ ho (by omega)).keeps.2.2 t (by
      have := hS.dist i (i + 1 + d) t hi (by omega) ht (by omega)
      unfold dstOf at this; rw [ho] at this; exact this)
    exact ⟨hk.1.trans ih.1, hk.2.trans ih.2⟩
theorem states_mono (hst : ∀ j o, ops[j]? = some o → j < n → StepX le F P ops w0 o (A j) (G j) (A (j + 1)) (G (j + 1))) (hn : n ≤ ops.size) (h0 : G 0 = []) : ∀ j, j ≤ n → (∀ t T, (t, T) ∈ G j → Mono le T ∧ ∃ i, i < j ∧ dstOf ops i = some t) ∧ ((G j).map (·.1)).length = (G j).length
  | 0, _ => ⟨fun t T h => (by rw [h0] at h; cases h), by simp⟩
  | j + 1, hj => by
    have ih := states_mono hst hn h0 j (by omega)
    have ho : ops[j]? = some ops[j] := Array.getElem?_eq_getElem (by omega)
    refine ⟨fun t T h => ?_, by simp⟩
    rcases hst j _ ho (by omega) with ⟨_, hg, _⟩ | ⟨d, T', hd, _, hm, _, _, hg⟩ | ⟨X, _, _, _, hg⟩
    · rw [hg] at h
      obtain ⟨h1, i, hi, h2⟩ := ih.1 t T h
      exact ⟨h1, i, by omega, h2⟩
    rotate_left
    · rw [hg] at h
      obtain ⟨h1, i, hi, h2⟩ := ih.1 t T h
      exact ⟨h1, i, by omega, h2⟩
    · rw [hg] at h
      rcases List.mem_cons.1 h with e | h
      · simp only [Prod.mk.injEq] at e
        obtain ⟨rfl, rfl⟩ := e
        exact ⟨hm, j, by omega, by unfold dstOf; rw [ho]; exact hd⟩
      · obtain ⟨h1, i, hi, h2⟩ := ih.1 t T h
        exact ⟨h1, i, by omega, h2⟩
theorem states_get (hst : ∀ j o, ops[j]? = some o → j < n → StepX le F P ops w0 o (A j) (G j) (A (j + 1)) (G (j + 1))) (hS : Shape ops n) (h0 : G 0 = []) : ∀ j, j ≤ n → ∀ t T, (t, T) ∈ G j → (G j).get t = some T
  | 0, _, t, T, h => by rw [h0] at h; cases h
  | j + 1, hj, t, T, h => by
    have hle := hS.le
    have ih := states_get hst hS h0 j (by omega) t T
    have ho : ops[j]? = some ops[j] := Array.getElem?_eq_getElem (by omega)
    rcases hst j _ ho (by omega) with ⟨_, hg, _⟩ | ⟨d, T', hd, _, hm, _, _, hg⟩ | ⟨X, _, _, _, hg⟩
    · rw [hg] at h ⊢; exact ih h
    rotate_left
    · rw [hg] at h ⊢; exact ih h
    · rw [hg] at h ⊢
      have hdj : dstOf ops j = some d := by unfold dstOf; rw [ho]; exact hd
      rcases List.mem_cons.1 h with e | h
      · simp only [Prod.mk.injEq] at e
        obtain ⟨rfl, rfl⟩ := e
        simp [Env.get]
      · obtain ⟨_, i, hi, hit⟩ := (states_mono hst hle h0 j (by omega)).1 t T h
        have hne : d ≠ t := by
          intro e; subst e
          exact hS.dist i j d (by omega) (by omega) hit (by omega) hdj
        have := ih h
        unfold Env.get at this ⊢
        rw [List.find?_cons_of_neg (by simpa using hne)]
        exact this
theorem Inv.step (hS : Shape ops n) (hst : ∀ j o, ops[j]? = some o → j < n → StepX le F P ops w0 o (A j) (G j) (A (j + 1)) (G (j + 1))) (h0 : G 0 = []) {listed : Array Bool} {b : Act} {w w' : World} (inv : Inv le F ops w0 n A G listed b w) {j : Nat} {o : Oper} (hj : j < n) (ho : ops[j]? = some o)
    (hun : listed.getD j false = false) (hedge : ∀ i ∈ edges ops j, listed.getD i false = true) (hb : le.r w w') (v : Value) (hO : OldOk F w0) (hlt : ∀ t Os, o.dst = some t → F t = some Os → t < b.tmps.size) (hbn : Born F o.dst w.heap.size v w') (hv : ∀ t, o.dst = some t → okAt (G (j + 1)) (A (j + 1)) w' t (b.put o.dst v)) :
    Inv le F ops w0 n A G (listed.setIfInBounds j true) (b.put o.dst v) w' := by
  have hle := hS.le
  have hdj : dstOf ops j = o.dst := by unfold dstOf; rw [ho]; rfl
  refine ⟨by simp [inv.size], closed_set inv.closed hedge, le.trans inv.bel hb, by rw [put_defers']; exact inv.defers, by rw [put_size]; exact inv.bs, fun i hi hl t ht => ?_, fun t ht => ?_, fun i hi => ?_, ?_, ?_⟩
  · by_cases hij : i = j
    · subst hij
      exact hv t (by rw [← hdj]; exact ht)
    · rw [getD_set_ne false (Ne.symm hij)] at hl
      have hne : o.dst ≠ some t := by
        rw [← hdj]
        exact hS.dist i j t hi hj ht hij
      have h1 := inv.typed i hi hl t ht
      have hm : ∀ t T, (G (i + 1)).get t = some T → Mono le T := fun t T hg => ((states_mono hst hle h0 (i + 1) (by omega)).1 t T (get_mem hg)).1
      have h2 := okAt_mono hm h1 hb
      unfold okAt at h2 ⊢
      rw [put_other _ _ _ _ hne]
      exact h2
  · have hne : o.dst ≠ some t := by
      rw [← hdj]
      exact ht j hj (getD_set_self (by rw [inv.size]; omega))
    rw [put_other _ _ _ _ hne]
    exact inv.rest t fun i hi hl => ht i hi (getD_set_true hl)
  · rw [getD_set_ne false (by omega)]
    exact inv.tail i hi
  · intro i hi hl t Os ht hF v' g hv' hg
    by_cases hij : i = j
    · subst hij
      have hd : o.dst = some t := by rw [← hdj]; exact ht
      rw [hd, put_same _ _ _ (hlt t Os hd hF)] at hv'
      obtain rfl : v = v' := by simpa using hv'
      obtain ⟨h1, h2⟩ := hbn t Os hd hF g hg
      exact ⟨h1, h2.imp_left (fun h => Nat.le_trans (le.size inv.bel) h)⟩
    · rw [getD_set_ne false (Ne.symm hij)] at hl
      have hne : o.dst ≠ some t := by rw [← hdj]; exact hS.dist i j t hi hj ht hij
      rw [put_other _ _ _ _ hne] at hv'
      obtain ⟨h1, h2⟩ := inv.born i hi hl t Os ht hF v' g hv' hg
      exact ⟨Nat.lt_of_lt_of_le h1 (le.size hb), h2⟩
  · have key : ∀ i, i < n → i ≠ j → listed.getD i false = true → ∀ s t Os Ot, dstOf ops i = some s → dstOf ops j = some t → F s = some Os → F t = some Ot → ∀ v' u g, b.tmps[s]? = some v' → (b.put o.dst v).tmps[t]? = some u → blkOf v' = some g → blkOf u ≠ some g := by
      intro i hi hij hl s t Os Ot hs ht hFs hFt v' u g hv' hu hg hgu
      have hd : o.dst = some t := by rw [← hdj]; exact ht
      rw [hd, put_same _ _ _ (hlt t Ot hd hFt)] at hu
      obtain rfl : v = u := by simpa using hu
      have hst : s ≠ t := fun e => hS.dist i j s hi hj hs hij (by rw [e]; exact ht)
      obtain ⟨h1, h2⟩ := inv.born i hi hl s Os hs hFs v' g hv' hg
      obtain ⟨_, h4⟩ := hbn t Ot hd hFt g hgu
      rcases h4 with h4 | h4
      · omega
      · rcases h2 with h2 | h2
        · have := hO.2 t Ot hFt g h4; omega
        · exact hO.1 s t Os Ot hst hFs hFt g h2 h4
    intro i i' hi hi' hne hl hl' s t Os Ot hs ht hFs hFt v' u g hv' hu hg
    by_cases hij : i' = j
    · subst hij
      rw [getD_set_ne false (Ne.symm hne)] at hl
      have hsd : o.dst ≠ some s := by rw [← hdj]; exact hS.dist i i' s hi hi' hs hne
      rw [put_other _ _ _ _ hsd] at hv'
      exact key i hi hne hl s t Os Ot hs ht hFs hFt v' u g hv' hu hg
    · by_cases hij2 : i = j
      · subst hij2
        rw [getD_set_ne false (Ne.symm hij)] at hl'
        have hsd : o.dst ≠ some t := by rw [← hdj]; exact hS.dist i' i t hi' hi ht hij
        rw [put_other _ _ _ _ hsd] at hu
        intro hgu
        exact key i' hi' hij hl' t s Ot Os ht hs hFt hFs u v' g hu hv' hgu hg
      · rw [getD_set_ne false (Ne.symm hij2)] at hl
        rw [getD_set_ne false (Ne.symm hij)] at hl'
        have hsd : o.dst ≠ some s := by rw [← hdj]; exact hS.dist i j s hi hj hs hij2
        have htd : o.dst ≠ some t := by rw [← hdj]; exact hS.dist i' j t hi' hj ht hij
        rw [put_other _ _ _ _ hsd] at hv'
        rw [put_other _ _ _ _ htd] at hu
        exact inv.apart i i' hi hi' hne hl hl' s t Os Ot hs ht hFs hFt v' u g hv' hu hg
theorem wpAny_all_listed (hS : Shape ops n) (hst : ∀ j o, ops[j]? = some o → j < n → StepX le F P ops w0 o (A j) (G j) (A (j + 1)) (G (j + 1))) (h0 : G 0 = []) {Q : Exit → Act → World → Prop} (hfin : finX le F P ops w0 Q n (A n) (G n)) {fuel : Nat} {listed : Array Bool} {b : Act} {w : World}
    (inv : Inv le F ops w0 n A G listed b w) (hf : unl n listed + (ops.size - n) = fuel) (hz : unl n listed = 0) : wpAny P .any ops Q fuel listed b w := by
  have hle := hS.le
  have hlo := unl_zero n hz
  have hsz := states_size hst hle n (Nat.le_refl _)
  obtain ⟨a', hK, hs', hd', hsl⟩ := forallRel_at (b := b) (G n).reverse (A n) _ (by rw [hsz.1, inv.bs]) (fun p hp => by
    have hp' : (p.1, p.2) ∈ G n := by simpa using hp
    obtain ⟨_, i, hi, hit⟩ := (states_mono hst hle h0 n (Nat.le_refl _)).1 p.1 p.2 hp'
    have h1 := inv.typed i hi (hlo i hi) p.1 hit
    have h2 := states_after hst hS p.1 i hi hit (n - (i + 1)) (by omega)
    rw [show i + 1 + (n - (i + 1)) = n from by omega] at h2
    unfold okAt at h1
    rw [← h2.2, states_get hst hS h0 n (Nat.le_refl _) p.1 p.2 hp'] at h1
    exact h1) (hfin w inv.bel)
  have hab : a' = b := by
    refine act_ext (by rw [hd', hsz.2, inv.defers]) fun t => ?_
    rcases hsl t with ⟨h1, h2⟩ | ⟨_, h1⟩
    · have hgn : (G n).get t = none := by
        cases hgt : (G n).get t with
        | none => rfl
        | some T' => exact (h2 (t, T') (by simpa using get_mem hgt) rfl).elim
      rw [h1]
      by_cases hex : ∃ i, i < n ∧ dstOf ops i = some t
      · obtain ⟨i, hi, hit⟩ := hex
        have h3 := inv.typed i hi (hlo i hi) t hit
        have h4 := states_after hst hS t i hi hit (n - (i + 1)) (by omega)
        rw [show i + 1 + (n - (i + 1)) = n from by omega] at h4
        unfold okAt at h3
        rw [← h4.2, hgn] at h3
        rw [h4.1]; exact h3.symm
      · have hno : ∀ i, i < n → dstOf ops i ≠ some t := fun i hi h => hex ⟨i, hi, h⟩
        rw [(states_before hst hle t n (Nat.le_refl _) hno).1, inv.rest t fun i hi _ => hno i hi]
    · exact h1
  rw [hab] at hK
  replace hK := hK (fun i j hi hj hne s t Os Ot hs ht hFs hFt => inv.apart i j hi hj hne (hlo i hi) (hlo j hj) s t Os Ot hs ht hFs hFt)
  have hl : (ops.toList.drop n).length = fuel := by simp; omega
  have := wpAny_tail hS (Q := Q) (ops.toList.drop n) n listed b w (Nat.le_refl _) (by simp; omega) (fun j => by simp [List.getElem?_drop]) inv.size inv.closed hlo inv.tail hK
  rw [hl] at this
  exact this
theorem wpAny_head (hS : Shape ops n) (hst : ∀ j o, ops[j]? = some o → j < n → StepX le F P ops w0 o (A j) (G j) (A (j + 1)) (G (j + 1))) (h0 : G 0 = []) (hO : OldOk F w0) {Q : Exit → Act → World → Prop} (hfin : finX le F P ops w0 Q n (A n) (G n)) :
    ∀ (fuel : Nat) (listed : Array Bool) (b : Act) (w : World), Inv le F ops w0 n A G listed b w → unl n listed + (ops.size - n) = fuel → wpAny P .any ops Q fuel listed b w := by
  have hle := hS.le
  intro fuel
  induction fuel with
  | zero =>
    intro listed b w inv hf
    exact wpAny_all_listed hS hst h0 hfin inv hf (by omega)
  | succ fuel ih =>
    intro listed b w inv hf
    by_cases hz : unl n listed = 0
    · exact wpAny_all_listed hS hst h0 hfin inv hf hz
    · obtain ⟨i0, hi0, hi0u, hi0l⟩ := unl_some n hz
      have hready : i0 ∈ Region.ready .any ops listed := by
        rw [mem_ready]
        have ho : ops[i0]? = some ops[i0] := Array.getElem?_eq_getElem (by omega)
        refine ⟨getD_true_of_false (by rw [inv.size]; omega) hi0u, _, ho, fun e he hb => hi0l _ (hS.low i0 e.on (by omega) ?_)⟩
        unfold edges
        simp only [ho, List.mem_map, List.mem_filter]
        exact ⟨e, ⟨by simpa using he, hb⟩, rfl⟩
      refine ⟨fun hn => (by rw [hn] at hready; cases hready), fun j hj => ?_⟩
      obtain ⟨hj0, ⟨o, ho⟩, hedge⟩ := ready_edges hj
      have hjs : j < ops.size := (Array.getElem?_eq_some_iff.1 ho).1
      have hun := (getD_false_of_true hj0).1
      have hjn : j < n := by
        rcases Nat.lt_or_ge j n with h | h
        · exact h
        · have := reach_listed inv.closed 5000 (edges ops j) [] hedge (fun x hx => by cases hx) i0 (hS.tail j i0 hjs h (by omega))
          rw [hi0u] at this; cases this
      have hdj : dstOf ops j = o.dst := by unfold dstOf; rw [ho]; rfl
      have hlj : looksOf ops j = o.looksAt ops := by unfold looksOf; rw [ho]
      -- what the operation looks at
      have hlook : ∀ t ∈ o.looksAt ops, okAt (G j) (A j) w t b := by
        intro t ht
        by_cases hex : ∃ i, i < j ∧ dstOf ops i = some t
        · obtain ⟨i, hij, hit⟩ := hex
          have hr := (hS.pre i j t (by omega) hjn hit (by rw [hlj]; exact ht)).1 hij
          have hli := reach_listed inv.closed 5000 (edges ops j) [] hedge (fun x hx => by cases hx) i hr
          have h1 := inv.typed i (by omega) hli t hit
          have h2 := states_after hst hS t i (by omega) hit (j - (i + 1)) (by omega)
          rw [show i + 1 + (j - (i + 1)) = j from by omega] at h2
          unfold okAt at h1 ⊢
          rw [h2.1, h2.2]; exact h1
        · have hno : ∀ i, i < j → dstOf ops i ≠ some t := fun i hi h => hex ⟨i, hi, h⟩
          have h1 := states_before hst hle t j (by omega) hno
          have h2 := inv.rest t (fun i hi hl h => by
            have hij : ¬ i < j := fun hh => hno i hh h
            obtain ⟨hne, hr⟩ := (hS.pre i j t hi hjn h (by rw [hlj]; exact ht)).2 hij
            have := reach_listed inv.closed 5000 (edges ops i) [] (fun x hx => inv.closed i hl x hx) (fun x hx => by cases hx) j hr
            rw [hun] at this; cases this)
          unfold okAt
          rw [h1.2, h0]
          simp only [Env.get, List.find?_nil, Option.map_none]
          rw [h2, h1.1]
      have hnext : ∀ (v : Value) (w' : World), le.r w w' → (∀ t Os, o.dst = some t → F t = some Os → t < b.tmps.size) → Born F o.dst w.heap.size v w' → (∀ t, o.dst = some t → okAt (G (j + 1)) (A (j + 1)) w' t (b.put o.dst v)) → wpAny P .any ops Q fuel (listed.setIfInBounds j true) (b.put o.dst v) w' :=
        fun v w' hb hlt hbn hv => ih _ _ _ (inv.step hS hst h0 hjn ho hun hedge hb v hO hlt hbn hv) (by
          have := unl_set (by rw [inv.size]; exact hjs) hun n hjn
          omega)
      have hszj := states_size hst hle j (by omega)
      have hbs : (A j).tmps.size = b.tmps.size := by rw [hszj.1, inv.bs]
      unfold wpOp
      simp only [ho]
      have hconst : ∀ v, (A (j + 1)) = (A j).put o.dst v → G (j + 1) = G j → ∀ w' t, o.dst = some t → okAt (G (j + 1)) (A (j + 1)) w' t (b.put o.dst v) := by
        intro v ha hg w' t ht
        have hno : ∀ i, i < j → dstOf ops i ≠ some t := fun i hi h => hS.dist i j t (by omega) hjn h (by omega) (by rw [hdj]; exact ht)
        have h1 := states_before hst hle t j (by omega) hno
        unfold okAt
        rw [hg, h1.2, h0]
        simp only [Env.get, List.find?_nil, Option.map_none]
        rw [ha, ht]
        exact put_same_size hbs t v
      rcases hst j o ho hjn with ⟨⟨hrel, hnf⟩, hg, hcase⟩ | ⟨d, T, hd, hdlt, hm, hobl, ha, hg⟩ | ⟨X, hnf, hobl, ha, hg⟩
      · have hsame : ∀ t ∈ o.looksAt ops, b.tmps[t]? = (A j).tmps[t]? := by
          intro t ht
          have h1 := hlook t ht
          unfold okAt at h1
          rw [relOf_nil hrel ht] at h1
          exact h1
        rw [wanted_same hsame]
        rcases hcase with ⟨hw, v, hv, ha⟩ | ⟨hw, ha⟩
        · rw [if_pos hw]
          left
          have hx := hv (⟨w, inv.bel⟩ : In (le.r w0))
          have hex := exec_same (ops := ops) (Region.noSelect_spec hS.nosel j o · · ho) hsame
          have hnx := fun w' hb => hnext v w' hb (fun t Os hd hF => (noF_some hnf hd hF).elim) (Born.none hnf) (hconst v ha hg w')
          unfold constAt at hx
          rw [← hex] at hx
          unfold Oper.wp
          change constUpon le P w v ((execOp b.eval o).run P w) at hx
          generalize (execOp b.eval o).run P w = r at hx
          cases r with
          | ok nx w' =>
            cases nx <;> simp only [constUpon] at hx <;> simp only [Oper.upon]
            case value u =>
              obtain ⟨e1, e2⟩ := hx
              rw [e1, e2]; exact hnx w (le.refl _)
            case skip =>
              obtain ⟨e1, e2⟩ := hx
              rw [e1, ← e2]; exact hnx w (le.refl _)
            case enter f args =>
              obtain ⟨e1, hc⟩ := hx
              rw [e1]
              exact hc.mono fun e w'' ⟨he, hb⟩ => by subst he; exact hnx w'' hb
          | halt x w' => simp only [constUpon] at hx
        · rw [if_neg (by rw [hw]; simp)]
          exact hnext undef w (le.refl _) (fun t Os hd hF => (noF_some hnf hd hF).elim) (Born.none hnf) (hconst undef ha hg w)
      · obtain ⟨a', ⟨hwa, hgood⟩, _, _, hsl⟩ := forallRel_at (b := b) (relOf (G j) (o.looksAt ops)) (A j) _ hbs (fun p hp => by
          obtain ⟨hp1, hp2⟩ := List.mem_filter.1 hp
          have h1 := hlook p.1 (by simpa using hp2)
          unfold okAt at h1
          rw [states_get hst hS h0 j (by omega) p.1 p.2 hp1] at h1
          exact h1) (hobl w inv.bel)
        have hsame : ∀ t ∈ o.looksAt ops, b.tmps[t]? = a'.tmps[t]? := by
          intro t ht
          rcases hsl t with ⟨h1, h2⟩ | ⟨_, h1⟩
          · have hgn : (G j).get t = none := by
              cases hgt : (G j).get t with
              | none => rfl
              | some T' => exact (h2 (t, T') (List.mem_filter.2 ⟨get_mem hgt, by simpa using ht⟩) rfl).elim
            have h3 := hlook t ht
            unfold okAt at h3
            rw [hgn] at h3
            rw [h1]; exact h3
          · exact h1.symm
        have hw : Region.wanted o (yielded ops b.tmps) = true := by rw [wanted_same hsame]; exact hwa
        rw [if_pos hw]
        left
        have hex := exec_same (ops := ops) (Region.noSelect_spec hS.nosel j o · · ho) hsame
        have hnx : ∀ u w', le.r w w' → (T u w' ∧ Born F (some d) w.heap.size u w') → wpAny P .any ops Q fuel (listed.setIfInBounds j true) (b.put o.dst u) w' := fun u w' hb hT =>
          hnext u w' hb (fun t Os ht hF => (show d = t from Option.some.inj (hd.symm.trans ht)) ▸ (hbs ▸ hdlt)) (by rw [hd]; exact hT.2) (fun t ht => by
            have htd : d = t := by rw [hd] at ht; exact Option.some.inj ht
            subst htd
            unfold okAt
            rw [hg]
            have : Env.get ((d, T) :: G j) d = some T := by simp [Env.get]
            rw [this, hd]
            exact ⟨u, put_same _ _ _ (by rw [← hbs]; exact hdlt), hT.1⟩)
        unfold Oper.wp
        rw [hex]
        generalize (execOp a'.eval o).run P w = r at hgood
        cases r with
        | ok nx w' =>
          cases nx <;> simp only [goodUpon] at hgood <;> simp only [Oper.upon]
          case value u => exact hnx u w' hgood.1 hgood.2
          case skip => exact hnx undef w' hgood.1 hgood.2
          case enter f args =>
            obtain ⟨e1, hc⟩ := hgood
            rw [e1]
            exact hc.mono fun e w'' ⟨v, he, hT, hb⟩ => by subst he; exact hnx v w'' hb hT
        | halt x w' => simp only [goodUpon] at hgood
      · obtain ⟨a', ⟨hwa, hgood⟩, _, _, hsl⟩ := forallRel_at (b := b) (relOf (G j) (o.looksAt ops)) (A j) _ hbs (fun p hp => by
          obtain ⟨hp1, hp2⟩ := List.mem_filter.1 hp
          have h1 := hlook p.1 (by simpa using hp2)
          unfold okAt at h1
          rw [states_get hst hS h0 j (by omega) p.1 p.2 hp1] at h1
          exact h1) (hobl w inv.bel)
        have hsame : ∀ t ∈ o.looksAt ops, b.tmps[t]? = a'.tmps[t]? := by
          intro t ht
          rcases hsl t with ⟨h1, h2⟩ | ⟨_, h1⟩
          · have hgn : (G j).get t = none := by
              cases hgt : (G j).get t with
              | none => rfl
              | some T' => exact (h2 (t, T') (List.mem_filter.2 ⟨get_mem hgt, by simpa using ht⟩) rfl).elim
            have h3 := hlook t ht
            unfold okAt at h3
            rw [hgn] at h3
            rw [h1]; exact h3
          · exact h1.symm
        have hw : Region.wanted o (yielded ops b.tmps) = true := by rw [wanted_same hsame]; exact hwa
        rw [if_pos hw]
        left
        have hex := exec_same (ops := ops) (Region.noSelect_spec hS.nosel j o · · ho) hsame
        have hnx : ∀ u w', le.r w w' → u = X → wpAny P .any ops Q fuel (listed.setIfInBounds j true) (b.put o.dst u) w' := fun u w' hb hT =>
          hnext u w' hb (fun t Os hd hF => (noF_some hnf hd hF).elim) (Born.none hnf) (by rw [hT]; exact hconst X ha hg w')
        unfold Oper.wp
        rw [hex]
        generalize (execOp a'.eval o).run P w = r at hgood
        cases r with
        | ok nx w' =>
          cases nx <;> simp only [goodUpon] at hgood <;> simp only [Oper.upon]
          case value u => exact hnx u w' hgood.1 hgood.2
          case skip => exact hnx undef w' hgood.1 hgood.2
          case enter f args =>
            obtain ⟨e1, hc⟩ := hgood
            rw [e1]
            exact hc.mono fun e w'' ⟨v, he, hT, hb⟩ => by subst he; exact hnx v w'' hb hT
        | halt x w' => simp only [goodUpon] at hgood
/-- **One walk of the lexical order serves every order**: the first 'n' operations each leave a value that is one and the same in every later world, or one that is known by a property; the others follow one behind the other. -/
theorem wp_region_typed (le : Le) (F : Own) (w0 : World) (n : Nat) {id : Nat} {Q : Exit → Act → World → Prop} {a : Act} {w : World} {l : List Oper} (hm : P.follows .mixedOrders = true) (hB : typedB l.toArray n = true) (hO : OldOk F w0) (hw : le.r w0 { w with drawn := w.drawn + 1 })
    (h : wpX le F P l.toArray w0 (finX le F P l.toArray w0 Q n) (l.take n) a []) : (Code.region id l.toArray true).wp P Q a w := by
  refine wp_region_any hm ?_
  have hS := shape_of hB
  obtain ⟨A, G, hA, hG, hf, hst⟩ := seqX (l.take n) a [] h
  have hlen : (l.take n).length = n := by have := hS.le; simp at this; simp; omega
  rw [hlen] at hf
  have hst' : ∀ j o, l.toArray[j]? = some o → j < n → StepX le F P l.toArray w0 o (A j) (G j) (A (j + 1)) (G (j + 1)) := fun j o hj hjn => hst j o (by simpa [List.getElem?_take, hjn] using hj)
  refine wpAny_head hS hst' hG hO hf _ _ _ _ ⟨by simp, fun j hj => ?_, hw, by rw [hA], by rw [hA], fun i _ hl => ?_, fun t _ => by rw [hA], fun i _ => getD_replicate_false _ _, fun i _ hl => ?_, fun i j _ _ _ hl => ?_⟩ ?_
  · rw [getD_replicate_false] at hj; cases hj
  · rw [getD_replicate_false] at hl; cases hl
  · rw [getD_replicate_false] at hl; cases hl
  · rw [getD_replicate_false] at hl; cases hl
  · have : ∀ k, unl k (Array.replicate l.toArray.size false) = k := by
      intro k
      induction k with
      | zero => rfl
      | succ k ih => unfold unl; rw [ih, getD_replicate_false]; simp
    rw [this]
    have := hS.le
    omega
end
end Go.Proofs.Ytgmdbleeagfhpaa.Turn
