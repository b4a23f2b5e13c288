/- A region that draws its order, some of whose operations make memory (a call that hands back a new slice, a new block): one walk in the order of the text serves every order, each such value being known by a property that later worlds keep. No program in sight. -/
import Derived.Test.YtohenjgegkgncaaQuiet
import Derived.StillTail
set_option linter.unusedSimpArgs false
set_option linter.unusedVariables false
namespace Go.Proofs.Ytohenjgegkgncaa
open Go.RowKit
/-- What is known of a slot. -/
abbrev Ty := Value → World → Prop
abbrev Env := List (Tmp × Ty)
def Env.get (Γ : Env) (t : Tmp) : Option Ty := (Γ.find? fun p => p.1 == t).map (·.2)
def Mono (T : Ty) : Prop := ∀ v w w', T v w → Below w.heap.size w w' → T v w'
def okAt (Γ : Env) (a : Act) (w : World) (t : Tmp) (b : Act) : Prop :=
  match Γ.get t with
  | some T => ∃ v, b.tmps[t]? = some v ∧ T v w
  | none => b.tmps[t]? = a.tmps[t]?
section
variable {P : Program} {ops : Array Oper}
def constUpon (P : Program) (w : World) (v : Value) : Result Next → Prop
  | .ok (.value u) w' => w' = w ∧ u = v
  | .ok .skip w' => w' = w ∧ v = undef
  | .ok (.enter f args) w' => w' = w ∧ Calls P f args w (fun e w'' => e = .returned v ∧ Below w.heap.size w w'')
  | _ => False
def constAt (P : Program) (o : Oper) (a : Act) (w : World) (v : Value) : Prop := constUpon P w v ((execOp a.eval o).run P w)
def constOp (P : Program) (w0 : World) (o : Oper) (a : Act) (next : Act → Prop) : Prop := ∃ v, (∀ u : Ext w0, constAt P o a u.val v) ∧ next (a.put o.dst v)
attribute [go_sem] constOp constAt constUpon
def goodUpon (P : Program) (T : Ty) (w : World) : Result Next → Prop
  | .ok (.value u) w' => Below w.heap.size w w' ∧ T u w'
  | .ok .skip w' => Below w.heap.size w w' ∧ T undef w'
  | .ok (.enter f args) w' => w' = w ∧ Calls P f args w (fun e w'' => ∃ v, e = .returned v ∧ T v w'' ∧ Below w.heap.size w w'')
  | _ => False
attribute [go_sem] goodUpon
/-- For all values of these slots of which this is known. -/
def forallRel (w : World) : Env → Act → (Act → Prop) → Prop
  | [], a, K => K a
  | (t, T) :: r, a, K => ∀ v, T v w → forallRel w r (a.put (some t) v) K
/-- The slots among these that are known by a property. -/
def relOf (Γ : Env) (ts : List Tmp) : Env := Γ.filter fun p => ts.contains p.1
def wpX (P : Program) (ops : Array Oper) (w0 : World) (fin : Act → Env → Prop) : List Oper → Act → Env → Prop
  | [], a, Γ => fin a Γ
  | o :: rest, a, Γ =>
    ((relOf Γ (o.looksAt ops)) = [] ∧
      if Region.wanted o (yielded ops a.tmps) then constOp P w0 o a (fun a' => wpX P ops w0 fin rest a' Γ) else wpX P ops w0 fin rest (a.put o.dst undef) Γ) ∨
    (∃ (d : Tmp) (T : Ty), o.dst = some d ∧ d < a.tmps.size ∧ Mono T ∧
      (∀ w, Below w0.heap.size w0 w → forallRel w (relOf Γ (o.looksAt ops)) a (fun a' => Region.wanted o (yielded ops a'.tmps) = true ∧ goodUpon P T w ((execOp a'.eval o).run P w))) ∧
      wpX P ops w0 fin rest (a.put o.dst undef) ((d, T) :: Γ)) ∨
    (∃ (X : Value),
      (∀ w, Below w0.heap.size w0 w → forallRel w (relOf Γ (o.looksAt ops)) a (fun a' => Region.wanted o (yielded ops a'.tmps) = true ∧ goodUpon P (fun v _ => v = X) w ((execOp a'.eval o).run P w))) ∧
      wpX P ops w0 fin rest (a.put o.dst X) Γ)
theorem wpX_nil {w0 : World} {fin : Act → Env → Prop} {a : Act} {Γ : Env} (h : fin a Γ) : wpX P ops w0 fin [] a Γ := h
/-- An operation whose value is one and the same in every world of the class. -/
theorem wpX_step {w0 : World} {fin : Act → Env → Prop} {a : Act} {Γ : Env} {o : Oper} {rest : List Oper} (hr : (relOf Γ (o.looksAt ops)) = [])
    (h : ∀ K : Act → Prop, (∀ a, wpX P ops w0 fin rest a Γ → K a) → if Region.wanted o (yielded ops a.tmps) then constOp P w0 o a K else K (a.put o.dst undef)) : wpX P ops w0 fin (o :: rest) a Γ :=
  .inl ⟨hr, h (fun a => wpX P ops w0 fin rest a Γ) (fun _ h => h)⟩
/-- An operation whose value is known by a property. -/
theorem wpX_rel {w0 : World} {fin : Act → Env → Prop} {a : Act} {Γ : Env} {o : Oper} {rest : List Oper} (d : Tmp) (T : Ty) (hd : o.dst = some d) (hlt : d < a.tmps.size) (hm : Mono T)
    (h : ∀ w, Below w0.heap.size w0 w → forallRel w (relOf Γ (o.looksAt ops)) a (fun a' => Region.wanted o (yielded ops a'.tmps) = true ∧ goodUpon P T w ((execOp a'.eval o).run P w)))
    (hn : wpX P ops w0 fin rest (a.put o.dst undef) ((d, T) :: Γ)) : wpX P ops w0 fin (o :: rest) a Γ :=
  .inr (.inl ⟨d, T, hd, hlt, hm, h, hn⟩)
/-- An operation that looks at such values and yields one that is known outright. -/
theorem wpX_eq {w0 : World} {fin : Act → Env → Prop} {a : Act} {Γ : Env} {o : Oper} {rest : List Oper} (X : Value)
    (h : ∀ w, Below w0.heap.size w0 w → forallRel w (relOf Γ (o.looksAt ops)) a (fun a' => Region.wanted o (yielded ops a'.tmps) = true ∧ goodUpon P (fun v _ => v = X) w ((execOp a'.eval o).run P w)))
    (hn : wpX P ops w0 fin rest (a.put o.dst X) Γ) : wpX P ops w0 fin (o :: rest) a Γ :=
  .inr (.inr ⟨X, h, hn⟩)

/-! ### which operations come before which -/
def edges (ops : Array Oper) (j : Nat) : List Nat := match ops[j]? with
  | some o => (o.after.toList.filter (Region.binds .any)).map (·.on)
  | none => []
def reach (ops : Array Oper) : Nat → List Nat → List Nat → List Nat
  | 0, _, seen => seen
  | _ + 1, [], seen => seen
  | f + 1, x :: wl, seen => if seen.contains x then reach ops f wl seen else reach ops f (edges ops x ++ wl) (x :: seen)
def dstOf (ops : Array Oper) (i : Nat) : Option Tmp := (ops[i]?).bind (·.dst)
def looksOf (ops : Array Oper) (j : Nat) : List Tmp := match ops[j]? with
  | some o => o.looksAt ops
  | none => []
def typedB (ops : Array Oper) (n : Nat) : Bool :=
  Region.noSelect ops && decide (n ≤ ops.size) &&
  ((List.range ops.size).all fun i => (edges ops i).all fun k => decide (k < i)) &&
  ((List.range n).all fun j => (List.range n).all fun i =>
    match dstOf ops i with
    | none => true
    | some t => (i == j || dstOf ops j != some t) &&
      (!(looksOf ops j).contains t || (if i < j then (reach ops 5000 (edges ops j) []).contains i else (i != j) && (reach ops 5000 (edges ops i) []).contains j))) &&
  ((List.range ops.size).all fun i => decide (i < n) || ((List.range i).all fun k => (reach ops 5000 (edges ops i) []).contains k))
def Closed (ops : Array Oper) (listed : Array Bool) : Prop := ∀ j, listed.getD j false = true → ∀ i ∈ edges ops j, listed.getD i false = true
theorem reach_listed {listed : Array Bool} (hc : Closed ops listed) : ∀ (f : Nat) (wl seen : List Nat), (∀ x ∈ wl, listed.getD x false = true) → (∀ x ∈ seen, listed.getD x false = true) → ∀ x ∈ reach ops f wl seen, listed.getD x false = true
  | 0, _, _, _, hs => hs
  | _ + 1, [], _, _, hs => hs
  | f + 1, x :: wl, seen, hw, hs => by
    unfold reach
    split
    · exact reach_listed hc f wl seen (fun y hy => hw y (List.mem_cons_of_mem _ hy)) hs
    · refine reach_listed hc f _ _ (fun y hy => ?_) (fun y hy => ?_)
      · rcases List.mem_append.1 hy with hy | hy
        · exact hc x (hw x List.mem_cons_self) y hy
        · exact hw y (List.mem_cons_of_mem _ hy)
      · rcases List.mem_cons.1 hy with rfl | hy
        · exact hw y List.mem_cons_self
        · exact hs y hy
theorem ready_edges {listed : Array Bool} {j : Nat} (h : j ∈ Region.ready .any ops listed) : listed.getD j true = false ∧ (∃ o, ops[j]? = some o) ∧ ∀ i ∈ edges ops j, listed.getD i false = true := by
  obtain ⟨h0, o, ho, hall⟩ := mem_ready.1 h
  refine ⟨h0, ⟨o, ho⟩, fun i hi => ?_⟩
  unfold edges at hi
  simp only [ho, List.mem_map, List.mem_filter] at hi
  obtain ⟨e, ⟨he, hb⟩, rfl⟩ := hi
  exact hall e (by simpa using he) hb
/-! ### the lexical walk, as a row of states -/
def StepX (P : Program) (ops : Array Oper) (w0 : World) (o : Oper) (a : Act) (Γ : Env) (a' : Act) (Γ' : Env) : Prop :=
  (relOf Γ (o.looksAt ops) = [] ∧ Γ' = Γ ∧ ((Region.wanted o (yielded ops a.tmps) = true ∧ ∃ v, (∀ u : Ext w0, constAt P o a u.val v) ∧ a' = a.put o.dst v) ∨ (Region.wanted o (yielded ops a.tmps) = false ∧ a' = a.put o.dst undef))) ∨
  (∃ (d : Tmp) (T : Ty), o.dst = some d ∧ d < a.tmps.size ∧ Mono T ∧
      (∀ w, Below w0.heap.size w0 w → forallRel w (relOf Γ (o.looksAt ops)) a (fun a' => Region.wanted o (yielded ops a'.tmps) = true ∧ goodUpon P T w ((execOp a'.eval o).run P w))) ∧ a' = a.put o.dst undef ∧ Γ' = (d, T) :: Γ) ∨
  (∃ (X : Value),
      (∀ w, Below w0.heap.size w0 w → forallRel w (relOf Γ (o.looksAt ops)) a (fun a' => Region.wanted o (yielded ops a'.tmps) = true ∧ goodUpon P (fun v _ => v = X) w ((execOp a'.eval o).run P w))) ∧ a' = a.put o.dst X ∧ Γ' = Γ)
theorem seqX {w0 : World} {fin : Act → Env → Prop} : ∀ (l : List Oper) (a : Act) (Γ : Env), wpX P ops w0 fin l a Γ →
    ∃ (A : Nat → Act) (G : Nat → Env), A 0 = a ∧ G 0 = Γ ∧ fin (A l.length) (G l.length) ∧ ∀ j o, l[j]? = some o → StepX P ops w0 o (A j) (G j) (A (j + 1)) (G (j + 1))
  | [], a, Γ, h => ⟨fun _ => a, fun _ => Γ, rfl, rfl, h, fun j o hj => by simp at hj⟩
  | o :: l, a, Γ, h => by
    have key : ∃ a' Γ', StepX P ops w0 o a Γ a' Γ' ∧ wpX P ops w0 fin l a' Γ' := by
      unfold wpX at h
      rcases h with ⟨hr, h⟩ | ⟨d, T, h1, h2, h3, h5, h6⟩ | ⟨X, h5, h6⟩
      · by_cases hw : Region.wanted o (yielded ops a.tmps) = true
        · rw [if_pos hw] at h
          obtain ⟨v, hv, hn⟩ := h
          exact ⟨_, _, .inl ⟨hr, rfl, .inl ⟨hw, v, hv, rfl⟩⟩, hn⟩
        · rw [if_neg hw] at h
          exact ⟨_, _, .inl ⟨hr, rfl, .inr ⟨by simpa using hw, rfl⟩⟩, h⟩
      · exact ⟨_, _, .inr (.inl ⟨d, T, h1, h2, h3, h5, rfl, rfl⟩), h6⟩
      · exact ⟨_, _, .inr (.inr ⟨X, h5, rfl, rfl⟩), h6⟩
    obtain ⟨a', Γ', hs, hn⟩ := key
    obtain ⟨A, G, hA, hG, hf, hst⟩ := seqX l a' Γ' hn
    refine ⟨fun k => match k with | 0 => a | k + 1 => A k, fun k => match k with | 0 => Γ | k + 1 => G k, rfl, rfl, hf, fun j o' hj => ?_⟩
    cases j with
    | zero =>
      simp only [List.getElem?_cons_zero, Option.some.injEq] at hj
      subst hj
      show StepX P ops w0 o a Γ (A 0) (G 0)
      rw [hA, hG]; exact hs
    | succ j => exact hst j o' (by simpa using hj)
theorem put_size (a : Act) (d : Option Tmp) (v : Value) : (a.put d v).tmps.size = a.tmps.size := by cases d <;> simp [Act.put]
theorem put_defers' (a : Act) (d : Option Tmp) (v : Value) : (a.put d v).defers = a.defers := by cases d <;> rfl
theorem put_other (a : Act) (d : Option Tmp) (v : Value) (t : Tmp) (h : d ≠ some t) : (a.put d v).tmps[t]? = a.tmps[t]? := by
  cases d with
  | none => rfl
  | some d => simp only [Act.put]; exact Array.getElem?_setIfInBounds_ne (fun e => h (by rw [e]))
theorem put_same (a : Act) (d : Tmp) (v : Value) (h : d < a.tmps.size) : (a.put (some d) v).tmps[d]? = some v := by
  simp [Act.put, h]
theorem StepX.keeps {w0 : World} {o : Oper} {a a' : Act} {Γ Γ' : Env} (h : StepX P ops w0 o a Γ a' Γ') : a'.tmps.size = a.tmps.size ∧ a'.defers = a.defers ∧ ∀ t, o.dst ≠ some t → a'.tmps[t]? = a.tmps[t]? ∧ Γ'.get t = Γ.get t := by
  rcases h with ⟨_, rfl, ⟨_, v, _, rfl⟩ | ⟨_, rfl⟩⟩ | ⟨d, T, hd, _, _, _, rfl, rfl⟩ | ⟨X, _, rfl, rfl⟩
  · exact ⟨put_size _ _ _, put_defers' _ _ _, fun t ht => ⟨put_other _ _ _ _ ht, rfl⟩⟩
  · exact ⟨put_size _ _ _, put_defers' _ _ _, fun t ht => ⟨put_other _ _ _ _ ht, rfl⟩⟩
  · refine ⟨put_size _ _ _, put_defers' _ _ _, fun t ht => ⟨put_other _ _ _ _ ht, ?_⟩⟩
    have : d ≠ t := fun e => ht (by rw [hd, e])
    have hb : (d == t) = false := by simpa using this
    unfold Env.get
    rw [List.find?_cons_of_neg (by simpa using hb)]
  · exact ⟨put_size _ _ _, put_defers' _ _ _, fun t ht => ⟨put_other _ _ _ _ ht, rfl⟩⟩
/-- How many of the first 'n' are not listed. -/
def unl : Nat → Array Bool → Nat
  | 0, _ => 0
  | n + 1, l => unl n l + (if l.getD n false = true then 0 else 1)
theorem unl_zero {listed : Array Bool} : ∀ (n : Nat), unl n listed = 0 → ∀ i, i < n → listed.getD i false = true
  | 0, _, i, hi => by omega
  | n + 1, h, i, hi => by
    unfold unl at h
    by_cases hn : listed.getD n false = true
    · rw [if_pos hn] at h
      by_cases hin : i = n
      · rw [hin]; exact hn
      · exact unl_zero n (by omega) i (by omega)
    · rw [if_neg hn] at h; omega
theorem unl_same {listed : Array Bool} (j : Nat) : ∀ (n : Nat), n ≤ j → unl n (listed.setIfInBounds j true) = unl n listed
  | 0, _ => rfl
  | n + 1, h => by
    unfold unl
    rw [unl_same j n (by omega), getD_set_ne false (by omega)]
theorem getD_set_self {listed : Array Bool} {j : Nat} (h : j < listed.size) : (listed.setIfInBounds j true).getD j false = true := by
  simp [h]
theorem unl_set {listed : Array Bool} {j : Nat} (hs : j < listed.size) (hj : listed.getD j false = false) : ∀ (n : Nat), j < n → unl n (listed.setIfInBounds j true) + 1 = unl n listed
  | 0, h => by omega
  | n + 1, h => by
    unfold unl
    by_cases hjn : j = n
    · subst hjn
      rw [unl_same j j (Nat.le_refl _), if_pos (getD_set_self hs), if_neg (by rw [hj]; simp)]
    · have := unl_set hs hj n (by omega)
      rw [getD_set_ne false hjn]
      omega
theorem unl_some {listed : Array Bool} : ∀ (n : Nat), unl n listed ≠ 0 → ∃ i, i < n ∧ listed.getD i false = false ∧ ∀ k, k < i → listed.getD k false = true
  | 0, h => by simp [unl] at h
  | n + 1, h => by
    by_cases h0 : unl n listed = 0
    · refine ⟨n, by omega, ?_, unl_zero n h0⟩
      unfold unl at h
      by_cases hn : listed.getD n false = true
      · rw [if_pos hn] at h; omega
      · simpa using hn
    · obtain ⟨i, hi, h1, h2⟩ := unl_some n h0
      exact ⟨i, by omega, h1, h2⟩
/-! ### what the tail asks -/
theorem getD_true_of_false {listed : Array Bool} {i : Nat} (hi : i < listed.size) (h : listed.getD i false = false) : listed.getD i true = false := by
  simp [hi] at h ⊢; exact h
theorem getD_false_of_true {listed : Array Bool} {i : Nat} (h : listed.getD i true = false) : listed.getD i false = false ∧ i < listed.size := by
  rcases Nat.lt_or_ge i listed.size with h' | h'
  · simp [h'] at h ⊢; exact h
  · simp [h'] at h
theorem closed_set {listed : Array Bool} (hc : Closed ops listed) {j : Nat} (hj : ∀ i ∈ edges ops j, listed.getD i false = true) : Closed ops (listed.setIfInBounds j true) := by
  intro k hk i hi
  by_cases hkj : k = j
  · subst hkj; exact getD_set_true (hj i hi)
  · rw [getD_set_ne false (Ne.symm hkj)] at hk
    exact getD_set_true (hc k hk i hi)
structure Shape (ops : Array Oper) (n : Nat) : Prop where
  nosel : Region.noSelect ops = true
  le : n ≤ ops.size
  low : ∀ i k, i < ops.size → k ∈ edges ops i → k < i
  dist : ∀ i j t, i < n → j < n → dstOf ops i = some t → i ≠ j → dstOf ops j ≠ some t
  pre : ∀ i j t, i < n → j < n → dstOf ops i = some t → t ∈ looksOf ops j → (i < j → i ∈ reach ops 5000 (edges ops j) []) ∧ (¬ i < j → i ≠ j ∧ j ∈ reach ops 5000 (edges ops i) [])
  tail : ∀ i k, i < ops.size → n ≤ i → k < i → k ∈ reach ops 5000 (edges ops i) []
theorem shape_of {n : Nat} (h : typedB ops n = true) : Shape ops n := by
  unfold typedB at h
  simp only [Bool.and_eq_true, decide_eq_true_eq] at h
  obtain ⟨⟨⟨⟨h1, h2⟩, h3⟩, h4⟩, h5⟩ := h
  have h4' : ∀ i j t, i < n → j < n → dstOf ops i = some t → (i == j || dstOf ops j != some t) = true ∧ ((!(looksOf ops j).contains t) = true ∨ (if i < j then (reach ops 5000 (edges ops j) []).contains i else (i != j) && (reach ops 5000 (edges ops i) []).contains j) = true) := by
    intro i j t hi hj ht
    have := List.all_eq_true.1 (List.all_eq_true.1 h4 j (by simpa using hj)) i (by simpa using hi)
    rw [ht] at this
    simp only [Bool.and_eq_true, Bool.or_eq_true] at this
    simpa using this
  refine ⟨h1, h2, fun i k hi hk => ?_, fun i j t hi hj ht hne => ?_, fun i j t hi hj ht hl => ?_, fun i k hi hn hk => ?_⟩
  · have := List.all_eq_true.1 (List.all_eq_true.1 h3 i (by simpa using hi)) k hk
    simpa using this
  · have := (h4' i j t hi hj ht).1
    simp only [Bool.or_eq_true, beq_iff_eq, bne_iff_ne] at this
    exact this.resolve_left hne
  · have := (h4' i j t hi hj ht).2
    have hl' : (!(looksOf ops j).contains t) = false := by simpa using hl
    rw [hl'] at this
    have := this.resolve_left (by simp)
    by_cases hij : i < j
    · rw [if_pos hij] at this
      exact ⟨fun _ => by simpa using this, fun h => (h hij).elim⟩
    · rw [if_neg hij] at this
      simp only [Bool.and_eq_true, bne_iff_ne] at this
      exact ⟨fun h => (hij h).elim, fun _ => ⟨this.1, by simpa using this.2⟩⟩
  · have := List.all_eq_true.1 h5 i (by simpa using hi)
    simp only [Bool.or_eq_true, decide_eq_true_eq] at this
    have := List.all_eq_true.1 (this.resolve_left (by omega)) k (by simpa using hk)
    simpa using this
/-- The tail, one operation after another. -/
theorem wpAny_tail {n : Nat} (hS : Shape ops n) {Q : Exit → Act → World → Prop} : ∀ (l : List Oper) (k : Nat) (listed : Array Bool) (b : Act) (w : World), n ≤ k → k + l.length = ops.size → (∀ j, l[j]? = ops[k + j]?) → listed.size = ops.size →
    Closed ops listed → (∀ i, i < k → listed.getD i false = true) → (∀ i, k ≤ i → listed.getD i false = false) → wpList P ops Q l b w → wpAny P .any ops Q l.length listed b w
  | [], k, listed, b, w, _, hkl, _, hsz, _, hlo, _, h => by
    refine ⟨?_, h⟩
    apply List.eq_nil_iff_forall_not_mem.2
    intro j hj
    obtain ⟨h0, ⟨o, ho⟩, _⟩ := ready_edges hj
    have hjs : j < ops.size := (Array.getElem?_eq_some_iff.1 ho).1
    have := (getD_false_of_true h0).1
    rw [hlo j (by simp at hkl; omega)] at this
    cases this
  | o :: l, k, listed, b, w, hnk, hkl, hl, hsz, hcl, hlo, hhi, h => by
    have h0 : ops[k]? = some o := by simpa using (hl 0).symm
    have hks : k < ops.size := (Array.getElem?_eq_some_iff.1 h0).1
    have hlow := hS.low
    have hready : k ∈ Region.ready .any ops listed := by
      rw [mem_ready]
      refine ⟨getD_true_of_false (by omega) (hhi k (Nat.le_refl _)), o, h0, fun e he hb => hlo _ (hlow k e.on hks ?_)⟩
      unfold edges
      simp only [h0, List.mem_map, List.mem_filter]
      exact ⟨e, ⟨by simpa using he, hb⟩, rfl⟩
    refine ⟨fun hn => (by rw [hn] at hready; cases hready), fun j hj => ?_⟩
    obtain ⟨hj0, ⟨oj, hoj⟩, hje⟩ := ready_edges hj
    have hjs : j < ops.size := (Array.getElem?_eq_some_iff.1 hoj).1
    have hjk : j = k := by
      have h1 := (getD_false_of_true hj0).1
      rcases Nat.lt_trichotomy j k with hlt | heq | hgt
      · rw [hlo j hlt] at h1; cases h1
      · exact heq
      · have := reach_listed hcl 5000 (edges ops j) [] hje (fun x hx => by cases hx) k (hS.tail j k hjs (by omega) hgt)
        rw [hhi k (Nat.le_refl _)] at this; cases this
    subst hjk
    have ih : ∀ b w, wpList P ops Q l b w → wpAny P .any ops Q l.length (listed.setIfInBounds j true) b w := fun b w hw => wpAny_tail hS l (j + 1) (listed.setIfInBounds j true) b w (by omega) (by simp at hkl; omega) (fun i => by have := hl (i + 1); simpa [Nat.add_assoc, Nat.add_comm 1 i] using this) (by simp [hsz])
      (closed_set hcl hje) (fun i hi => by
        by_cases hij : i = j
        · subst hij; exact getD_set_self (by omega)
        · exact getD_set_true (hlo i (by omega))) (fun i hi => by rw [getD_set_ne false (by omega)]; exact hhi i (by omega)) hw
    unfold wpList at h
    unfold wpOp
    simp only [h0]
    split
    · rename_i hw
      rw [if_pos hw] at h
      rcases h with h | h
      · exact .inl (Oper.wp_mono (fun a w hq => ih a w hq) h)
      · exact .inr h
    · rename_i hw
      rw [if_neg hw] at h
      exact ih _ _ h
/-! ### the head: whatever order is picked -/
theorem okAt_mono {Γ : Env} (hm : ∀ t T, Γ.get t = some T → Mono T) {a b : Act} {w w' : World} {t : Tmp} (h : okAt Γ a w t b) (hb : Below w.heap.size w w') : okAt Γ a w' t b := by
  unfold okAt at *
  cases hg : Γ.get t with
  | none => simpa [hg] using h
  | some T =>
    simp only [hg] at h ⊢
    obtain ⟨v, h1, h2⟩ := h
    exact ⟨v, h1, hm t T hg v w w' h2 hb⟩
theorem get_mem {Γ : Env} {t : Tmp} {T : Ty} (h : Γ.get t = some T) : (t, T) ∈ Γ := by
  unfold Env.get at h
  obtain ⟨p, hp, rfl⟩ := Option.map_eq_some_iff.1 h
  have h1 := List.mem_of_find?_eq_some hp
  have h2 := List.find?_some hp
  have : p.1 = t := by simpa using h2
  rw [← this]; exact h1
theorem relOf_nil {Γ : Env} {ts : List Tmp} (h : relOf Γ ts = []) {t : Tmp} (ht : t ∈ ts) : Γ.get t = none := by
  cases hg : Γ.get t with
  | none => rfl
  | some T =>
    have : (t, T) ∈ relOf Γ ts := List.mem_filter.2 ⟨get_mem hg, by simpa using ht⟩
    rw [h] at this; cases this
/-- 'forallRel' at the values that the slots hold. -/
theorem forallRel_at {w : World} {b : Act} : ∀ (r : Env) (a : Act) (K : Act → Prop), a.tmps.size = b.tmps.size → (∀ p ∈ r, ∃ v, b.tmps[p.1]? = some v ∧ p.2 v w) → forallRel w r a K →
    ∃ a', K a' ∧ a'.tmps.size = b.tmps.size ∧ a'.defers = a.defers ∧ ∀ t, (a'.tmps[t]? = a.tmps[t]? ∧ (∀ p ∈ r, p.1 ≠ t)) ∨ ((∃ p ∈ r, p.1 = t) ∧ a'.tmps[t]? = b.tmps[t]?)
  | [], a, K, hs, _, h => ⟨a, h, hs, rfl, fun t => .inl ⟨rfl, fun p hp => by cases hp⟩⟩
  | (d, T) :: r, a, K, hs, hv, h => by
    obtain ⟨v, h1, h2⟩ := hv (d, T) List.mem_cons_self
    have hdlt : d < b.tmps.size := (Array.getElem?_eq_some_iff.1 h1).1
    obtain ⟨a', hK, hs', hd', hall⟩ := forallRel_at r (a.put (some d) v) K (by rw [put_size]; exact hs) (fun p hp => hv p (List.mem_cons_of_mem _ hp)) (h v h2)
    refine ⟨a', hK, hs', by rw [hd', put_defers'], fun t => ?_⟩
    rcases hall t with ⟨h3, h4⟩ | ⟨⟨p, hp, hpt⟩, h5⟩
    · by_cases hdt : d = t
      · subst hdt
        refine .inr ⟨⟨(d, T), List.mem_cons_self, rfl⟩, ?_⟩
        rw [h3, put_same _ _ _ (by rw [hs]; exact hdlt), h1]
      · refine .inl ⟨by rw [h3, put_other _ _ _ _ (by simpa using hdt)], fun p hp => ?_⟩
        rcases List.mem_cons.1 hp with rfl | hp
        · exact hdt
        · exact h4 p hp
    · exact .inr ⟨⟨p, List.mem_cons_of_mem _ hp, hpt⟩, h5⟩
theorem act_ext {a b : Act} (hd : a.defers = b.defers) (ht : ∀ t : Nat, a.tmps[t]? = b.tmps[t]?) : a = b := by
  cases a; cases b
  simp only at hd ht
  subst hd
  congr 1
  exact Array.ext_getElem? ht
theorem exec_same {o : Oper} {a b : Act} (hs : ∀ cs z, o.op ≠ .select cs z) (h : ∀ t ∈ o.looksAt ops, a.tmps[t]? = b.tmps[t]?) : execOp a.eval o = execOp b.eval o :=
  execOp_congr o hs fun x hx => by
    cases x with
    | tmp t =>
      have := h t (List.mem_append_left _ (List.mem_filterMap.2 ⟨.tmp t, by simpa using hx, rfl⟩))
      simp [Act.eval, this]
    | const v => rfl
    | global g => rfl
    | func f => rfl
theorem wanted_same {o : Oper} {a b : Act} (h : ∀ t ∈ o.looksAt ops, a.tmps[t]? = b.tmps[t]?) : Region.wanted o (yielded ops a.tmps) = Region.wanted o (yielded ops b.tmps) := by
  unfold Region.wanted
  cases hg : o.guard with
  | none => rfl
  | some gd =>
    obtain ⟨j, want⟩ := gd
    simp only [yielded]
    cases hd : (ops[j]?).bind (·.dst) with
    | none => rfl
    | some t =>
      have ht : t ∈ o.looksAt ops := by
        unfold Oper.looksAt
        refine List.mem_append_right _ ?_
        simp [hg, hd]
      simp only [Option.bind_some]
      rw [h t ht]
/-- What follows behind the head: the tail, under what is known of the slots. -/
def finX (P : Program) (ops : Array Oper) (w0 : World) (Q : Exit → Act → World → Prop) (n : Nat) (a : Act) (Γ : Env) : Prop :=
  ∀ w', Below w0.heap.size w0 w' → forallRel w' Γ.reverse a (fun a' => wpList P ops Q (ops.toList.drop n) a' w')
theorem wpX_end {w0 : World} {Q : Exit → Act → World → Prop} {n : Nat} {a : Act} {Γ : Env} (hn : ops.toList.drop n = []) (h : ∀ w', Below w0.heap.size w0 w' → forallRel w' Γ.reverse a (fun a' => Q .normal a' w')) : wpX P ops w0 (finX P ops w0 Q n) [] a Γ := by
  intro w' hw
  rw [hn]
  exact h w' hw
structure Inv (ops : Array Oper) (w0 : World) (n : Nat) (A : Nat → Act) (G : Nat → Env) (listed : Array Bool) (b : Act) (w : World) : Prop where
  size : listed.size = ops.size
  closed : Closed ops listed
  bel : Below w0.heap.size w0 w
  defers : b.defers = (A 0).defers
  bs : b.tmps.size = (A 0).tmps.size
  typed : ∀ i, i < n → listed.getD i false = true → ∀ t, dstOf ops i = some t → okAt (G (i + 1)) (A (i + 1)) w t b
  rest : ∀ t, (∀ i, i < n → listed.getD i false = true → dstOf ops i ≠ some t) → b.tmps[t]? = (A 0).tmps[t]?
  tail : ∀ i, n ≤ i → listed.getD i false = false
section
variable {w0 : World} {n : Nat} {A : Nat → Act} {G : Nat → Env}
theorem states_size (hst : ∀ j o, ops[j]? = some o → j < n → StepX P ops w0 o (A j) (G j) (A (j + 1)) (G (j + 1))) (hn : n ≤ ops.size) : ∀ j, j ≤ n → (A j).tmps.size = (A 0).tmps.size ∧ (A j).defers = (A 0).defers
  | 0, _ => ⟨rfl, rfl⟩
  | j + 1, hj => by
    have ih := states_size hst hn j (by omega)
    have ho : ops[j]? = some ops[j] := Array.getElem?_eq_getElem (by omega)
    have := (hst j _ ho (by omega)).keeps
    exact ⟨this.1.trans ih.1, this.2.1.trans ih.2⟩
theorem states_before (hst : ∀ j o, ops[j]? = some o → j < n → StepX P ops w0 o (A j) (G j) (A (j + 1)) (G (j + 1))) (hn : n ≤ ops.size) (t : Tmp) : ∀ j, j ≤ n → (∀ i, i < j → dstOf ops i ≠ some t) → (A j).tmps[t]? = (A 0).tmps[t]? ∧ (G j).get t = (G 0).get t
  | 0, _, _ => ⟨rfl, rfl⟩
  | j + 1, hj, h => by
    have ih := states_before hst hn t j (by omega) (fun i hi => h i (by omega))
    have ho : ops[j]? = some ops[j] := Array.getElem?_eq_getElem (by omega)
    have hk := (hst j _ ho (by omega)).keeps.2.2 t (by have := h j (by omega); unfold dstOf at this; rw [ho] at this; exact this)
    exact ⟨hk.1.trans ih.1, hk.2.trans ih.2⟩
theorem states_after (hst : ∀ j o, ops[j]? = some o → j < n → StepX P ops w0 o (A j) (G j) (A (j + 1)) (G (j + 1))) (hS : Shape ops n) (t : Tmp) (i : Nat) (hi : i < n) (ht : dstOf ops i = some t) : ∀ d, i + 1 + d ≤ n → (A (i + 1 + d)).tmps[t]? = (A (i + 1)).tmps[t]? ∧ (G (i + 1 + d)).get t = (G (i + 1)).get t
  | 0, _ => ⟨rfl, rfl⟩
  | d + 1, hd => by
    have ih := states_after hst hS t i hi ht d (by omega)
    have hle := hS.le
    have ho : ops[i + 1 + d]? = some ops[i + 1 + d] := Array.getElem?_eq_getElem (by omega)
    have hk := (hst (i + 1 + d) _ ho (by omega)).keeps.2.2 t (by
      have := hS.dist i (i + 1 + d) t hi (by omega) ht (by omega)
      unfold dstOf at this; rw [ho] at this; exact this)
    exact ⟨hk.1.trans ih.1, hk.2.trans ih.2⟩
theorem states_mono (hst : ∀ j o, ops[j]? = some o → j < n → StepX P ops w0 o (A j) (G j) (A (j + 1)) (G (j + 1))) (hn : n ≤ ops.size) (h0 : G 0 = []) : ∀ j, j ≤ n → (∀ t T, (t, T) ∈ G j → Mono T ∧ ∃ i, i < j ∧ dstOf ops i = some t) ∧ ((G j).map (·.1)).length = (G j).length
  | 0, _ => ⟨fun t T h => (by rw [h0] at h; cases h), by simp⟩
  | j + 1, hj => by
    have ih := states_mono hst hn h0 j (by omega)
    have ho : ops[j]? = some ops[j] := Array.getElem?_eq_getElem (by omega)
    refine ⟨fun t T h => ?_, by simp⟩
    rcases hst j _ ho (by omega) with ⟨_, hg, _⟩ | ⟨d, T', hd, _, hm, _, _, hg⟩ | ⟨X, _, _, hg⟩
    · rw [hg] at h
      obtain ⟨h1, i, hi, h2⟩ := ih.1 t T h
      exact ⟨h1, i, by omega, h2⟩
    rotate_left
    · rw [hg] at h
      obtain ⟨h1, i, hi, h2⟩ := ih.1 t T h
      exact ⟨h1, i, by omega, h2⟩
    · rw [hg] at h
      rcases List.mem_cons.1 h with e | h
      · simp only [Prod.mk.injEq] at e
        obtain ⟨rfl, rfl⟩ := e
        exact ⟨hm, j, by omega, by unfold dstOf; rw [ho]; exact hd⟩
      · obtain ⟨h1, i, hi, h2⟩ := ih.1 t T h
        exact ⟨h1, i, by omega, h2⟩
theorem states_get (hst : ∀ j o, ops[j]? = some o → j < n → StepX P ops w0 o (A j) (G j) (A (j + 1)) (G (j + 1))) (hS : Shape ops n) (h0 : G 0 = []) : ∀ j, j ≤ n → ∀ t T, (t, T) ∈ G j → (G j).get t = some T
  | 0, _, t, T, h => by rw [h0] at h; cases h
  | j + 1, hj, t, T, h => by
    have hle := hS.le
    have ih := states_get hst hS h0 j (by omega) t T
    have ho : ops[j]? = some ops[j] := Array.getElem?_eq_getElem (by omega)
    rcases hst j _ ho (by omega) with ⟨_, hg, _⟩ | ⟨d, T', hd, _, hm, _, _, hg⟩ | ⟨X, _, _, hg⟩
    · rw [hg] at h ⊢; exact ih h
    rotate_left
    · rw [hg] at h ⊢; exact ih h
    · rw [hg] at h ⊢
      have hdj : dstOf ops j = some d := by unfold dstOf; rw [ho]; exact hd
      rcases List.mem_cons.1 h with e | h
      · simp only [Prod.mk.injEq] at e
        obtain ⟨rfl, rfl⟩ := e
        simp [Env.get]
      · obtain ⟨_, i, hi, hit⟩ := (states_mono hst hle h0 j (by omega)).1 t T h
        have hne : d ≠ t := by
          intro e; subst e
          exact hS.dist i j d (by omega) (by omega) hit (by omega) hdj
        have := ih h
        unfold Env.get at this ⊢
        rw [List.find?_cons_of_neg (by simpa using hne)]
        exact this
theorem put_same_size {a b : Act} (h : a.tmps.size = b.tmps.size) (t : Tmp) (v : Value) : (b.put (some t) v).tmps[t]? = (a.put (some t) v).tmps[t]? := by
  simp only [Act.put, Array.getElem?_setIfInBounds_self, h]
theorem Inv.step (hS : Shape ops n) (hst : ∀ j o, ops[j]? = some o → j < n → StepX P ops w0 o (A j) (G j) (A (j + 1)) (G (j + 1))) (h0 : G 0 = []) {listed : Array Bool} {b : Act} {w w' : World} (inv : Inv ops w0 n A G listed b w) {j : Nat} {o : Oper} (hj : j < n) (ho : ops[j]? = some o)
    (hun : listed.getD j false = false) (hedge : ∀ i ∈ edges ops j, listed.getD i false = true) (hb : Below w.heap.size w w') (v : Value) (hv : ∀ t, o.dst = some t → okAt (G (j + 1)) (A (j + 1)) w' t (b.put o.dst v)) :
    Inv ops w0 n A G (listed.setIfInBounds j true) (b.put o.dst v) w' := by
  have hle := hS.le
  have hdj : dstOf ops j = o.dst := by unfold dstOf; rw [ho]; rfl
  refine ⟨by simp [inv.size], closed_set inv.closed hedge, inv.bel.trans (hb.mono inv.bel.size), by rw [put_defers']; exact inv.defers, by rw [put_size]; exact inv.bs, fun i hi hl t ht => ?_, fun t ht => ?_, fun i hi => ?_⟩
  · by_cases hij : i = j
    · subst hij
      exact hv t (by rw [← hdj]; exact ht)
    · rw [getD_set_ne false (Ne.symm hij)] at hl
      have hne : o.dst ≠ some t := by
        rw [← hdj]
        exact hS.dist i j t hi hj ht hij
      have h1 := inv.typed i hi hl t ht
      have hm : ∀ t T, (G (i + 1)).get t = some T → Mono T := fun t T hg => ((states_mono hst hle h0 (i + 1) (by omega)).1 t T (get_mem hg)).1
      have h2 := okAt_mono hm h1 hb
      unfold okAt at h2 ⊢
      rw [put_other _ _ _ _ hne]
      exact h2
  · have hne : o.dst ≠ some t := by
      rw [← hdj]
      exact ht j hj (getD_set_self (by rw [inv.size]; omega))
    rw [put_other _ _ _ _ hne]
    exact inv.rest t fun i hi hl => ht i hi (getD_set_true hl)
  · rw [getD_set_ne false (by omega)]
    exact inv.tail i hi
theorem wpAny_all_listed (hS : Shape ops n) (hst : ∀ j o, ops[j]? = some o → j < n → StepX P ops w0 o (A j) (G j) (A (j + 1)) (G (j + 1))) (h0 : G 0 = []) {Q : Exit → Act → World → Prop} (hfin : finX P ops w0 Q n (A n) (G n)) {fuel : Nat} {listed : Array Bool} {b : Act} {w : World}
    (inv : Inv ops w0 n A G listed b w) (hf : unl n listed + (ops.size - n) = fuel) (hz : unl n listed = 0) : wpAny P .any ops Q fuel listed b w := by
  have hle := hS.le
  have hlo := unl_zero n hz
  have hsz := states_size hst hle n (Nat.le_refl _)
  obtain ⟨a', hK, hs', hd', hsl⟩ := forallRel_at (b := b) (G n).reverse (A n) _ (by rw [hsz.1, inv.bs]) (fun p hp => by
    have hp' : (p.1, p.2) ∈ G n := by simpa using hp
    obtain ⟨_, i, hi, hit⟩ := (states_mono hst hle h0 n (Nat.le_refl _)).1 p.1 p.2 hp'
    have h1 := inv.typed i hi (hlo i hi) p.1 hit
    have h2 := states_after hst hS p.1 i hi hit (n - (i + 1)) (by omega)
    rw [show i + 1 + (n - (i + 1)) = n from by omega] at h2
    unfold okAt at h1
    rw [← h2.2, states_get hst hS h0 n (Nat.le_refl _) p.1 p.2 hp'] at h1
    exact h1) (hfin w inv.bel)
  have hab : a' = b := by
    refine act_ext (by rw [hd', hsz.2, inv.defers]) fun t => ?_
    rcases hsl t with ⟨h1, h2⟩ | ⟨_, h1⟩
    · have hgn : (G n).get t = none := by
        cases hgt : (G n).get t with
        | none => rfl
        | some T' => exact (h2 (t, T') (by simpa using get_mem hgt) rfl).elim
      rw [h1]
      by_cases hex : ∃ i, i < n ∧ dstOf ops i = some t
      · obtain ⟨i, hi, hit⟩ := hex
        have h3 := inv.typed i hi (hlo i hi) t hit
        have h4 := states_after hst hS t i hi hit (n - (i + 1)) (by omega)
        rw [show i + 1 + (n - (i + 1)) = n from by omega] at h4
        unfold okAt at h3
        rw [← h4.2, hgn] at h3
        rw [h4.1]; exact h3.symm
      · have hno : ∀ i, i < n → dstOf ops i ≠ some t := fun i hi h => hex ⟨i, hi, h⟩
        rw [(states_before hst hle t n (Nat.le_refl _) hno).1, inv.rest t fun i hi _ => hno i hi]
    · exact h1
  rw [hab] at hK
  have hl : (ops.toList.drop n).length = fuel := by simp; omega
  have := wpAny_tail hS (Q := Q) (ops.toList.drop n) n listed b w (Nat.le_refl _) (by simp; omega) (fun j => by simp [List.getElem?_drop]) inv.size inv.closed hlo inv.tail hK
  rw [hl] at this
  exact this
theorem wpAny_head (hS : Shape ops n) (hst : ∀ j o, ops[j]? = some o → j < n → StepX P ops w0 o (A j) (G j) (A (j + 1)) (G (j + 1))) (h0 : G 0 = []) {Q : Exit → Act → World → Prop} (hfin : finX P ops w0 Q n (A n) (G n)) :
    ∀ (fuel : Nat) (listed : Array Bool) (b : Act) (w : World), Inv ops w0 n A G listed b w → unl n listed + (ops.size - n) = fuel → wpAny P .any ops Q fuel listed b w := by
  have hle := hS.le
  intro fuel
  induction fuel with
  | zero =>
    intro listed b w inv hf
    exact wpAny_all_listed hS hst h0 hfin inv hf (by omega)
  | succ fuel ih =>
    intro listed b w inv hf
    by_cases hz : unl n listed = 0
    · exact wpAny_all_listed hS hst h0 hfin inv hf hz
    · obtain ⟨i0, hi0, hi0u, hi0l⟩ := unl_some n hz
      have hready : i0 ∈ Region.ready .any ops listed := by
        rw [mem_ready]
        have ho : ops[i0]? = some ops[i0] := Array.getElem?_eq_getElem (by omega)
        refine ⟨getD_true_of_false (by rw [inv.size]; omega) hi0u, _, ho, fun e he hb => hi0l _ (hS.low i0 e.on (by omega) ?_)⟩
        unfold edges
        simp only [ho, List.mem_map, List.mem_filter]
        exact ⟨e, ⟨by simpa using he, hb⟩, rfl⟩
      refine ⟨fun hn => (by rw [hn] at hready; cases hready), fun j hj => ?_⟩
      obtain ⟨hj0, ⟨o, ho⟩, hedge⟩ := ready_edges hj
      have hjs : j < ops.size := (Array.getElem?_eq_some_iff.1 ho).1
      have hun := (getD_false_of_true hj0).1
      have hjn : j < n := by
        rcases Nat.lt_or_ge j n with h | h
        · exact h
        · have := reach_listed inv.closed 5000 (edges ops j) [] hedge (fun x hx => by cases hx) i0 (hS.tail j i0 hjs h (by omega))
          rw [hi0u] at this; cases this
      have hdj : dstOf ops j = o.dst := by unfold dstOf; rw [ho]; rfl
      have hlj : looksOf ops j = o.looksAt ops := by unfold looksOf; rw [ho]
      -- what the operation looks at
      have hlook : ∀ t ∈ o.looksAt ops, okAt (G j) (A j) w t b := by
        intro t ht
        by_cases hex : ∃ i, i < j ∧ dstOf ops i = some t
        · obtain ⟨i, hij, hit⟩ := hex
          have hr := (hS.pre i j t (by omega) hjn hit (by rw [hlj]; exact ht)).1 hij
          have hli := reach_listed inv.closed 5000 (edges ops j) [] hedge (fun x hx => by cases hx) i hr
          have h1 := inv.typed i (by omega) hli t hit
          have h2 := states_after hst hS t i (by omega) hit (j - (i + 1)) (by omega)
          rw [show i + 1 + (j - (i + 1)) = j from by omega] at h2
          unfold okAt at h1 ⊢
          rw [h2.1, h2.2]; exact h1
        · have hno : ∀ i, i < j → dstOf ops i ≠ some t := fun i hi h => hex ⟨i, hi, h⟩
          have h1 := states_before hst hle t j (by omega) hno
          have h2 := inv.rest t (fun i hi hl h => by
            have hij : ¬ i < j := fun hh => hno i hh h
            obtain ⟨hne, hr⟩ := (hS.pre i j t hi hjn h (by rw [hlj]; exact ht)).2 hij
            have := reach_listed inv.closed 5000 (edges ops i) [] (fun x hx => inv.closed i hl x hx) (fun x hx => by cases hx) j hr
            rw [hun] at this; cases this)
          unfold okAt
          rw [h1.2, h0]
          simp only [Env.get, List.find?_nil, Option.map_none]
          rw [h2, h1.1]
      have hnext : ∀ (v : Value) (w' : World), Below w.heap.size w w' → (∀ t, o.dst = some t → okAt (G (j + 1)) (A (j + 1)) w' t (b.put o.dst v)) → wpAny P .any ops Q fuel (listed.setIfInBounds j true) (b.put o.dst v) w' :=
        fun v w' hb hv => ih _ _ _ (inv.step hS hst h0 hjn ho hun hedge hb v hv) (by
          have := unl_set (by rw [inv.size]; exact hjs) hun n hjn
          omega)
      have hszj := states_size hst hle j (by omega)
      have hbs : (A j).tmps.size = b.tmps.size := by rw [hszj.1, inv.bs]
      unfold wpOp
      simp only [ho]
      have hconst : ∀ v, (A (j + 1)) = (A j).put o.dst v → G (j + 1) = G j → ∀ w' t, o.dst = some t → okAt (G (j + 1)) (A (j + 1)) w' t (b.put o.dst v) := by
        intro v ha hg w' t ht
        have hno : ∀ i, i < j → dstOf ops i ≠ some t := fun i hi h => hS.dist i j t (by omega) hjn h (by omega) (by rw [hdj]; exact ht)
        have h1 := states_before hst hle t j (by omega) hno
        unfold okAt
        rw [hg, h1.2, h0]
        simp only [Env.get, List.find?_nil, Option.map_none]
        rw [ha, ht]
        exact put_same_size hbs t v
      rcases hst j o ho hjn with ⟨hrel, hg, hcase⟩ | ⟨d, T, hd, hdlt, hm, hobl, ha, hg⟩ | ⟨X, hobl, ha, hg⟩
      · have hsame : ∀ t ∈ o.looksAt ops, b.tmps[t]? = (A j).tmps[t]? := by
          intro t ht
          have h1 := hlook t ht
          unfold okAt at h1
          rw [relOf_nil hrel ht] at h1
          exact h1
        rw [wanted_same hsame]
        rcases hcase with ⟨hw, v, hv, ha⟩ | ⟨hw, ha⟩
        · rw [if_pos hw]
          left
          have hx := hv (⟨w, inv.bel⟩ : Ext w0)
          have hex := exec_same (ops := ops) (Region.noSelect_spec hS.nosel j o · · ho) hsame
          have hnx := fun w' hb => hnext v w' hb (hconst v ha hg w')
          unfold constAt at hx
          rw [← hex] at hx
          unfold Oper.wp
          change constUpon P w v ((execOp b.eval o).run P w) at hx
          generalize (execOp b.eval o).run P w = r at hx
          cases r with
          | ok nx w' =>
            cases nx <;> simp only [constUpon] at hx <;> simp only [Oper.upon]
            case value u =>
              obtain ⟨e1, e2⟩ := hx
              rw [e1, e2]; exact hnx w (Below.refl _ _)
            case skip =>
              obtain ⟨e1, e2⟩ := hx
              rw [e1, ← e2]; exact hnx w (Below.refl _ _)
            case enter f args =>
              obtain ⟨e1, hc⟩ := hx
              rw [e1]
              exact hc.mono fun e w'' ⟨he, hb⟩ => by subst he; exact hnx w'' hb
          | halt x w' => simp only [constUpon] at hx
        · rw [if_neg (by rw [hw]; simp)]
          exact hnext undef w (Below.refl _ _) (hconst undef ha hg w)
      · obtain ⟨a', ⟨hwa, hgood⟩, _, _, hsl⟩ := forallRel_at (b := b) (relOf (G j) (o.looksAt ops)) (A j) _ hbs (fun p hp => by
          obtain ⟨hp1, hp2⟩ := List.mem_filter.1 hp
          have h1 := hlook p.1 (by simpa using hp2)
          unfold okAt at h1
          rw [states_get hst hS h0 j (by omega) p.1 p.2 hp1] at h1
          exact h1) (hobl w inv.bel)
        have hsame : ∀ t ∈ o.looksAt ops, b.tmps[t]? = a'.tmps[t]? := by
          intro t ht
          rcases hsl t with ⟨h1, h2⟩ | ⟨_, h1⟩
          · have hgn : (G j).get t = none := by
              cases hgt : (G j).get t with
              | none => rfl
              | some T' => exact (h2 (t, T') (List.mem_filter.2 ⟨get_mem hgt, by simpa using ht⟩) rfl).elim
            have h3 := hlook t ht
            unfold okAt at h3
            rw [hgn] at h3
            rw [h1]; exact h3
          · exact h1.symm
        have hw : Region.wanted o (yielded ops b.tmps) = true := by rw [wanted_same hsame]; exact hwa
        rw [if_pos hw]
        left
        have hex := exec_same (ops := ops) (Region.noSelect_spec hS.nosel j o · · ho) hsame
        have hnx : ∀ u w', Below w.heap.size w w' → T u w' → wpAny P .any ops Q fuel (listed.setIfInBounds j true) (b.put o.dst u) w' := fun u w' hb hT =>
          hnext u w' hb (fun t ht => by
            have htd : d = t := by rw [hd] at ht; exact Option.some.inj ht
            subst htd
            unfold okAt
            rw [hg]
            have : Env.get ((d, T) :: G j) d = some T := by simp [Env.get]
            rw [this, hd]
            exact ⟨u, put_same _ _ _ (by rw [← hbs]; exact hdlt), hT⟩)
        unfold Oper.wp
        rw [hex]
        generalize (execOp a'.eval o).run P w = r at hgood
        cases r with
        | ok nx w' =>
          cases nx <;> simp only [goodUpon] at hgood <;> simp only [Oper.upon]
          case value u => exact hnx u w' hgood.1 hgood.2
          case skip => exact hnx undef w' hgood.1 hgood.2
          case enter f args =>
            obtain ⟨e1, hc⟩ := hgood
            rw [e1]
            exact hc.mono fun e w'' ⟨v, he, hT, hb⟩ => by subst he; exact hnx v w'' hb hT
        | halt x w' => simp only [goodUpon] at hgood
      · obtain ⟨a', ⟨hwa, hgood⟩, _, _, hsl⟩ := forallRel_at (b := b) (relOf (G j) (o.looksAt ops)) (A j) _ hbs (fun p hp => by
          obtain ⟨hp1, hp2⟩ := List.mem_filter.1 hp
          have h1 := hlook p.1 (by simpa using hp2)
          unfold okAt at h1
          rw [states_get hst hS h0 j (by omega) p.1 p.2 hp1] at h1
          exact h1) (hobl w inv.bel)
        have hsame : ∀ t ∈ o.looksAt ops, b.tmps[t]? = a'.tmps[t]? := by
          intro t ht
          rcases hsl t with ⟨h1, h2⟩ | ⟨_, h1⟩
          · have hgn : (G j).get t = none := by
              cases hgt : (G j).get t with
              | none => rfl
              | some T' => exact (h2 (t, T') (List.mem_filter.2 ⟨get_mem hgt, by simpa using ht⟩) rfl).elim
            have h3 := hlook t ht
            unfold okAt at h3
            rw [hgn] at h3
            rw [h1]; exact h3
          · exact h1.symm
        have hw : Region.wanted o (yielded ops b.tmps) = true := by rw [wanted_same hsame]; exact hwa
        rw [if_pos hw]
        left
        have hex := exec_same (ops := ops) (Region.noSelect_spec hS.nosel j o · · ho) hsame
        have hnx : ∀ u w', Below w.heap.size w w' → u = X → wpAny P .any ops Q fuel (listed.setIfInBounds j true) (b.put o.dst u) w' := fun u w' hb hT =>
          hnext u w' hb (by rw [hT]; exact hconst X ha hg w')
        unfold Oper.wp
        rw [hex]
        generalize (execOp a'.eval o).run P w = r at hgood
        cases r with
        | ok nx w' =>
          cases nx <;> simp only [goodUpon] at hgood <;> simp only [Oper.upon]
          case value u => exact hnx u w' hgood.1 hgood.2
          case skip => exact hnx undef w' hgood.1 hgood.2
          case enter f args =>
            obtain ⟨e1, hc⟩ := hgood
            rw [e1]
            exact hc.mono fun e w'' ⟨v, he, hT, hb⟩ => by subst he; exact hnx v w'' hb hT
        | halt x w' => simp only [goodUpon] at hgood
/-- **One walk of the lexical order serves every order**: the first 'n' operations each leave a value that is one and the same in every later world, or one that is known by a property; the others follow one behind the other. -/
theorem wp_region_typed (w0 : World) (n : Nat) {id : Nat} {Q : Exit → Act → World → Prop} {a : Act} {w : World} {l : List Oper} (hm : P.follows .mixedOrders = true) (hB : typedB l.toArray n = true) (hw : Below w0.heap.size w0 w)
    (h : wpX P l.toArray w0 (finX P l.toArray w0 Q n) (l.take n) a []) : (Code.region id l.toArray true).wp P Q a w := by
  refine wp_region_any hm ?_
  have hS := shape_of hB
  obtain ⟨A, G, hA, hG, hf, hst⟩ := seqX (l.take n) a [] h
  have hlen : (l.take n).length = n := by have := hS.le; simp at this; simp; omega
  rw [hlen] at hf
  have hst' : ∀ j o, l.toArray[j]? = some o → j < n → StepX P l.toArray w0 o (A j) (G j) (A (j + 1)) (G (j + 1)) := fun j o hj hjn => hst j o (by simpa [List.getElem?_take, hjn] using hj)
  refine wpAny_head hS hst' hG hf _ _ _ _ ⟨by simp, fun j hj => ?_, ⟨hw.os, hw.tape, hw.output, hw.size, hw.block⟩, by rw [hA], by rw [hA], fun i _ hl => ?_, fun t _ => by rw [hA], fun i _ => getD_replicate_false _ _⟩ ?_
  · rw [getD_replicate_false] at hj; cases hj
  · rw [getD_replicate_false] at hl; cases hl
  · have : ∀ k, unl k (Array.replicate l.toArray.size false) = k := by
      intro k
      induction k with
      | zero => rfl
      | succ k ih => unfold unl; rw [ih, getD_replicate_false]; simp
    rw [this]
    have := hS.le
    omega
end
end
end Go.Proofs.Ytohenjgegkgncaa
