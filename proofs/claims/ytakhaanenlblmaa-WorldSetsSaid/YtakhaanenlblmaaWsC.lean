/- world.Set: what it answers; the state of its loop. | world.Set: where it refuses. -/
import Derived.Test.YtakhaanenlblmaaWs11
import Derived.Test.YtakhaanenlblmaaBuild0
import Derived.Test.YtakhaanenlblmaaPackA
import Derived.Test.YtakhaanenlblmaaSplC
/- (Ws12) world.Set: what it answers; the state of its loop. -/
set_option linter.unusedSimpArgs false
set_option linter.unusedVariables false
namespace Go.Proofs.Ytakhaanenlblmaa
open Go.RowKit
theorem map_u8_injA (L M : List UInt8) : ((L.map fun x => (x.toNat : Int)) == (M.map fun x => (x.toNat : Int))) = (L == M) := by
  rw [Bool.eq_iff_iff]
  simp only [beq_iff_eq]
  constructor
  · intro e
    have inj : ∀ a b : UInt8, (a.toNat : Int) = (b.toNat : Int) → a = b := fun a b h => UInt8.toNat_inj.1 (by omega)
    apply List.ext_getElem?
    intro i
    have h1 := congrArg (fun l : List Int => l[i]?) e
    simp only [List.getElem?_map] at h1
    cases h3 : L[i]? with
    | none => rw [h3] at h1; cases h4 : M[i]? with
      | none => rfl
      | some y => rw [h4] at h1; simp at h1
    | some x => rw [h3] at h1; cases h4 : M[i]? with
      | none => rw [h4] at h1; simp at h1
      | some y => rw [h4] at h1; simp only [Option.map_some, Option.some.injEq] at h1; rw [inj x y h1]
  · intro e; rw [e]
theorem map_u8vA (K : List UInt8) : (K.map fun x => (x.toNat : Int)).map (Value.int .u8) = K.map u8v := by rw [List.map_map]; rfl
theorem run_ne_a (L M : List UInt8) (hl : L.length = 8) (hm : M.length = 8) (w1 : World) : (binOp .neq 46 (.agg (by8 L).toArray) (.agg (by8 M).toArray)).run Try.prog w1 = .ok (.bool (!(L == M))) w1 := by
  have := run_neA (P := Try.prog) w1 Try.underlying46 Try.underlying5 (by kernel_rfl) (L.map fun x => (x.toNat : Int)) (M.map fun x => (x.toNat : Int)) (by rw [List.length_map, hl]) (by rw [List.length_map, hm])
  rw [map_u8vA, map_u8vA, map_u8_injA] at this
  exact this
theorem run_eq_a (L M : List UInt8) (hl : L.length = 8) (hm : M.length = 8) (w1 : World) : (binOp .eql 46 (.agg (by8 L).toArray) (.agg (by8 M).toArray)).run Try.prog w1 = .ok (.bool (L == M)) w1 := by
  have := run_eqA (P := Try.prog) w1 Try.underlying46 Try.underlying5 (by kernel_rfl) (L.map fun x => (x.toNat : Int)) (M.map fun x => (x.toNat : Int)) (by rw [List.length_map, hl]) (by rw [List.length_map, hm])
  rw [map_u8vA, map_u8vA, map_u8_injA] at this
  exact this
theorem guard_ne_a (L M : List UInt8) (o1 o2 : Operand) (w1 : World) : (eqGuard .neq 46 o1 o2 (.agg (by8 L).toArray) (.agg (by8 M).toArray)).run Try.prog w1 = .ok () w1 :=
  run_eqGuard_agg (P := Try.prog) (w := w1) .neq 46 o1 o2 _ _ (by kernel_rfl)
theorem guard_eq_a (L M : List UInt8) (o1 o2 : Operand) (w1 : World) : (eqGuard .eql 46 o1 o2 (.agg (by8 L).toArray) (.agg (by8 M).toArray)).run Try.prog w1 = .ok () w1 :=
  run_eqGuard_agg (P := Try.prog) (w := w1) .eql 46 o1 o2 _ _ (by kernel_rfl)
/-- what a holder is, wherever it lies -/
def Hol.key (h : Hol) : List UInt8 × (Nat × Nat × List UInt8 × List (Nat × Nat)) := (h.f, h.a.val)
/-- the holders but one -/
def butL (A : List UInt8) (l : List Hol) : List Hol := l.filter (fun h => !(h.f == A))
def setK (l : List Hol) (A : List UInt8) (q : Acc) : List (List UInt8 × (Nat × Nat × List UInt8 × List (Nat × Nat))) :=
  if noneB q then (butL A l).map Hol.key else (l.filter (fun h => decide (h.adr < numL A))).map Hol.key ++ (A, q.val) :: (l.filter (fun h => decide (numL A < h.adr))).map Hol.key
def SetR (l : List Hol) (A : List UInt8) (q : Acc) (K : List (List UInt8 × (Nat × Nat × List UInt8 × List (Nat × Nat)))) (E : Nat) : Prop :=
  ((rightB l = false ∨ slotsB q.s = false) ∧ E = 1 ∧ K = []) ∨ (rightB l = true ∧ slotsB q.s = true ∧ 1024 < q.c.length ∧ E = 2 ∧ K = []) ∨ (rightB l = true ∧ slotsB q.s = true ∧ ¬ 1024 < q.c.length ∧ E = 0 ∧ K = setK l A q)
theorem SetR.one {l : List Hol} {A : List UInt8} {q : Acc} {K K' : List (List UInt8 × (Nat × Nat × List UInt8 × List (Nat × Nat)))} {E E' : Nat} (h : SetR l A q K E) (h' : SetR l A q K' E') : E = E' ∧ K = K' := by
  rcases h with ⟨h1, rfl, rfl⟩ | ⟨h1, h2, h3, rfl, rfl⟩ | ⟨h1, h2, h3, rfl, rfl⟩ <;> rcases h' with ⟨g1, rfl, rfl⟩ | ⟨g1, g2, g3, rfl, rfl⟩ | ⟨g1, g2, g3, rfl, rfl⟩ <;> first | exact ⟨rfl, rfl⟩ | (exfalso; simp_all; done) | (exfalso; omega)
theorem butL_take (A : List UInt8) (l : List Hol) (k : Nat) (hk : k < l.length) : butL A (l.take (k + 1)) = if l[k].f = A then butL A (l.take k) else butL A (l.take k) ++ [l[k]] := by
  unfold butL
  rw [List.take_succ_eq_append_getElem hk, List.filter_append]
  by_cases h : l[k].f = A
  · rw [if_pos h]; simp [h]
  · rw [if_neg h]; simp [h]
theorem butL_len (A : List UInt8) (l : List Hol) : (butL A l).length ≤ l.length := List.length_filter_le _ _
theorem OwnOf.isBlk {α : Type} {f : α → List Value} {size : Nat} {e : TypeId} {w : World} {B k : Nat} {v : Value} {l : List α} (h : OwnOf f size e w B v l) (hk : v.ownBlock = some k) : ∃ cs, Blk e w k cs := by
  rcases h.2 with ⟨rfl, _⟩ | ⟨g, cap, cur, rfl, _, hg, _⟩
  · cases hk
  · simp only [Value.ownBlock, Option.some.injEq] at hk
    subst hk
    exact ⟨cur.toList, by unfold Blk; simpa using hg⟩
theorem OwnAcc.grown {u u' : World} {B : Nat} {a : Acc} {r : Option Nat} (h : OwnAcc u B a) (hg : u.grownBy u' r) (hr : ∀ k, r = some k → ∃ cs, Blk 130 u k cs) : OwnAcc u' B a :=
  ⟨h.c.grown hg (fun k hk => by obtain ⟨cs, hc⟩ := hr k hk; exact h.c.notT hc (by decide)), h.s.grown hg (fun k hk => by obtain ⟨cs, hc⟩ := hr k hk; exact h.s.notT hc (by decide))⟩
theorem OwnAcc.lower {u : World} {B B' : Nat} {a : Acc} (h : OwnAcc u B a) (hB : B' ≤ B) : OwnAcc u B' a := ⟨h.c.lower hB, h.s.lower hB⟩
/-- world.Set's loop: k holders are through -/
structure StW (w : World) (Y X : List Value) (l : List Hol) (A : List UInt8) (k : Nat) (v : Value) (O : List Hol) (u : World) : Prop where
  b : Below w.heap.size w u
  z4 : Blk 46 u w.heap.size Y
  z5 : Blk 49 u (w.heap.size + 1) X
  o : OwnOf hols 15 130 u w.heap.size v O
  q : ∀ h ∈ O, OwnAcc u w.heap.size h.a
  k : O.map Hol.key = (butL A (l.take k)).map Hol.key
theorem StW.kept {w u u' : World} {Y X : List Value} {l : List Hol} {A : List UInt8} {k : Nat} {v : Value} {O : List Hol} (h : StW w Y X l A k v O u) (hb : Below u.heap.size u u') : StW w Y X l A k v O u' :=
  ⟨Below.then h.b hb, h.z4.kept hb, h.z5.kept hb, h.o.kept hb, fun p hp => (h.q p hp).kept hb, h.k⟩
theorem StW.skip {w u : World} {Y X : List Value} {l : List Hol} {A : List UInt8} {k : Nat} {v : Value} {O : List Hol} (h : StW w Y X l A k v O u) (hk : k < l.length) (he : l[k].f = A) : StW w Y X l A (k + 1) v O u :=
  ⟨h.b, h.z4, h.z5, h.o, h.q, by rw [butL_take A l k hk, if_pos he]; exact h.k⟩
theorem StW.grew {w u u' : World} {Y X : List Value} {l : List Hol} {A : List UInt8} {k : Nat} {v v' : Value} {O : List Hol} (h : StW w Y X l A k v O u) (hk : k < l.length) (he : l[k].f ≠ A) {p : Hol} (hp : p.key = l[k].key) (ha : OwnAcc u w.heap.size p.a)
    (ho : OwnOf hols 15 130 u' w.heap.size v' (O ++ [p])) (hg : u.grownBy u' v.ownBlock) : StW w Y X l A (k + 1) v' (O ++ [p]) u' :=
  ⟨h.b.grown hg h.b.size (fun k hk => h.o.lt k hk), h.z4.grown hg (h.o.notT h.z4 (by decide)), h.z5.grown hg (h.o.notT h.z5 (by decide)), ho, fun y hy => by
    have hy2 : OwnAcc u w.heap.size y.a := by
      rcases List.mem_append.1 hy with hy | hy
      · exact h.q y hy
      · rw [List.mem_singleton] at hy; subst hy; exact ha
    exact hy2.grown hg (fun k hk => h.o.isBlk hk), by rw [butL_take A l k hk, if_neg he, List.map_append, List.map_append, h.k, List.map_singleton, List.map_singleton, hp]⟩
theorem StW.len {w u : World} {Y X : List Value} {l : List Hol} {A : List UInt8} {k : Nat} {v : Value} {O : List Hol} (h : StW w Y X l A k v O u) : O.length ≤ k := by
  have h1 := congrArg List.length h.k
  rw [List.length_map, List.length_map] at h1
  have h2 := butL_len A (l.take k)
  rw [List.length_take] at h2
  omega
theorem StW.one {w u : World} {Y X : List Value} {l : List Hol} {A : List UInt8} {k : Nat} {v : Value} {O : List Hol} (h : StW w Y X l A k v O u) : ∀ y ∈ O.flatMap hols, y.oneCell' = true := fun y hy => by
  obtain ⟨p, hp, hy⟩ := List.mem_flatMap.1 hy
  exact hols_one (h.q p hp).In y hy
/-- an own account; an own holder; a row of one -/
def AccO (B : Nat) (V : Nat × Nat × List UInt8 × List (Nat × Nat)) : Ty := fun v u => ∃ a : Acc, v = .agg (accs a).toArray ∧ a.val = V ∧ OwnAcc u B a
theorem AccO.mono (B : Nat) (V : Nat × Nat × List UInt8 × List (Nat × Nat)) : Mono (AccO B V) := fun _ _ _ ⟨a, h1, h2, h3⟩ hb => ⟨a, h1, h2, h3.kept hb⟩
def HolO (B : Nat) (f : List UInt8) (V : Nat × Nat × List UInt8 × List (Nat × Nat)) : Ty := fun v u => ∃ p : Hol, v = .agg (hols p).toArray ∧ p.key = (f, V) ∧ OwnAcc u B p.a
theorem HolO.mono (B : Nat) (f : List UInt8) (V : Nat × Nat × List UInt8 × List (Nat × Nat)) : Mono (HolO B f V) := fun _ _ _ ⟨a, h1, h2, h3⟩ hb => ⟨a, h1, h2, h3.kept hb⟩
def OneH (B g0 : Nat) (f : List UInt8) (V : Nat × Nat × List UInt8 × List (Nat × Nat)) : Ty := fun v u => ∃ (p : Hol) (g : Nat), v = .slice (some ⟨g, 0, none⟩) 1 1 ∧ g0 ≤ g ∧ Blk 130 u g (hols p) ∧ p.key = (f, V) ∧ OwnAcc u B p.a
theorem OneH.mono (B g0 : Nat) (f : List UInt8) (V : Nat × Nat × List UInt8 × List (Nat × Nat)) : Mono (OneH B g0 f V) := fun _ _ _ ⟨a, g, h1, h0, h4, h2, h3⟩ hb => ⟨a, g, h1, h0, h4.kept hb, h2, h3.kept hb⟩
/-- a holder is built out of its parts -/
theorem built_hol (p : Hol) : Try.prog.built 130 [(0, .agg (by8 p.f).toArray), (1, .agg (accs p.a).toArray)] = some (hols p).toArray := by
  have e : ∀ parts, Try.prog.built 130 parts = Instr.fill (#[((0 : Nat), (8 : Nat)), (8, 7)][·]?) z15.toArray parts := fun _ => by kernel_rfl
  rw [e, show z15.toArray = (([] : List Value) ++ ((by8 [0, 0, 0, 0, 0, 0, 0, 0]) ++ z7)).toArray from rfl,
    fill_lay _ 0 0 _ (by8 p.f) rfl (by rw [by8_len, p.l]; rfl) [] (by8 [0, 0, 0, 0, 0, 0, 0, 0]) z7 rfl (by rw [by8_len, by8_len, p.l]; rfl),
    show ((([] : List Value) ++ (by8 p.f ++ z7)).toArray) = (by8 p.f ++ (z7 ++ [])).toArray from by simp,
    fill_lay _ 1 8 _ (accs p.a) rfl (by rw [accs_len]; rfl) (by8 p.f) z7 [] (by rw [by8_len, p.l]) (by rw [accs_len]; rfl)]
  simp [Instr.fill, hols]
theorem good_one {T : Ty} {o : Oper} {a : Act} {w : World} (x : Operand) (ho : o.op = .buildSlice 44 1 #[(0, x)]) (p : Hol) (hx : a.eval x = .agg (hols p).toArray) (hT : T (.slice (some ⟨w.heap.size, 0, none⟩) 1 1) (w.alloc (.cells (hols p).toArray 130))) :
    goodUpon Try.prog T w ((execOp a.eval o).run Try.prog w) := by
  obtain ⟨i, hi, hz, hsi, _⟩ := elHol.info
  have hl := hols_len p
  have hf := Great.fill_whole (s := 15) (by omega) [Value.agg (hols p).toArray] ((Array.range (1 * 15)).map ((Value.agg z15.toArray).cells[· % (Value.agg z15.toArray).cells.size]!)) (fun u hu => by rw [List.mem_singleton] at hu; rw [hu]; simpa [Value.cells] using hl) (by simp)
  have e1 : ([Value.agg (hols p).toArray].flatMap fun v => v.cells.toList).toArray = (hols p).toArray := by simp [Value.cells]
  rw [e1] at hf
  unfold execOp
  have hr := run_buildSlice (P := Try.prog) w 44 130 1 (#[(0, x)].map fun (i, x) => (i, a.eval x)) (hols p).toArray i _ elHol.ht hi hz (by rw [hsi]; omega) (by rw [hsi]; omega) (by rw [hsi, ← hf]; simp [hx])
  simp only [ho, Sem.run_bind, hr, Result.andThen_ok, Sem.run_pure]
  exact ⟨(Below.refl _ _).alloc (Nat.le_refl _) _, hT⟩
theorem hol_row {u : World} {g : Nat} {p : Hol} (h : Blk 130 u g (hols p)) : RowOf hols 15 u (.slice (some ⟨g, 0, none⟩) 1 1) [p] :=
  Blk.row (f := hols) (size := 15) h [p] 1 1 hols_len rfl (fun j x hx => by simpa using hx) (Nat.le_refl _) (by unfold maxLen; omega)
theorem filter_split (l : List Hol) (t : Nat) : Rising l → ∀ i, (∀ k (hk : k < l.length), k < i → l[k].adr < t) → (∀ k (hk : k < l.length), i ≤ k → t ≤ l[k].adr) → l.take i = l.filter (fun h => decide (h.adr < t)) ∧ l.drop i = l.filter (fun h => decide (t ≤ h.adr)) := by
  intro _ i h1 h2
  have e : l = l.take i ++ l.drop i := (List.take_append_drop i l).symm
  have ht : ∀ h ∈ l.take i, h.adr < t := fun h hh => by
    obtain ⟨k, hk, rfl⟩ := List.mem_iff_getElem.1 hh
    rw [List.length_take] at hk
    rw [List.getElem_take]
    exact h1 k (by omega) (by omega)
  have hd : ∀ h ∈ l.drop i, t ≤ h.adr := fun h hh => by
    obtain ⟨k, hk, rfl⟩ := List.mem_iff_getElem.1 hh
    rw [List.length_drop] at hk
    rw [List.getElem_drop]
    exact h2 (i + k) (by omega) (by omega)
  constructor
  · conv => rhs; rw [e]
    rw [List.filter_append, List.filter_eq_self.2 (fun h hh => decide_eq_true (ht h hh)), List.filter_eq_nil_iff.2 (fun h hh => by have := hd h hh; simp; omega), List.append_nil]
  · conv => rhs; rw [e]
    rw [List.filter_append, List.filter_eq_self.2 (fun h hh => decide_eq_true (hd h hh)), List.filter_eq_nil_iff.2 (fun h hh => by have := ht h hh; simp; omega), List.nil_append]
theorem filter_key (l m : List Hol) (h : l.map Hol.key = m.map Hol.key) (f : Nat → Bool) : (l.filter (fun h => f h.adr)).map Hol.key = (m.filter (fun h => f h.adr)).map Hol.key := by
  have e : ∀ l : List Hol, (l.filter (fun h => f h.adr)).map Hol.key = (l.map Hol.key).filter (fun k => f (numL k.1)) := fun l => by rw [List.filter_map]; rfl
  rw [e, e, h]
theorem rising_pw (l : List Hol) : Rising l ↔ (l.map Hol.key).Pairwise (fun x y => numL x.1 < numL y.1) := by
  rw [List.pairwise_map]
  unfold Rising
  exact (List.pairwise_iff_getElem (R := fun a b : Hol => a.adr < b.adr)).symm
theorem rising_key {l m : List Hol} (h : m.map Hol.key = l.map Hol.key) (hl : Rising l) : Rising m := by
  rw [rising_pw] at hl ⊢
  rw [h]; exact hl
theorem rising_but {l : List Hol} (A : List UInt8) (h : Rising l) : Rising (butL A l) := by
  unfold Rising at h ⊢
  exact (List.pairwise_iff_getElem (R := fun a b : Hol => a.adr < b.adr)).1 (List.Pairwise.filter _ ((List.pairwise_iff_getElem (R := fun a b : Hol => a.adr < b.adr)).2 h))
theorem adr_inj (h : Hol) {A : List UInt8} (hA : A.length = 8) (e : h.adr = numL A) : h.f = A := numL_inj h.f A (by rw [h.l, hA]) e
theorem set_law {l O : List Hol} {A : List UInt8} (hA : A.length = 8) {q : Acc} (hl : Rising l) (hk : O.map Hol.key = (butL A l).map Hol.key) {i : Nat} {ok : Bool} (hF : FindP O (numL A) i ok) (hq : noneB q = false) {p : Hol} (hp : p.key = (A, q.val)) : (O.take i ++ p :: O.drop i).map Hol.key = setK l A q := by
  have hO := rising_key hk (rising_but A hl)
  obtain ⟨e1, e2⟩ := filter_split O (numL A) hO i hF.2.1 hF.2.2.1
  unfold setK
  rw [hq, List.map_append, List.map_cons, e1, e2, hp, filter_key O (butL A l) hk (fun x => decide (x < numL A)), filter_key O (butL A l) hk (fun x => decide (numL A ≤ x))]
  unfold butL
  rw [List.filter_filter, List.filter_filter, if_neg (by simp)]
  have c1 : (l.filter (fun h => decide (h.adr < numL A) && !(h.f == A))) = l.filter (fun h => decide (h.adr < numL A)) := List.filter_congr (fun h _ => by
    by_cases h1 : h.adr < numL A
    · have : h.f ≠ A := fun e => by unfold Hol.adr at h1; rw [e] at h1; omega
      simp [h1, this]
    · simp [h1])
  have c2 : (l.filter (fun h => decide (numL A ≤ h.adr) && !(h.f == A))) = l.filter (fun h => decide (numL A < h.adr)) := List.filter_congr (fun h _ => by
    by_cases h1 : numL A < h.adr
    · have : h.f ≠ A := fun e => by unfold Hol.adr at h1; rw [e] at h1; omega
      simp [h1, this]; omega
    · by_cases h2 : numL A ≤ h.adr
      · have := adr_inj h hA (by omega)
        simp [h1, this]
      · simp [h1, h2])
  rw [c1, c2]
end Go.Proofs.Ytakhaanenlblmaa
/- (Ws13) world.Set: where it refuses. -/
namespace Go.Proofs.Ytakhaanenlblmaa
open Go.RowKit
def SetPost (l : List Hol) (A : List UInt8) (q : Acc) (w : World) (e : Ending) (w' : World) : Prop := ∃ (v : Value) (O : List Hol) (E : Nat), e = .returned (.tuple #[v, .int .i64 (E : Int)]) ∧ RowOf hols 15 w' v O ∧ (∀ h ∈ O, h.a.In w') ∧ SetR l A q (O.map Hol.key) E ∧ Below w.heap.size w w'
set_option maxHeartbeats 4000000 in
set_option maxRecDepth 100000 in
theorem wset_bad (a : Option Addr) (n c : Nat) (l : List Hol) (hn : l.length = n) (hk : ∀ h ∈ l, h.a.Ok) (hz : ∀ h ∈ l, h.a.Sz) (A : List UInt8) (hA : A.length = 8) (q : Acc) (hqk : q.Ok) (hqz : q.Sz) (hb : (n + 1) * 96 ≤ 140737488355328) (w : World) (h : RowOf hols 15 w (.slice a n c) l) (hi : ∀ h ∈ l, h.a.In w) (hqi : q.In w) (hbad : rightB l = false ∨ slotsB q.s = false ∨ 1024 < q.c.length) :
    Calls Try.prog 22 #[.slice a n c, .agg (by8 A).toArray, .agg (accs q).toArray] w (SetPost l A q w) := by
  obtain ⟨w1, hw1⟩ : ∃ w1, w1 = (w.alloc (.cells (by8 A).toArray 46)).alloc (.cells (accs q).toArray 49) := ⟨_, rfl⟩
  have z4 : Blk 46 w1 w.heap.size (by8 A) := by rw [hw1]; exact (Blk.new w _ _).alloc _
  have z5 : Blk 49 w1 (w.heap.size + 1) (accs q) := by
    rw [hw1]
    have := Blk.new (w.alloc (.cells (by8 A).toArray 46)) 49 (accs q)
    simpa using this
  have hbel : Below w.heap.size w w1 := by rw [hw1]; exact ((Below.refl _ _).alloc (Nat.le_refl _) _).alloc (by simp) _
  have cr := right_any a n c l hn hk w1 (h.below hbel) (fun q hq => (hi q hq).below hbel)
  obtain ⟨ca, cc, sa, sc, hcv, hsv⟩ := acc_parts hqi
  have k5 : ∀ u, Blk 49 u (w.heap.size + 1) (accs q) → u.cell? ⟨w.heap.size + 1, 5, none⟩ = some (.slice ca q.c.length cc) := fun u hu => by have := hu.cell 5; rw [show (accs q)[5]? = some q.cv from rfl, hcv] at this; exact this
  have k6 : ∀ u, Blk 49 u (w.heap.size + 1) (accs q) → u.cell? ⟨w.heap.size + 1, 6, none⟩ = some (.slice sa q.s.length sc) := fun u hu => by have := hu.cell 6; rw [show (accs q)[6]? = some q.sv from rfl, hsv] at this; exact this
  have cs : ∀ u, Below w.heap.size w u → Calls Try.prog 61 #[.slice sa q.s.length sc] u fun e w' => e = .returned (.bool (slotsB q.s)) ∧ Below u.heap.size u w' := fun u hu => slotsRight_any sa q.s.length sc q.s rfl hqk.s u (by have := (hqi.below hu).2; rw [hsv] at this; exact this)
  have hR := rising_of (l := l)
  obtain ⟨xR, hxR⟩ : ∃ x, x = rightB l := ⟨_, rfl⟩
  obtain ⟨xS, hxS⟩ : ∃ x, x = slotsB q.s := ⟨_, rfl⟩
  obtain ⟨cn, hcn⟩ : ∃ x, x = q.c.length := ⟨_, rfl⟩
  obtain ⟨sn, hsn⟩ : ∃ x, x = q.s.length := ⟨_, rfl⟩
  rw [← hxR] at cr
  rw [← hxS, ← hsn] at cs
  rw [← hcn] at k5
  rw [← hsn] at k6
  obtain ⟨Y, hY⟩ : ∃ Y, Y = by8 A := ⟨_, rfl⟩
  obtain ⟨X, hX⟩ : ∃ X, X = accs q := ⟨_, rfl⟩
  have hlY : Y.length = 8 := by rw [hY, by8_len, hA]
  have hlX : X.length = 7 := by rw [hX]; rfl
  have hXo : ∀ u ∈ X, u.oneCell' = true := by rw [hX]; exact accs_one hqi
  rw [← hX, ← hY] at hw1 ⊢
  rw [← hX] at z5 k5 k6
  rw [← hY] at z4
  have Hw1 := Lib.hid hw1
  have Cr := Lib.hid cr
  have Cs := Lib.hid cs
  have K5 := Lib.hid k5
  have K6 := Lib.hid k6
  have Bad := Lib.hid hbad
  have HxR := Lib.hid hxR
  have HxS := Lib.hid hxS
  have Hcn := Lib.hid hcn
  clear hw1 cr cs k5 k6 hbad hxR hxS hcn hsn hX hY hR hcv hsv hn hk hz hqk hqz h hi hqi hA
  cases xR with
  | false =>
    go_enter Try.func22, Try.ntmps22
    go_wp2_with (go_at_call 24; rw [show ((w.alloc (.cells Y.toArray 46)).alloc (.cells X.toArray 49)) = w1 from Hw1.out.symm]; refine Cr.out.mono ?_; rintro e w2 ⟨rfl, b2⟩; have bb2 := Below.then hbel b2; have z42 := z4.kept b2; have z52 := z5.kept b2; have c62 := K6.out _ z52)
    go_ret2
    exact ⟨_, [], 1, rfl, RowOf.nil hols 15 _, by simp, .inl ⟨.inl HxR.out.symm, rfl, rfl⟩, bb2⟩
  | true =>
    cases xS with
    | false =>
      go_enter Try.func22, Try.ntmps22
      go_wp2_with (first | (go_at_call 24; rw [show ((w.alloc (.cells Y.toArray 46)).alloc (.cells X.toArray 49)) = w1 from Hw1.out.symm]; refine Cr.out.mono ?_; rintro e w2 ⟨rfl, b2⟩; have bb2 := Below.then hbel b2; have z42 := z4.kept b2; have z52 := z5.kept b2; have c62 := K6.out _ z52) | (go_at_call 61; refine (Cs.out _ bb2).mono ?_; rintro e w3 ⟨rfl, b3⟩; have bb3 := Below.then bb2 b3; have z43 := z42.kept b3; have z53 := z52.kept b3; have c53 := K5.out _ z53))
      go_ret2
      exact ⟨_, [], 1, rfl, RowOf.nil hols 15 _, by simp, .inl ⟨.inr HxS.out.symm, rfl, rfl⟩, bb3⟩
    | true =>
      have hlong : 1024 < cn := by
        rcases Bad.out with h | h | h
        · rw [← HxR.out] at h; cases h
        · rw [← HxS.out] at h; cases h
        · have := Hcn.out; omega
      have hc : (1024 : Int) < (cn : Int) := by omega
      go_enter Try.func22, Try.ntmps22
      go_wp2_with (first | (go_at_call 24; rw [show ((w.alloc (.cells Y.toArray 46)).alloc (.cells X.toArray 49)) = w1 from Hw1.out.symm]; refine Cr.out.mono ?_; rintro e w2 ⟨rfl, b2⟩; have bb2 := Below.then hbel b2; have z42 := z4.kept b2; have z52 := z5.kept b2; have c62 := K6.out _ z52) | (go_at_call 61; refine (Cs.out _ bb2).mono ?_; rintro e w3 ⟨rfl, b3⟩; have bb3 := Below.then bb2 b3; have z43 := z42.kept b3; have z53 := z52.kept b3; have c53 := K5.out _ z53))
      go_ret2
      exact ⟨_, [], 2, rfl, RowOf.nil hols 15 _, by simp, .inr (.inl ⟨HxR.out.symm, HxS.out.symm, by have := Hcn.out; omega, rfl, rfl⟩), bb3⟩
end Go.Proofs.Ytakhaanenlblmaa
