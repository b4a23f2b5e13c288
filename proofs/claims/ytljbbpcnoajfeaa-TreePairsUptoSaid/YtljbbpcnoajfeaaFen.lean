/- Plain walks inside a round of a range over a function: a region that walks plainly walks in a round as well. No program in sight. -/
import Derived.RangeFuncNested
import Derived.RangeFuncBound
import Derived.RangeFuncCalls
import Derived.RangeFuncLeaves
import Derived.Shelf.Abstract
import Derived.OwnWalkIn
import Derived.TacticsInMore
import Derived.LoopNIn
import Derived.LoopIn
import Derived.OrdersIn
import Derived.Scope
import Derived.Test.YtljbbpcnoajfeaaBase
set_option linter.unusedSimpArgs false
set_option linter.unusedVariables false
namespace Go.Proofs.Ytljbbpcnoajfeaa
open Go.RowKit
/-- The wide fence, in a round or not. -/
def FW (r : Option Nat) : Fence := { Fence.wide with round := r }
@[go_sem] theorem FW_round (r : Option Nat) : (FW r).round = r := rfl
@[go_sem] theorem FW_fn (r : Option Nat) (f : Nat) : (FW r).fn f = True := rfl
@[go_sem] theorem FW_depth (r : Option Nat) : (FW r).depth = none := rfl
theorem FW_in (l : Nat) : (FW none).inRound l = FW (some l) := rfl
def noDefer (o : Oper) : Bool := match o.op with | .defer _ => false | _ => true
theorem noDefer_of {o : Oper} (h : noDefer o = true) : ∀ c, o.op ≠ .defer c := by
  intro c e
  unfold noDefer at h
  rw [e] at h
  cases h
/-- what is left by its end alone -/
def NormQ (R : Act → World → Prop) (e : Exit) (a : Act) (w : World) : Prop := e = .normal ∧ R a w
theorem callsFW {r : Option Nat} {n : Nat} {P : Program} {f : FuncId} {args : Array Value} {w : World} {R : Ending → World → Prop} (h : Calls P f args w R) : CallsIn (FW r) n P f args w R :=
  have h' : CallsIn Fence.wide n P f args w R := callsIn_wide.2 h
  h'
theorem rowsFW {r : Option Nat} {n : Nat} {P : Program} {row : String} {args : Array Value} {w : World} {R : Value → World → Prop} (h : Rows P row args w R) : RowsIn (FW r) n P row args w R := by
  intro c cs _
  obtain ⟨v, w', hr, hs⟩ := h c cs
  exact ⟨v, w', hr, stepsIn_wide.2 hs⟩
section
variable {r : Option Nat} {n : Nat} {P : Program} {ops : Array Oper} {Q : Exit → Act → World → Prop} {R : Act → World → Prop} {a : Act} {w : World}
theorem not_out : ¬ LetsOut (NormQ R) := fun ⟨_, _, h, _⟩ => by cases h
theorem operFW {o : Oper} {next next' : Act → World → Prop} (hd : noDefer o = true) (hn : ∀ a w, next a w → next' a w) (h : o.wp P a w next (NormQ R)) : o.wpIn (FW r) n P a w next' Q := by
  unfold Oper.wp at h
  unfold Oper.wpIn
  refine ⟨fun _ _ => trivial, ?_⟩
  have he : o.semAt (FW r).round a.eval = execOp a.eval o := Oper.semAt_eq r _ _ (noDefer_of hd)
  rw [he]
  generalize (execOp a.eval o).run P w = res at h ⊢
  cases res with
  | ok x w' =>
    cases x with
    | value v => exact hn _ _ h
    | skip => exact hn _ _ h
    | defer d => exact hn _ _ h
    | enter f args =>
      refine ⟨fun hh => (by cases hh), callsFW (Calls.mono h fun e w'' he => ?_)⟩
      cases e with
      | returned v => exact hn _ _ he
      | panicked ch => cases he.1
      | outgrown => exact (not_out he).elim
    | row row args => exact ⟨fun hh => (by cases hh), rowsFW (Rows.mono h fun v w'' he => hn _ _ he)⟩
    | _ => exact h.elim
  | halt x w' =>
    cases x with
    | panic v => cases h.1
    | _ => exact h.elim
/-- The first 'k' operations are walked plainly. -/
theorem listFW (k : Nat) : ∀ (l : List Oper) (a : Act) (w : World), (l.take k).all noDefer = true → wpList P ops (NormQ fun a w => wpListIn (FW r) n P ops Q (l.drop k) a w) (l.take k) a w → wpListIn (FW r) n P ops Q l a w := by
  induction k with
  | zero => intro l a w _ h; exact h.2
  | succ k ih =>
    intro l a w hd h
    cases l with
    | nil => exact h.2
    | cons o rest =>
      rw [List.take_succ_cons] at hd h
      rw [List.drop_succ_cons] at h
      rw [List.all_cons, Bool.and_eq_true] at hd
      unfold wpList at h
      unfold wpListIn
      by_cases hw : Region.wanted o (yielded ops a.tmps) = true
      · rw [if_pos hw] at h ⊢
        rcases h with h | h
        · exact operFW hd.1 (fun a w => ih rest a w hd.2) h
        · exact (not_out h.2).elim
      · rw [if_neg hw] at h ⊢
        exact ⟨fun _ _ => trivial, ih rest _ _ hd.2 h⟩
theorem anyFW {md : Region.Mode} (hd : ∀ (i : Nat) (o : Oper), ops[i]? = some o → noDefer o = true) (hQ : ∀ a w, R a w → Q .normal a w) : ∀ (fuel : Nat) (listed : Array Bool) (a : Act) (w : World), wpAny P md ops (NormQ R) fuel listed a w → wpAnyIn (FW r) n P md ops Q fuel listed a w := by
  intro fuel
  induction fuel with
  | zero => intro listed a w h; exact ⟨h.1, hQ _ _ h.2.2⟩
  | succ fuel ih =>
    intro listed a w h
    refine ⟨fun hr => hQ _ _ (h.1 hr).2, fun i hi => ?_⟩
    have h2 := h.2 i hi
    unfold wpOp at h2
    unfold wpOpIn
    cases ho : ops[i]? with
    | none => rw [ho] at h2; exact ih _ _ _ h2
    | some o =>
      rw [ho] at h2
      dsimp only at h2 ⊢
      by_cases hw : Region.wanted o (yielded ops a.tmps) = true
      · rw [if_pos hw] at h2 ⊢
        rcases h2 with h2 | h2
        · exact operFW (hd i o ho) (fun a w => ih _ a w) h2
        · exact (not_out h2.2).elim
      · rw [if_neg hw] at h2 ⊢
        exact ⟨fun _ _ => trivial, ih _ _ _ h2⟩
theorem regionFW {id k : Nat} {l : List Oper} (hd : (l.take k).all noDefer = true) (h : wpList P l.toArray (NormQ fun a w => wpListIn (FW r) n P l.toArray Q (l.drop k) a w) (l.take k) a w) : (Code.region id l.toArray false).wpIn (FW r) n P Q a w :=
  wpIn_region_lit (listFW k l a w hd h)
/-- A drawn region, by the typed walk. -/
theorem regionFW_typed (w0 : World) (k : Nat) {id : Nat} {l : List Oper} (hm : P.follows .mixedOrders = true) (hB : typedB l.toArray k = true) (hd : l.all noDefer = true) (hw : Below w0.heap.size w0 w)
    (hQ : ∀ a w, R a w → Q .normal a w) (h : wpX P l.toArray w0 (finX P l.toArray w0 (NormQ R) k) (l.take k) a []) : (Code.region id l.toArray true).wpIn (FW r) n P Q a w := by
  refine wpIn_region_any hm (anyFW (R := R) (fun i o ho => ?_) hQ _ _ _ _ ?_)
  · rw [List.all_eq_true] at hd
    have ho' : l[i]? = some o := by simpa using ho
    exact hd o (List.mem_of_getElem? ho')
  have hS := shape_of hB
  obtain ⟨A, G, hA, hG, hf, hst⟩ := seqX (l.take k) a [] h
  have hlen : (l.take k).length = k := by have := hS.le; simp at this; simp; omega
  rw [hlen] at hf
  have hst' : ∀ j o, l.toArray[j]? = some o → j < k → StepX P l.toArray w0 o (A j) (G j) (A (j + 1)) (G (j + 1)) := fun j o hj hjn => hst j o (by simpa [List.getElem?_take, hjn] using hj)
  refine wpAny_head hS hst' hG hf _ _ _ _ ⟨by simp, fun j hj => ?_, ⟨hw.os, hw.tape, hw.output, hw.size, hw.block⟩, by rw [hA], by rw [hA], fun i _ hl => ?_, fun t _ => by rw [hA], fun i _ => getD_replicate_false _ _⟩ ?_
  · rw [getD_replicate_false] at hj; cases hj
  · rw [getD_replicate_false] at hl; cases hl
  · have : ∀ k, unl k (Array.replicate l.toArray.size false) = k := by
      intro k
      induction k with
      | zero => rfl
      | succ k ih => unfold unl; rw [ih, getD_replicate_false]; simp
    rw [this]
    have := hS.le
    omega
theorem stepR_scope {b : Frame} {k : List Item} {cs : List Frame} {c : Code} : step P (lone (b.atR a (.code (.scope c) :: k)) cs w) = .next (lone (b.atR a (.code c :: .inScope c :: k)) cs w) :=
  step_lone_go (by simp [stepG, stepG.exec, Frame.atR])
theorem stepR_inScope {b : Frame} {k : List Item} {cs : List Frame} {c : Code} : step P (lone (b.atR a (.inScope c :: k)) cs w) = .next (lone (b.atR a k) cs w) :=
  step_lone_go (by simp [stepG, stepG.exec, Frame.atR])
/-- a scope through which the run goes without a goto -/
theorem wpIn_scope {c : Code} (h : c.wpIn (FW none) n P (Exit.noGoto Q) a w) : (Code.scope c).wpIn (FW none) n P Q a w := by
  intro b k cs hro hb hr
  have hno : ¬ b.roundOf.isSome = true := by
    rw [hro]
    exact fun hh => (by cases hh)
  have h0 : (lone (b.atR a (.code (.scope c) :: k)) cs w).fenced P (FW none) := fenced_calm hb hr rfl
  obtain ⟨e, a₁, w₁, hq, harr⟩ := h b (.inScope c :: k) cs hro hb hr
  cases e with
  | normal => exact ⟨.normal, a₁, w₁, hq, .head h0 stepR_scope (StepsIn.trans harr (.one (fenced_calm hb hr rfl) stepR_inScope))⟩
  | exit id => exact ⟨.exit id, a₁, w₁, hq, fun k' hk => .head h0 stepR_scope (harr.1 k' (by simp [exitTo, hk])), fun hh => (hno hh).elim⟩
  | goto l => exact hq.elim
  | ret => exact ⟨_, a₁, w₁, hq, .of_steps (.one h0 stepR_scope) harr⟩
  | panic ch => exact ⟨_, a₁, w₁, hq, .of_steps (.one h0 stepR_scope) harr⟩
  | outgrown => exact ⟨_, a₁, w₁, hq, .of_steps (.one h0 stepR_scope) harr⟩
end
end Go.Proofs.Ytljbbpcnoajfeaa
