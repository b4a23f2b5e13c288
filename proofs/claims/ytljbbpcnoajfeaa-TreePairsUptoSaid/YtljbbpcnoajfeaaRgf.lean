/- A range over a function whose values are made on the way: a law with a fact beside each value at its round. No program in sight. -/
import Derived.Test.YtljbbpcnoajfeaaFen2
set_option linter.unusedSimpArgs false
set_option linter.unusedVariables false
namespace Go.Proofs.Ytljbbpcnoajfeaa
open Go.RowKit
/-- what growth, and the turn of a block that is no cells and lies from B on, leave true -/
def Stab (B : Nat) (I : World → Prop) : Prop := ∀ W W' row, I W → W.grownBy W' row → (∀ r, row = some r → B ≤ r ∧ ∃ o : Obj, W.heap[r]? = some o ∧ o.isCells = false) → I W'
theorem Stab.mono {B B' : Nat} {I : World → Prop} (h : Stab B I) (hB : B ≤ B') : Stab B' I := fun W W' row hi hg hr => h W W' row hi hg (fun r e => ⟨Nat.le_trans hB (hr r e).1, (hr r e).2⟩)
theorem Stab.put {B : Nat} {I : World → Prop} (h : Stab B I) {W : World} {l : Nat} {o : Obj} (o' : Obj) (hi : I W) (hB : B ≤ l) (hl : W.heap[l]? = some o) (hc : o.isCells = false) : I (W.putObj l o') :=
  h W _ (some l) hi (grownBy_putObj' W l o') (fun r e => by cases e; exact ⟨hB, o, hl, hc⟩)
theorem Stab.new {B : Nat} {I : World → Prop} (h : Stab B I) {W : World} (o : Obj) (hi : I W) : I (W.alloc o) := h W _ none hi (World.grownBy_alloc W o none) (fun r e => by cases e)
theorem grown_below {W W' : World} (h : Below W.heap.size W W') : W.grownBy W' none := ⟨h.os, h.tape, h.output, h.size, fun k hk _ => h.block k hk⟩
theorem Stab.below {B : Nat} {I : World → Prop} (h : Stab B I) {W W' : World} (hi : I W) (hb : Below W.heap.size W W') : I W' := h W W' none hi (grown_below hb) (fun r e => by cases e)
theorem Stab.and {B : Nat} {I I' : World → Prop} (h : Stab B I) (h' : Stab B I') : Stab B (fun W => I W ∧ I' W) := fun W W' row hi hg hr => ⟨h W W' row hi.1 hg hr, h' W W' row hi.2 hg hr⟩
theorem keepsMono {B B' : Nat} {W W' : World} (h : KeepsFrom B W W') (hB : B ≤ B') : KeepsFrom B' W W' := ⟨h.size, fun k o hk => h.same k o (Nat.le_trans hB hk)⟩
theorem keepsPut (l : Nat) {B : Nat} (hl : l < B) {W : World} {o : Obj} : KeepsFrom B W (W.putObj l o) := .of_grownBy (grownBy_putObj' W l o) (fun j e => by cases e; exact hl)
theorem keeps_of_below {W W' : World} (B : Nat) (hb : Below W.heap.size W W') : KeepsFrom B W W' := ⟨hb.size, fun k _ _ h _ => (hb.block k (Array.getElem?_eq_some_iff.1 h).1).trans h⟩
theorem roundFW {r r' : Option Nat} {n m : Nat} {P : Program} {l : Nat} {f : FuncId} {tmps : Array Value} {assign body : Code} {w : World} {R : Ending → World → Prop} (h : RoundIn (FW r) n P l f tmps assign body w R) : RoundIn (FW r') m P l f tmps assign body w R :=
  ⟨trivial, fun c cs _ => h.2 c cs (fun d hd => by cases hd)⟩
/-- what a round tells the function that is ranged over -/
def RdQ (Kp : World → World → Prop) (B : Nat) (Jn Jx : World → Prop) (W : World) (e : Ending) (W' : World) : Prop :=
  (e = .returned (.bool true) ∧ Jn W' ∧ Kp W W' ∧ KeepsFrom B W W') ∨ (e = .returned (.bool false) ∧ Jx W' ∧ KeepsFrom B W W')
/-- the function hands over L, one behind the other -/
def SeqQ {κ : Type} (P : Program) (g : Nat) (lb : Array Value) (L : List κ) (Y : κ → Array Value → World → Prop) (Kp : World → World → Prop) (W : World) : Prop :=
  ∀ (l : Nat) (J : Nat → World → Prop) (Jx : World → Prop), (∀ k, Stab W.heap.size (J k)) → Stab W.heap.size Jx →
    (∀ k x args W1, L[k]? = some x → J k W1 → Y x args W1 → YieldAt (FW none) 8 P l args W1 (RdQ Kp W.heap.size (J (k + 1)) Jx W1)) →
    J 0 W → Calls P g (#[.func (.yield l) #[] #[]] ++ lb) W fun e W' => (∃ v, e = .returned v) ∧ (J L.length W' ∨ Jx W')
/-- how a round's body may end -/
def endQ (B : Nat) (Kp : World → World → Prop) (In Ix : World → Prop) (W : World) : Exit → Act → World → Prop
  | .normal, _, W' => KeepsFrom B W W' ∧ Kp W W' ∧ In W'
  | .ret, _, W' => KeepsFrom B W W' ∧ Ix W'
  | _, _, _ => False
theorem range_law {P : Program} {κ : Type} {L : List κ} {Y : κ → Array Value → World → Prop} {Kp : World → World → Prop} {g : Operand} {ps : Array Tmp} {assign body : Code} {Q : Exit → Act → World → Prop} {a : Act} {w : World} {gf : Nat} {lb : Array Value}
    (hg : a.eval g = .func (.func gf) #[] lb) (eg : ∀ args w, (callFunc gf args).run P w = .ok (.enter gf args) w)
    (hseq : ∀ W, Below w.heap.size w W → SeqQ P gf lb L Y Kp W)
    (hKt : ∀ {A B C : World}, Kp A B → Kp B C → Kp A C) (hKb : ∀ (W : World) (l : Nat) (o o' : Obj), w.heap.size ≤ l → W.heap[l]? = some o → o.isCells = false → Kp W (W.putObj l o'))
    (hps : ∀ x args W, Y x args W → args.size = ps.size) (hY : ∀ x args, Stab w.heap.size (Y x args))
    (I : Nat → World → Prop) (Ix : World → Prop) (hI : ∀ k, Stab w.heap.size (I k)) (hIx : Stab w.heap.size Ix) (h0 : I 0 w)
    (hround : ∀ (l k : Nat) (x : κ) (args : Array Value) (W : World), w.heap.size ≤ l → L[k]? = some x → I k W → Y x args W →
      assign.wpIn (FW (some l)) 8 P (Exit.then (fun a₁ W₁ => W₁ = W ∧ ∀ W2, I k W2 → Y x args W2 → body.wpIn (FW (some l)) 8 P (endQ w.heap.size Kp (I (k + 1)) Ix W2) a₁ W2) (fun _ _ _ => False)) { tmps := (ps.zip args).foldl (fun t (p, v) => t.setIfInBounds p v) a.tmps, defers := [] } W)
    (hdone : ∀ (D : Nat) (W : World), w.heap.size ≤ D → I L.length W → W.heap[D]? = some (.deferred (some [])) → Q .normal { a with defers := { target := .collected D, args := #[] } :: a.defers } W)
    (hstop : ∀ (D : Nat) (W : World), w.heap.size ≤ D → Ix W → W.heap[D]? = some (.deferred (some [])) → Code.ret.wpIn (FW none) 8 P Q { a with defers := { target := .collected D, args := #[] } :: a.defers } W) :
    (Code.rangeFunc g ps assign body).wpIn (FW none) 8 P Q a w := by
  refine wpIn_rangeFunc fun fn hfn => ?_
  obtain ⟨D, hD⟩ : ∃ D, D = w.heap.size := ⟨_, rfl⟩
  obtain ⟨rec, hrec⟩ : ∃ rec : LoopState → Option Code → Loop, rec = fun st pe => { state := st, pending := pe, fn, tmps := a.tmps, params := ps, assign, body, defers := w.heap.size } := ⟨_, rfl⟩
  obtain ⟨W1, hW1⟩ : ∃ W1, W1 = (w.alloc (.deferred (some []))).alloc (.loop (rec .ready none)) := ⟨_, rfl⟩
  have hs1 : W1.heap.size = D + 2 := by rw [hW1, hD]; simp
  have hb1 : Below w.heap.size w W1 := by rw [hW1]; exact ((Below.refl _ _).alloc (Nat.le_refl _) _).alloc (by simp) _
  have hl1 : W1.heap[D + 1]? = some (.loop (rec .ready none)) := by
    have := World.alloc_heap_new (w.alloc (.deferred (some []))) (.loop (rec .ready none))
    rw [World.size_alloc] at this
    rw [hW1, hD]; exact this
  have hd1 : W1.heap[D]? = some (.deferred (some [])) := by
    rw [hW1, hD]
    exact (Below.heap_alloc _ _ _ (by simp)).trans (World.alloc_heap_new w _)
  have st : ∀ {k : Nat} {o : Obj}, k < W1.heap.size → Stab W1.heap.size (fun W => W.heap[k]? = some o) := fun {k o} hk W W' row hi hg hr =>
    (hg.block k (Array.getElem?_eq_some_iff.1 hi).1 (fun e => by have := (hr k e.symm).1; omega)).trans hi
  refine ⟨D + 1, [{ target := .collected D, args := #[] }], W1, { target := .fn (.func gf) lb, args := #[.func (.yield (D + 1)) #[] #[]] }, W1, gf, #[.func (.yield (D + 1)) #[] #[]] ++ lb, W1, ?_, ?_, ?_, ?_, fun h => (by cases h), ?_⟩
  · rw [hW1, hrec, hD]; exact run_enterLoop_outer _ _ _ _ _
  · simp only [resolve, hg]
    simp [go_sem]
  · intro f' _; exact trivial
  · simp [invoke, go_sem, eg]
  refine callsFW (Calls.mono (hseq W1 hb1 (D + 1)
    (fun k W => I k W ∧ W.heap[D + 1]? = some (.loop (rec .ready none)) ∧ W.heap[D]? = some (.deferred (some [])))
    (fun W => Ix W ∧ W.heap[D + 1]? = some (.loop (rec .done (some .ret))) ∧ W.heap[D]? = some (.deferred (some [])))
    (fun k => ((hI k).mono hb1.size).and ((st (by omega)).and (st (by omega)))) ((hIx.mono hb1.size).and ((st (by omega)).and (st (by omega)))) ?_
    ⟨(hI 0).below h0 (by rw [hW1]; exact ((Below.refl _ _).alloc (Nat.le_refl _) _).alloc (by simp) _), hl1, hd1⟩) ?_)
  · rintro k x args W hx ⟨hi, hl, hd⟩ hy
    have hlt : D + 1 < W.heap.size := (Array.getElem?_eq_some_iff.1 hl).1
    have hyd := run_yield (P := P) (args := args) hl (by rw [hrec]; exact hps x args W hy)
    rw [hrec] at hyd
    obtain ⟨W2, hW2⟩ : ∃ W2, W2 = W.putObj (D + 1) (.loop { rec .ready none with state := .busy }) := ⟨_, rfl⟩
    have hl2 : W2.heap[D + 1]? = some (.loop { rec .ready none with state := .busy }) := by rw [hW2]; exact World.putObj_heap_same hlt
    have hd2 : W2.heap[D]? = some (.deferred (some [])) := by rw [hW2]; exact (World.putObj_heap_other (by omega)).trans hd
    have hk2 : Kp W W2 := by rw [hW2]; exact hKb _ _ _ _ (by omega) hl rfl
    have hi2 : I k W2 := by rw [hW2]; exact (hI k).put _ hi (by omega) hl rfl
    have hy2 : Y x args W2 := by rw [hW2]; exact (hY x args).put _ hy (by omega) hl rfl
    have hf2 : KeepsFrom W1.heap.size W W2 := by rw [hW2]; exact keepsPut (D + 1) (by omega)
    have fin : ∀ (jump : Option Code) (W3 : World), KeepsFrom w.heap.size W2 W3 → ∃ W4, W4 = W3.putObj (D + 1) (.loop (rec (if jump.isNone then .ready else .done) jump)) ∧
        (Instr.endRound (D + 1) jump).run P W3 = .ok (.bool jump.isNone) W4 ∧ W3.heap[D + 1]? = some (.loop { rec .ready none with state := .busy }) ∧ W4.heap[D + 1]? = some (.loop (rec (if jump.isNone then .ready else .done) jump)) ∧ W4.heap[D]? = some (.deferred (some [])) ∧ KeepsFrom W1.heap.size W W4 := fun jump W3 h3 => by
      have hl3 := h3.same _ _ (by omega) hl2 rfl
      have he := run_endRound (P := P) jump hl3
      refine ⟨_, rfl, ?_, hl3, World.putObj_heap_same (Array.getElem?_eq_some_iff.1 hl3).1, (World.putObj_heap_other (by omega)).trans (h3.same _ _ (by omega) hd2 rfl), (hf2.trans (keepsMono h3 hb1.size)).trans (keepsPut (D + 1) (by omega))⟩
      rw [hrec] at he ⊢
      exact he
    refine ⟨fn, _, assign, body, hyd, roundFW (r := none) (n := 8) (roundIn_of_wpIn (F := FW none) (n := 8) hfn (wpIn_mono (hround (D + 1) k x args W (by omega) hx hi hy) ?_))⟩
    rintro e0 a0 W0 hp0
    cases e0 with
    | normal =>
      obtain ⟨rfl, hbody⟩ := hp0
      refine ⟨W2, by rw [hW2]; exact run_beginRound hl (by rw [hrec]), ?_⟩
      refine wpIn_mono (hbody W2 hi2 hy2) ?_
      rintro e a3 W3 hp
      cases e with
      | normal =>
        obtain ⟨h3, k3, i3⟩ := hp
        obtain ⟨W4, e4, r4, l3, l4, d4, f4⟩ := fin none W3 h3
        refine ⟨_, _, r4, .inl ⟨rfl, ⟨by rw [e4]; exact (hI _).put _ i3 (by omega) l3 rfl, l4, d4⟩, hKt hk2 (hKt k3 (by rw [e4]; exact hKb _ _ _ _ (by omega) l3 rfl)), f4⟩⟩
      | ret =>
        obtain ⟨h3, i3⟩ := hp
        obtain ⟨W4, e4, r4, l3, l4, d4, f4⟩ := fin (some .ret) W3 h3
        exact ⟨_, _, r4, .inr ⟨rfl, ⟨by rw [e4]; exact hIx.put _ i3 (by omega) l3 rfl, l4, d4⟩, f4⟩⟩
      | exit id => exact hp.elim
      | goto t => exact hp.elim
      | panic ch => exact hp.elim
      | outgrown => exact hp.elim
    | ret => exact hp0.elim
    | exit id => exact hp0.elim
    | goto t => exact hp0.elim
    | panic ch => exact hp0.elim
    | outgrown => exact hp0.elim
  · rintro e W2 ⟨⟨v, rfl⟩, ⟨hi, hl, hd⟩ | ⟨hi, hl, hd⟩⟩
    · have he := run_endLoop (P := P) hl (by rw [hrec]; simp)
      rw [hrec] at he
      exact ⟨none, _, he, hdone D _ (by omega) ((hI _).put _ hi (by omega) hl rfl) ((World.putObj_heap_other (by omega)).trans hd)⟩
    · have he := run_endLoop (P := P) hl (by rw [hrec]; simp)
      rw [hrec] at he
      exact ⟨some .ret, _, he, hstop D _ (by omega) (hIx.put _ hi (by omega) hl rfl) ((World.putObj_heap_other (by omega)).trans hd)⟩
end Go.Proofs.Ytljbbpcnoajfeaa
