/- The reference's TBits: four rows that grow side by side. -/
import Derived.Test.YtgmdbleeagfhpaaTurn3
import Derived.Test.YtgmdbleeagfhpaaShift6
set_option linter.unusedSimpArgs false
set_option linter.unusedVariables false
namespace Go.Proofs.Ytgmdbleeagfhpaa
open Go.RowKit
/-- what is known of a row of one's own under the order of rows -/
def OwnT (S : Nat → Option (List Value)) (B : Nat) (l : List Bool) : Ty := fun v w => OwnOf bbool 1 4 w B v l ∧ ∀ (g : Nat), v.ownBlock = some g → ∀ xs, S g = some xs → ∀ (j : Nat) (u : Value), (l.map Value.bool)[j]? = some u → xs[j]? = some u
theorem OwnT.mono (S : Nat → Option (List Value)) (B : Nat) (l : List Bool) : Turn.Mono (rowsLe S) (OwnT S B l) := by
  rintro v w w' ⟨h1, h2⟩ hr
  exact ⟨rowsLe.own one_bool hr h1 h2, h2⟩
/-- a new block with one bool -/
def OneT (S : Nat → Option (List Value)) (b : Bool) : Ty := fun v w => ∃ g, v = .slice (some ⟨g, 0, none⟩) 1 1 ∧ S g = none ∧ RowOf bbool 1 w (.slice (some ⟨g, 0, none⟩) 1 1) [b]
theorem OneT.mono (S : Nat → Option (List Value)) (b : Bool) : Turn.Mono (rowsLe S) (OneT S b) := by
  rintro v w w' ⟨g, rfl, h1, h2⟩ hr
  exact ⟨g, rfl, h1, rowsLe.row hr h2 h1⟩
theorem own_blkOf {v : Value} {g : Nat} (h : v.ownBlock = some g) : Turn.blkOf v = some g := by
  unfold Value.ownBlock at h
  split at h
  · simpa [Turn.blkOf] using h
  · cases h
theorem own_of_blk {B : Nat} {e : TypeId} {w : World} {v : Value} {l : List Bool} (h : OwnOf bbool 1 e w B v l) {g : Nat} (hg : Turn.blkOf v = some g) : v.ownBlock = some g := by
  rcases h.2 with ⟨rfl, _⟩ | ⟨g', cap, cur, rfl, _⟩
  · simp [Turn.blkOf] at hg
  · simpa [Turn.blkOf, Value.ownBlock] using hg
/-- 'append' in a region of this order, its run known. -/
theorem good_appendT {le : Turn.Le} {P : Program} {T : Ty} {o : Oper} {a : Act} {w w' : World} {t : TypeId} {s x : Operand} {vs vx v' : Value} (hop : o.op = Op.call { callee := .builtin .append, args := #[s, x], argTypes := #[t, t] }) (hs : a.eval s = vs) (hx : a.eval x = vx)
    (hrun : (Builtin.append_ #[t, t] o.type #[vs, vx]).run P w = .ok v' w') (h : le.r w w' ∧ T v' w') : Turn.goodUpon le P T w ((execOp a.eval o).run P w) := by
  have : (execOp a.eval o).run P w = .ok (.value v') w' := by simp [execOp, hop, resolve, invoke, builtin, hs, hx, hrun, Result.andThen]
  rw [this]; exact h
/-- the owners of the four appends -/
def tbF (p q r s : Option Nat) : Turn.Own := fun t => match t with
  | 36 => some p.toList
  | 49 => some q.toList
  | 61 => some r.toList
  | 69 => some s.toList
  | _ => none
/-- A row grows by one. -/
theorem grow_one {S : Nat → Option (List Value)} {w0 w : World} {B : Nat} {v vx : Value} {l : List Bool} {b : Bool} {F : Turn.Own} {d : Tmp} (hF : F d = some v.ownBlock.toList) (hr : (rowsLe S).r w0 w) (hown : OwnOf bbool 1 4 w0 B v l) (hB : B ≤ w0.heap.size)
    (hS : ∀ g, v.ownBlock = some g → S g = some ((l ++ [b]).map Value.bool)) (hnew : ∀ g, w0.heap.size ≤ g → S g = none) (hx : OneT S b vx w) (hl : l.length ≤ 1000) :
    ∃ v' w', (Builtin.append_ #[87, 87] 87 #[v, vx]).run Try.prog w = .ok v' w' ∧ (rowsLe S).r w w' ∧ OwnT S B (l ++ [b]) v' w' ∧ Turn.Born F (some d) w.heap.size v' w' := by
  obtain ⟨gx, rfl, _, hrow⟩ := hx
  have hpre : ∀ (g : Nat), v.ownBlock = some g → ∀ xs, S g = some xs → ∀ (j : Nat) (u : Value), (l.map Value.bool)[j]? = some u → xs[j]? = some u := by
    intro g hg xs hxs j u hu
    rw [hS g hg] at hxs
    obtain rfl := Option.some.inj hxs
    rw [List.map_append]
    have hj := (List.getElem?_eq_some_iff.1 hu).1
    rw [List.getElem?_append_left hj]; exact hu
  have hown' := rowsLe.own one_bool hr hown hpre
  obtain ⟨v', w', h1, h2, h3, h4⟩ := run_append_rows (P := Try.prog) (S := S) (t := 87) (ty := 87) elBool one_bool hown' (Nat.le_trans hB hr.2.2.2.1) hrow hS (by omega) (by unfold maxLen; omega)
  refine ⟨v', w', h1, h3, ⟨h2, fun g hg xs hxs j u hu => ?_⟩, fun t Os ht hOs g hg => ?_⟩
  · obtain ⟨_, hh⟩ := h4 g (own_blkOf hg)
    rcases hh with hh | hh
    · rw [hnew g (Nat.le_trans hr.2.2.2.1 hh)] at hxs; cases hxs
    · rw [hS g hh] at hxs
      obtain rfl := Option.some.inj hxs
      exact hu
  · obtain rfl := Option.some.inj ht
    rw [hF] at hOs
    obtain rfl := Option.some.inj hOs
    obtain ⟨q1, q2⟩ := h4 g hg
    refine ⟨q1, q2.imp_right fun hh => ?_⟩
    rw [hh]; simp
/-- Four rows, apart. -/
structure Rows4 (B : Nat) (w : World) (vp vq vr vs : Value) (lp lq lr ls : List Bool) : Prop where
  p : OwnOf bbool 1 4 w B vp lp
  q : OwnOf bbool 1 4 w B vq lq
  r : OwnOf bbool 1 4 w B vr lr
  s : OwnOf bbool 1 4 w B vs ls
  pq : ∀ k, vp.ownBlock = some k → vq.ownBlock ≠ some k
  pr : ∀ k, vp.ownBlock = some k → vr.ownBlock ≠ some k
  ps : ∀ k, vp.ownBlock = some k → vs.ownBlock ≠ some k
  qr : ∀ k, vq.ownBlock = some k → vr.ownBlock ≠ some k
  qs : ∀ k, vq.ownBlock = some k → vs.ownBlock ≠ some k
  rs : ∀ k, vr.ownBlock = some k → vs.ownBlock ≠ some k
def tbS (vp vq vr vs : Value) (lp lq lr ls : List Bool) : Nat → Option (List Value) := fun k =>
  if vp.ownBlock = some k then some (lp.map Value.bool) else if vq.ownBlock = some k then some (lq.map Value.bool) else if vr.ownBlock = some k then some (lr.map Value.bool) else if vs.ownBlock = some k then some (ls.map Value.bool) else none
theorem Rows4.S {B : Nat} {w : World} {vp vq vr vs : Value} {lp lq lr ls lp' lq' lr' ls' : List Bool} (h : Rows4 B w vp vq vr vs lp lq lr ls) :
    (∀ g, vp.ownBlock = some g → tbS vp vq vr vs lp' lq' lr' ls' g = some (lp'.map Value.bool)) ∧ (∀ g, vq.ownBlock = some g → tbS vp vq vr vs lp' lq' lr' ls' g = some (lq'.map Value.bool)) ∧
    (∀ g, vr.ownBlock = some g → tbS vp vq vr vs lp' lq' lr' ls' g = some (lr'.map Value.bool)) ∧ (∀ g, vs.ownBlock = some g → tbS vp vq vr vs lp' lq' lr' ls' g = some (ls'.map Value.bool)) ∧
    (∀ g, w.heap.size ≤ g → tbS vp vq vr vs lp' lq' lr' ls' g = none) ∧ (∀ g, g < B → tbS vp vq vr vs lp' lq' lr' ls' g = none) := by
  have np : ∀ g, (g < B ∨ w.heap.size ≤ g) → vp.ownBlock ≠ some g := fun g hg e => by have := World.ownsRow.lt h.p g e; omega
  have nq : ∀ g, (g < B ∨ w.heap.size ≤ g) → vq.ownBlock ≠ some g := fun g hg e => by have := World.ownsRow.lt h.q g e; omega
  have nr : ∀ g, (g < B ∨ w.heap.size ≤ g) → vr.ownBlock ≠ some g := fun g hg e => by have := World.ownsRow.lt h.r g e; omega
  have ns : ∀ g, (g < B ∨ w.heap.size ≤ g) → vs.ownBlock ≠ some g := fun g hg e => by have := World.ownsRow.lt h.s g e; omega
  unfold tbS
  refine ⟨fun g hg => if_pos hg, fun g hg => ?_, fun g hg => ?_, fun g hg => ?_, fun g hg => ?_, fun g hg => ?_⟩
  · rw [if_neg (fun e => h.pq g e hg), if_pos hg]
  · rw [if_neg (fun e => h.pr g e hg), if_neg (fun e => h.qr g e hg), if_pos hg]
  · rw [if_neg (fun e => h.ps g e hg), if_neg (fun e => h.qs g e hg), if_neg (fun e => h.rs g e hg), if_pos hg]
  · rw [if_neg (np g (.inr hg)), if_neg (nq g (.inr hg)), if_neg (nr g (.inr hg)), if_neg (ns g (.inr hg))]
  · rw [if_neg (np g (.inl hg)), if_neg (nq g (.inl hg)), if_neg (nr g (.inl hg)), if_neg (ns g (.inl hg))]
theorem Rows4.old {B : Nat} {w : World} {vp vq vr vs : Value} {lp lq lr ls : List Bool} (h : Rows4 B w vp vq vr vs lp lq lr ls) : Turn.OldOk (tbF vp.ownBlock vq.ownBlock vr.ownBlock vs.ownBlock) w := by
  have lt : ∀ (v : Value) (l : List Bool), OwnOf bbool 1 4 w B v l → ∀ g ∈ v.ownBlock.toList, g < w.heap.size := by
    intro v l hv g hg
    have : v.ownBlock = some g := by simpa using hg
    exact (World.ownsRow.lt hv g this).2
  have ap : ∀ (v u : Value), (∀ k, v.ownBlock = some k → u.ownBlock ≠ some k) → (∀ g ∈ v.ownBlock.toList, g ∉ u.ownBlock.toList) ∧ (∀ g ∈ u.ownBlock.toList, g ∉ v.ownBlock.toList) := by
    intro v u hvu
    refine ⟨fun g h1 h2 => ?_, fun g h1 h2 => ?_⟩
    · exact hvu g (by simpa using h1) (by simpa using h2)
    · exact hvu g (by simpa using h2) (by simpa using h1)
  refine ⟨fun s t Os Ot hst hs ht g hg => ?_, fun t Os ht g hg => ?_⟩
  · unfold tbF at hs ht
    split at hs <;> split at ht <;> (first | (cases hs; done) | (cases ht; done) | skip) <;> (first | exact absurd rfl hst | skip) <;> (obtain rfl := Option.some.inj hs; obtain rfl := Option.some.inj ht)
    · exact (ap _ _ h.pq).1 g hg
    · exact (ap _ _ h.pr).1 g hg
    · exact (ap _ _ h.ps).1 g hg
    · exact (ap _ _ h.pq).2 g hg
    · exact (ap _ _ h.qr).1 g hg
    · exact (ap _ _ h.qs).1 g hg
    · exact (ap _ _ h.pr).2 g hg
    · exact (ap _ _ h.qr).2 g hg
    · exact (ap _ _ h.rs).1 g hg
    · exact (ap _ _ h.ps).2 g hg
    · exact (ap _ _ h.qs).2 g hg
    · exact (ap _ _ h.rs).2 g hg
  · unfold tbF at ht
    split at ht
    · obtain rfl := Option.some.inj ht; exact lt _ _ h.p g hg
    · obtain rfl := Option.some.inj ht; exact lt _ _ h.q g hg
    · obtain rfl := Option.some.inj ht; exact lt _ _ h.r g hg
    · obtain rfl := Option.some.inj ht; exact lt _ _ h.s g hg
    · cases ht
theorem rowsLe.blk {S : Nat → Option (List Value)} {w w' : World} (h : (rowsLe S).r w w') {e : TypeId} {g : Nat} {cs : List Value} (hb : Blk e w g cs) (hs : S g = none) : Blk e w' g cs := by
  rcases h.2.2.2.2 g hb.lt with h1 | ⟨xs, h2, _⟩
  · exact h1.trans hb
  · rw [hs] at h2; cases h2
theorem rowsLe.bel {S : Nat → Option (List Value)} {w0 w w' : World} {B : Nat} (h : (rowsLe S).r w w') (hb : Below B w0 w) (hB : B ≤ w0.heap.size) (hs : ∀ g, g < B → S g = none) : Below B w0 w' := by
  refine ⟨h.1.trans hb.os, h.2.1.trans hb.tape, h.2.2.1.trans hb.output, Nat.le_trans hb.size h.2.2.2.1, fun k hk => ?_⟩
  rcases h.2.2.2.2 k (Nat.lt_of_lt_of_le (Nat.lt_of_lt_of_le hk hB) hb.size) with h1 | ⟨xs, h2, _⟩
  · exact h1.trans (hb.block k hk)
  · rw [hs k hk] at h2; cases h2
end Go.Proofs.Ytgmdbleeagfhpaa
