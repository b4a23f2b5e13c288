/- The typed walk of a drawn region whose tail is walked within the fence of a range over a function (a call of yield may stand there). No program in sight. -/
import Derived.Test.YtljbbpcnoajfeaaFen
set_option linter.unusedSimpArgs false
set_option linter.unusedVariables false
namespace Go.Proofs.Ytljbbpcnoajfeaa
open Go.RowKit
section
variable {P : Program} {ops : Array Oper} {r : Option Nat} {m : Nat}
def finF (r : Option Nat) (m : Nat) (P : Program) (ops : Array Oper) (w0 : World) (Q : Exit → Act → World → Prop) (n : Nat) (a : Act) (Γ : Env) : Prop := ∀ w', Below w0.heap.size w0 w' → forallRel w' Γ.reverse a (fun a' => wpListIn (FW r) m P ops Q (ops.toList.drop n) a' w')
theorem opFW {Q : Exit → Act → World → Prop} {R : Act → World → Prop} {i : Nat} {K : Act → World → Prop} {a : Act} {w : World} (hd : ∀ o, ops[i]? = some o → noDefer o = true) (h : wpOp P ops (NormQ R) i K a w) : wpOpIn (FW r) m P ops Q i K a w := by
  unfold wpOp at h
  unfold wpOpIn
  cases ho : ops[i]? with
  | none => rw [ho] at h; exact h
  | some o =>
    rw [ho] at h
    dsimp only at h ⊢
    by_cases hw : Region.wanted o (yielded ops a.tmps) = true
    · rw [if_pos hw] at h ⊢
      rcases h with h | h
      · exact operFW (hd o ho) (fun _ _ h => h) h
      · exact (not_out h.2).elim
    · rw [if_neg hw] at h ⊢
      exact ⟨fun _ _ => trivial, h⟩
theorem wpAny_tailF {n : Nat} (hS : Shape ops n) {Q : Exit → Act → World → Prop} : ∀ (l : List Oper) (k : Nat) (listed : Array Bool) (b : Act) (w : World), n ≤ k → k + l.length = ops.size → (∀ j, l[j]? = ops[k + j]?) → listed.size = ops.size →
    Closed ops listed → (∀ i, i < k → listed.getD i false = true) → (∀ i, k ≤ i → listed.getD i false = false) → wpListIn (FW r) m P ops Q l b w → wpAnyIn (FW r) m P .any ops Q l.length listed b w
  | [], k, listed, b, w, _, hkl, _, hsz, _, hlo, _, h => by
    refine ⟨?_, h⟩
    apply List.eq_nil_iff_forall_not_mem.2
    intro j hj
    obtain ⟨h0, ⟨o, ho⟩, _⟩ := ready_edges hj
    have hjs : j < ops.size := (Array.getElem?_eq_some_iff.1 ho).1
    have := (getD_false_of_true h0).1
    rw [hlo j (by simp at hkl; omega)] at this
    cases this
  | o :: l, k, listed, b, w, hnk, hkl, hl, hsz, hcl, hlo, hhi, h => by
    have h0 : ops[k]? = some o := by simpa using (hl 0).symm
    have hks : k < ops.size := (Array.getElem?_eq_some_iff.1 h0).1
    have hlow := hS.low
    have hready : k ∈ Region.ready .any ops listed := by
      rw [mem_ready]
      refine ⟨getD_true_of_false (by omega) (hhi k (Nat.le_refl _)), o, h0, fun e he hb => hlo _ (hlow k e.on hks ?_)⟩
      unfold edges
      simp only [h0, List.mem_map, List.mem_filter]
      exact ⟨e, ⟨by simpa using he, hb⟩, rfl⟩
    refine ⟨fun hn => (by rw [hn] at hready; cases hready), fun j hj => ?_⟩
    obtain ⟨hj0, ⟨oj, hoj⟩, hje⟩ := ready_edges hj
    have hjs : j < ops.size := (Array.getElem?_eq_some_iff.1 hoj).1
    have hjk : j = k := by
      have h1 := (getD_false_of_true hj0).1
      rcases Nat.lt_trichotomy j k with hlt | heq | hgt
      · rw [hlo j hlt] at h1; cases h1
      · exact heq
      · have := reach_listed hcl 5000 (edges ops j) [] hje (fun x hx => by cases hx) k (hS.tail j k hjs (by omega) hgt)
        rw [hhi k (Nat.le_refl _)] at this; cases this
    subst hjk
    have ih : ∀ b w, wpListIn (FW r) m P ops Q l b w → wpAnyIn (FW r) m P .any ops Q l.length (listed.setIfInBounds j true) b w := fun b w hw => wpAny_tailF hS l (j + 1) (listed.setIfInBounds j true) b w (by omega) (by simp at hkl; omega) (fun i => by have := hl (i + 1); simpa [Nat.add_assoc, Nat.add_comm 1 i] using this) (by simp [hsz])
      (closed_set hcl hje) (fun i hi => by
        by_cases hij : i = j
        · subst hij; exact getD_set_self (by omega)
        · exact getD_set_true (hlo i (by omega))) (fun i hi => by rw [getD_set_ne false (by omega)]; exact hhi i (by omega)) hw
    unfold wpListIn at h
    unfold wpOpIn
    simp only [h0]
    by_cases hw : Region.wanted o (yielded ops b.tmps) = true
    · rw [if_pos hw] at h ⊢
      exact Oper.wpIn_mono (fun a w hq => ih a w hq) h
    · rw [if_neg hw] at h ⊢
      exact ⟨h.1, ih _ _ h.2⟩
section
variable {w0 : World} {n : Nat} {A : Nat → Act} {G : Nat → Env}
theorem wpAny_all_listedF (hS : Shape ops n) (hst : ∀ j o, ops[j]? = some o → j < n → StepX P ops w0 o (A j) (G j) (A (j + 1)) (G (j + 1))) (h0 : G 0 = []) {Q : Exit → Act → World → Prop} (hfin : finF r m P ops w0 Q n (A n) (G n)) {fuel : Nat} {listed : Array Bool} {b : Act} {w : World}
    (inv : Inv ops w0 n A G listed b w) (hf : unl n listed + (ops.size - n) = fuel) (hz : unl n listed = 0) : wpAnyIn (FW r) m P .any ops Q fuel listed b w := by
  have hle := hS.le
  have hlo := unl_zero n hz
  have hsz := states_size hst hle n (Nat.le_refl _)
  obtain ⟨a', hK, hs', hd', hsl⟩ := forallRel_at (b := b) (G n).reverse (A n) _ (by rw [hsz.1, inv.bs]) (fun p hp => by
    have hp' : (p.1, p.2) ∈ G n := by simpa using hp
    obtain ⟨_, i, hi, hit⟩ := (states_mono hst hle h0 n (Nat.le_refl _)).1 p.1 p.2 hp'
    have h1 := inv.typed i hi (hlo i hi) p.1 hit
    have h2 := states_after hst hS p.1 i hi hit (n - (i + 1)) (by omega)
    rw [show i + 1 + (n - (i + 1)) = n from by omega] at h2
    unfold okAt at h1
    rw [← h2.2, states_get hst hS h0 n (Nat.le_refl _) p.1 p.2 hp'] at h1
    exact h1) (hfin w inv.bel)
  have hab : a' = b := by
    refine act_ext (by rw [hd', hsz.2, inv.defers]) fun t => ?_
    rcases hsl t with ⟨h1, h2⟩ | ⟨_, h1⟩
    · have hgn : (G n).get t = none := by
        cases hgt : (G n).get t with
        | none => rfl
        | some T' => exact (h2 (t, T') (by simpa using get_mem hgt) rfl).elim
      rw [h1]
      by_cases hex : ∃ i, i < n ∧ dstOf ops i = some t
      · obtain ⟨i, hi, hit⟩ := hex
        have h3 := inv.typed i hi (hlo i hi) t hit
        have h4 := states_after hst hS t i hi hit (n - (i + 1)) (by omega)
        rw [show i + 1 + (n - (i + 1)) = n from by omega] at h4
        unfold okAt at h3
        rw [← h4.2, hgn] at h3
        rw [h4.1]; exact h3.symm
      · have hno : ∀ i, i < n → dstOf ops i ≠ some t := fun i hi h => hex ⟨i, hi, h⟩
        rw [(states_before hst hle t n (Nat.le_refl _) hno).1, inv.rest t fun i hi _ => hno i hi]
    · exact h1
  rw [hab] at hK
  have hl : (ops.toList.drop n).length = fuel := by simp; omega
  have := wpAny_tailF (r := r) (m := m) hS (Q := Q) (ops.toList.drop n) n listed b w (Nat.le_refl _) (by simp; omega) (fun j => by simp [List.getElem?_drop]) inv.size inv.closed hlo inv.tail hK
  rw [hl] at this
  exact this
theorem wpAny_headF (hS : Shape ops n) (hst : ∀ j o, ops[j]? = some o → j < n → StepX P ops w0 o (A j) (G j) (A (j + 1)) (G (j + 1))) (h0 : G 0 = []) {Q : Exit → Act → World → Prop} (hnd : ∀ (i : Nat) (o : Oper), i < n → ops[i]? = some o → noDefer o = true) (hfin : finF r m P ops w0 Q n (A n) (G n)) :
    ∀ (fuel : Nat) (listed : Array Bool) (b : Act) (w : World), Inv ops w0 n A G listed b w → unl n listed + (ops.size - n) = fuel → wpAnyIn (FW r) m P .any ops Q fuel listed b w := by
  have hle := hS.le
  intro fuel
  induction fuel with
  | zero =>
    intro listed b w inv hf
    exact wpAny_all_listedF hS hst h0 hfin inv hf (by omega)
  | succ fuel ih =>
    intro listed b w inv hf
    by_cases hz : unl n listed = 0
    · exact wpAny_all_listedF hS hst h0 hfin inv hf hz
    · obtain ⟨i0, hi0, hi0u, hi0l⟩ := unl_some n hz
      have hready : i0 ∈ Region.ready .any ops listed := by
        rw [mem_ready]
        have ho : ops[i0]? = some ops[i0] := Array.getElem?_eq_getElem (by omega)
        refine ⟨getD_true_of_false (by rw [inv.size]; omega) hi0u, _, ho, fun e he hb => hi0l _ (hS.low i0 e.on (by omega) ?_)⟩
        unfold edges
        simp only [ho, List.mem_map, List.mem_filter]
        exact ⟨e, ⟨by simpa using he, hb⟩, rfl⟩
      refine ⟨fun hn => (by rw [hn] at hready; cases hready), fun j hj => ?_⟩
      obtain ⟨hj0, ⟨o, ho⟩, hedge⟩ := ready_edges hj
      have hjs : j < ops.size := (Array.getElem?_eq_some_iff.1 ho).1
      have hun := (getD_false_of_true hj0).1
      have hjn : j < n := by
        rcases Nat.lt_or_ge j n with h | h
        · exact h
        · have := reach_listed inv.closed 5000 (edges ops j) [] hedge (fun x hx => by cases hx) i0 (hS.tail j i0 hjs h (by omega))
          rw [hi0u] at this; cases this
      have hdj : dstOf ops j = o.dst := by unfold dstOf; rw [ho]; rfl
      have hlj : looksOf ops j = o.looksAt ops := by unfold looksOf; rw [ho]
      -- what the operation looks at
      have hlook : ∀ t ∈ o.looksAt ops, okAt (G j) (A j) w t b := by
        intro t ht
        by_cases hex : ∃ i, i < j ∧ dstOf ops i = some t
        · obtain ⟨i, hij, hit⟩ := hex
          have hr := (hS.pre i j t (by omega) hjn hit (by rw [hlj]; exact ht)).1 hij
          have hli := reach_listed inv.closed 5000 (edges ops j) [] hedge (fun x hx => by cases hx) i hr
          have h1 := inv.typed i (by omega) hli t hit
          have h2 := states_after hst hS t i (by omega) hit (j - (i + 1)) (by omega)
          rw [show i + 1 + (j - (i + 1)) = j from by omega] at h2
          unfold okAt at h1 ⊢
          rw [h2.1, h2.2]; exact h1
        · have hno : ∀ i, i < j → dstOf ops i ≠ some t := fun i hi h => hex ⟨i, hi, h⟩
          have h1 := states_before hst hle t j (by omega) hno
          have h2 := inv.rest t (fun i hi hl h => by
            have hij : ¬ i < j := fun hh => hno i hh h
            obtain ⟨hne, hr⟩ := (hS.pre i j t hi hjn h (by rw [hlj]; exact ht)).2 hij
            have := reach_listed inv.closed 5000 (edges ops i) [] (fun x hx => inv.closed i hl x hx) (fun x hx => by cases hx) j hr
            rw [hun] at this; cases this)
          unfold okAt
          rw [h1.2, h0]
          simp only [Env.get, List.find?_nil, Option.map_none]
          rw [h2, h1.1]
      have hnext : ∀ (v : Value) (w' : World), Below w.heap.size w w' → (∀ t, o.dst = some t → okAt (G (j + 1)) (A (j + 1)) w' t (b.put o.dst v)) → wpAnyIn (FW r) m P .any ops Q fuel (listed.setIfInBounds j true) (b.put o.dst v) w' :=
        fun v w' hb hv => ih _ _ _ (inv.step hS hst h0 hjn ho hun hedge hb v hv) (by
          have := unl_set (by rw [inv.size]; exact hjs) hun n hjn
          omega)
      have hszj := states_size hst hle j (by omega)
      have hbs : (A j).tmps.size = b.tmps.size := by rw [hszj.1, inv.bs]
      refine opFW (R := fun _ _ => True) (fun o ho => hnd j o hjn ho) ?_
      unfold wpOp
      simp only [ho]
      have hconst : ∀ v, (A (j + 1)) = (A j).put o.dst v → G (j + 1) = G j → ∀ w' t, o.dst = some t → okAt (G (j + 1)) (A (j + 1)) w' t (b.put o.dst v) := by
        intro v ha hg w' t ht
        have hno : ∀ i, i < j → dstOf ops i ≠ some t := fun i hi h => hS.dist i j t (by omega) hjn h (by omega) (by rw [hdj]; exact ht)
        have h1 := states_before hst hle t j (by omega) hno
        unfold okAt
        rw [hg, h1.2, h0]
        simp only [Env.get, List.find?_nil, Option.map_none]
        rw [ha, ht]
        exact put_same_size hbs t v
      rcases hst j o ho hjn with ⟨hrel, hg, hcase⟩ | ⟨d, T, hd, hdlt, hm, hobl, ha, hg⟩ | ⟨X, hobl, ha, hg⟩
      · have hsame : ∀ t ∈ o.looksAt ops, b.tmps[t]? = (A j).tmps[t]? := by
          intro t ht
          have h1 := hlook t ht
          unfold okAt at h1
          rw [relOf_nil hrel ht] at h1
          exact h1
        rw [wanted_same hsame]
        rcases hcase with ⟨hw, v, hv, ha⟩ | ⟨hw, ha⟩
        · rw [if_pos hw]
          left
          have hx := hv (⟨w, inv.bel⟩ : Ext w0)
          have hex := exec_same (ops := ops) (Region.noSelect_spec hS.nosel j o · · ho) hsame
          have hnx := fun w' hb => hnext v w' hb (hconst v ha hg w')
          unfold constAt at hx
          rw [← hex] at hx
          unfold Oper.wp
          change constUpon P w v ((execOp b.eval o).run P w) at hx
          generalize (execOp b.eval o).run P w = r at hx
          cases r with
          | ok nx w' =>
            cases nx <;> simp only [constUpon] at hx <;> simp only [Oper.upon]
            case value u =>
              obtain ⟨e1, e2⟩ := hx
              rw [e1, e2]; exact hnx w (Below.refl _ _)
            case skip =>
              obtain ⟨e1, e2⟩ := hx
              rw [e1, ← e2]; exact hnx w (Below.refl _ _)
            case enter f args =>
              obtain ⟨e1, hc⟩ := hx
              rw [e1]
              exact hc.mono fun e w'' ⟨he, hb⟩ => by subst he; exact hnx w'' hb
          | halt x w' => simp only [constUpon] at hx
        · rw [if_neg (by rw [hw]; simp)]
          exact hnext undef w (Below.refl _ _) (hconst undef ha hg w)
      · obtain ⟨a', ⟨hwa, hgood⟩, _, _, hsl⟩ := forallRel_at (b := b) (relOf (G j) (o.looksAt ops)) (A j) _ hbs (fun p hp => by
          obtain ⟨hp1, hp2⟩ := List.mem_filter.1 hp
          have h1 := hlook p.1 (by simpa using hp2)
          unfold okAt at h1
          rw [states_get hst hS h0 j (by omega) p.1 p.2 hp1] at h1
          exact h1) (hobl w inv.bel)
        have hsame : ∀ t ∈ o.looksAt ops, b.tmps[t]? = a'.tmps[t]? := by
          intro t ht
          rcases hsl t with ⟨h1, h2⟩ | ⟨_, h1⟩
          · have hgn : (G j).get t = none := by
              cases hgt : (G j).get t with
              | none => rfl
              | some T' => exact (h2 (t, T') (List.mem_filter.2 ⟨get_mem hgt, by simpa using ht⟩) rfl).elim
            have h3 := hlook t ht
            unfold okAt at h3
            rw [hgn] at h3
            rw [h1]; exact h3
          · exact h1.symm
        have hw : Region.wanted o (yielded ops b.tmps) = true := by rw [wanted_same hsame]; exact hwa
        rw [if_pos hw]
        left
        have hex := exec_same (ops := ops) (Region.noSelect_spec hS.nosel j o · · ho) hsame
        have hnx : ∀ u w', Below w.heap.size w w' → T u w' → wpAnyIn (FW r) m P .any ops Q fuel (listed.setIfInBounds j true) (b.put o.dst u) w' := fun u w' hb hT =>
          hnext u w' hb (fun t ht => by
            have htd : d = t := by rw [hd] at ht; exact Option.some.inj ht
            subst htd
            unfold okAt
            rw [hg]
            have : Env.get ((d, T) :: G j) d = some T := by simp [Env.get]
            rw [this, hd]
            exact ⟨u, put_same _ _ _ (by rw [← hbs]; exact hdlt), hT⟩)
        unfold Oper.wp
        rw [hex]
        generalize (execOp a'.eval o).run P w = r at hgood
        cases r with
        | ok nx w' =>
          cases nx <;> simp only [goodUpon] at hgood <;> simp only [Oper.upon]
          case value u => exact hnx u w' hgood.1 hgood.2
          case skip => exact hnx undef w' hgood.1 hgood.2
          case enter f args =>
            obtain ⟨e1, hc⟩ := hgood
            rw [e1]
            exact hc.mono fun e w'' ⟨v, he, hT, hb⟩ => by subst he; exact hnx v w'' hb hT
        | halt x w' => simp only [goodUpon] at hgood
      · obtain ⟨a', ⟨hwa, hgood⟩, _, _, hsl⟩ := forallRel_at (b := b) (relOf (G j) (o.looksAt ops)) (A j) _ hbs (fun p hp => by
          obtain ⟨hp1, hp2⟩ := List.mem_filter.1 hp
          have h1 := hlook p.1 (by simpa using hp2)
          unfold okAt at h1
          rw [states_get hst hS h0 j (by omega) p.1 p.2 hp1] at h1
          exact h1) (hobl w inv.bel)
        have hsame : ∀ t ∈ o.looksAt ops, b.tmps[t]? = a'.tmps[t]? := by
          intro t ht
          rcases hsl t with ⟨h1, h2⟩ | ⟨_, h1⟩
          · have hgn : (G j).get t = none := by
              cases hgt : (G j).get t with
              | none => rfl
              | some T' => exact (h2 (t, T') (List.mem_filter.2 ⟨get_mem hgt, by simpa using ht⟩) rfl).elim
            have h3 := hlook t ht
            unfold okAt at h3
            rw [hgn] at h3
            rw [h1]; exact h3
          · exact h1.symm
        have hw : Region.wanted o (yielded ops b.tmps) = true := by rw [wanted_same hsame]; exact hwa
        rw [if_pos hw]
        left
        have hex := exec_same (ops := ops) (Region.noSelect_spec hS.nosel j o · · ho) hsame
        have hnx : ∀ u w', Below w.heap.size w w' → u = X → wpAnyIn (FW r) m P .any ops Q fuel (listed.setIfInBounds j true) (b.put o.dst u) w' := fun u w' hb hT =>
          hnext u w' hb (by rw [hT]; exact hconst X ha hg w')
        unfold Oper.wp
        rw [hex]
        generalize (execOp a'.eval o).run P w = r at hgood
        cases r with
        | ok nx w' =>
          cases nx <;> simp only [goodUpon] at hgood <;> simp only [Oper.upon]
          case value u => exact hnx u w' hgood.1 hgood.2
          case skip => exact hnx undef w' hgood.1 hgood.2
          case enter f args =>
            obtain ⟨e1, hc⟩ := hgood
            rw [e1]
            exact hc.mono fun e w'' ⟨v, he, hT, hb⟩ => by subst he; exact hnx v w'' hb hT
        | halt x w' => simp only [goodUpon] at hgood
end
/-- A drawn region, its first operations typed, the others walked in the fence. -/
theorem regionFW_tail (w0 : World) (k : Nat) {id : Nat} {Q : Exit → Act → World → Prop} {a : Act} {w : World} {l : List Oper} (hm : P.follows .mixedOrders = true) (hB : typedB l.toArray k = true) (hd : (l.take k).all noDefer = true) (hw : Below w0.heap.size w0 w)
    (h : wpX P l.toArray w0 (finF r m P l.toArray w0 Q k) (l.take k) a []) : (Code.region id l.toArray true).wpIn (FW r) m P Q a w := by
  refine wpIn_region_any hm ?_
  have hS := shape_of hB
  obtain ⟨A, G, hA, hG, hf, hst⟩ := seqX (l.take k) a [] h
  have hlen : (l.take k).length = k := by have := hS.le; simp at this; simp; omega
  rw [hlen] at hf
  have hst' : ∀ j o, l.toArray[j]? = some o → j < k → StepX P l.toArray w0 o (A j) (G j) (A (j + 1)) (G (j + 1)) := fun j o hj hjn => hst j o (by simpa [List.getElem?_take, hjn] using hj)
  have hnd : ∀ (i : Nat) (o : Oper), i < k → l.toArray[i]? = some o → noDefer o = true := fun i o hi ho => by
    rw [List.all_eq_true] at hd
    have ho' : (l.take k)[i]? = some o := by simpa [List.getElem?_take, hi] using ho
    exact hd o (List.mem_of_getElem? ho')
  refine wpAny_headF hS hst' hG hnd hf _ _ _ _ ⟨by simp, fun j hj => ?_, ⟨hw.os, hw.tape, hw.output, hw.size, hw.block⟩, by rw [hA], by rw [hA], fun i _ hl => ?_, fun t _ => by rw [hA], fun i _ => getD_replicate_false _ _⟩ ?_
  · rw [getD_replicate_false] at hj; cases hj
  · rw [getD_replicate_false] at hl; cases hl
  · have : ∀ k, unl k (Array.replicate l.toArray.size false) = k := by
      intro k
      induction k with
      | zero => rfl
      | succ k ih => unfold unl; rw [ih, getD_replicate_false]; simp
    rw [this]
    have := hS.le
    omega
end
end Go.Proofs.Ytljbbpcnoajfeaa
