/- memory.Grow. -/
import Derived.Test.YtakhaanenlblmaaMem5
import Derived.Test.YtakhaanenlblmaaBut2
import Derived.Test.YtakhaanenlblmaaOff
set_option linter.unusedSimpArgs false
set_option linter.unusedVariables false
namespace Go.Proofs.Ytakhaanenlblmaa
open Go.RowKit
theorem step_appZ {w : World} {ops : Array Oper} {o : Oper} {a : Act} {K : Act → World → Prop} {Q : Exit → Act → World → Prop} {E : Prop} (hgd : o.guard = none) (s x : Operand)
    (ho : o.op = .call { callee := .builtin .append, args := #[s, x], argTypes := #[22, 3] }) {B : Nat} {v : Value} {l : List UInt8} (m : Nat) (hm : 0 < m) (hs : a.eval s = v) (hx : a.eval x = .int .i64 (m : Int)) (hown : OwnOf b8 1 5 w B v l)
    (hB : B ≤ w.heap.size) (hb : l.length + m ≤ 140737488355328)
    (h : ∀ v' w', OwnOf b8 1 5 w' B v' (l ++ List.replicate m 0) → w.grownBy w' v.ownBlock → (∀ k, v'.ownBlock = some k → v.ownBlock = some k ∨ w.heap.size ≤ k) → K (a.put o.dst v') w') : if Region.wanted o (yielded ops a.tmps) then o.wp Try.prog a w K Q else E := by
  have hw : Region.wanted o (yielded ops a.tmps) = true := by simp [Region.wanted, hgd]
  rw [if_pos hw]
  obtain ⟨i, hi, hz, hsi, hby⟩ := elU8.info
  obtain ⟨v', w', hr, h2, h3, h4⟩ := run_append_ownZ (P := Try.prog) w B 22 3 o.type 5 i (.int .u8 0) 1 1 elU8.ht Try.underlying3 hi hz hsi hby rfl (by omega) v l.length (l.flatMap b8) hown m hm (by rw [zeroCells_u8, flat_b8]; intro u hu; obtain ⟨y, _, rfl⟩ := List.mem_map.1 hu; rfl) (by unfold maxLen; omega) (by omega) hB
  rw [zeroCells_u8, ← List.flatMap_append] at h2
  have h2' : OwnOf b8 1 5 w' B v' (l ++ List.replicate m 0) := by
    unfold OwnOf
    rw [List.length_append, List.length_replicate]
    exact h2
  unfold Oper.wp execOp
  simp only [ho, resolve, invoke, builtin, Sem.run_bind, Sem.run_pure, Result.andThen_ok, List.map_toArray, List.map_cons, List.map_nil, hs, hx, hr]
  exact h v' w' h2' h3 h4
def growM (M : List UInt8) (s : Nat) : List UInt8 := M ++ List.replicate (s - M.length) 0
theorem growM_len (M : List UInt8) (s : Nat) : (growM M s).length = max M.length s := by unfold growM; rw [List.length_append, List.length_replicate]; omega
/-- the program's memory: its cell's block, and a row of its own -/
structure MemAt (w : World) (g B : Nat) (v : Value) (M : List UInt8) : Prop where
  z : Blk 116 w g [v]
  o : OwnOf b8 1 5 w B v M
theorem MemAt.kept {w w' : World} {g B : Nat} {v : Value} {M : List UInt8} (h : MemAt w g B v M) (hb : Below w.heap.size w w') : MemAt w' g B v M := ⟨h.z.kept hb, h.o.kept hb⟩
theorem MemAt.ne {w : World} {g B : Nat} {v : Value} {M : List UInt8} (h : MemAt w g B v M) : v.ownBlock ≠ some g := h.o.notT h.z (by decide)
set_option maxHeartbeats 2000000 in
set_option maxRecDepth 100000 in
theorem grow_any (g B : Nat) (v : Value) (M : List UInt8) (s : Nat) (hs : s ≤ 4096) (hM : M.length ≤ 4096) (w : World) (hm : MemAt w g B v M) (hB : B ≤ w.heap.size) :
    Calls Try.prog 105 #[.pointer (some ⟨g, 0, none⟩), .int .i64 (s : Int)] w fun e w' => e = .returned (.int .u64 (priceN M.length s : Int)) ∧ ∃ v', MemAt w' g B v' (growM M s) ∧ But2 g v w w' ∧ ∀ k, v'.ownBlock = some k → v.ownBlock = some k ∨ w.heap.size ≤ k := by
  obtain ⟨a, c, rfl, _⟩ := hm.o.form
  obtain ⟨n, hn⟩ : ∃ n, n = M.length := ⟨_, rfl⟩
  rw [← hn] at hm ⊢
  have hz := hm.z
  have ho := hm.o
  have hne := hm.ne
  have pc := Lib.hid fun u hu => price_any g a n c s hs (by omega) u hu
  obtain ⟨R, hR⟩ : ∃ R, R = priceN n s := ⟨_, rfl⟩
  rw [← hR] at pc ⊢
  by_cases h : s ≤ n
  · have hi : ¬ (n : Int) < (s : Int) := by omega
    have hg : growM M s = M := by unfold growM; rw [show s - M.length = 0 from by omega]; simp
    rw [hg]
    clear hg hn hR hM
    go_enter Try.func105, Try.ntmps105
    go_wp2_with (go_at_call 168; refine (pc.out _ hz).mono ?_; rintro e w2 ⟨rfl, b2⟩; have c0 : w2.cell? ⟨g, 0, none⟩ = some (.slice a n c) := (hz.kept b2).cell 0)
    go_ret
    exact ⟨rfl, _, ⟨hz.kept b2, ho.kept b2⟩, (But2.refl _ _ _).kept b2, fun k hk => .inl hk⟩
  · have hi : (n : Int) < (s : Int) := by omega
    obtain ⟨m, hmm⟩ : ∃ m, m = s - n := ⟨_, rfl⟩
    have hsub : IntKind.i64.wrap ((s : Int) - (n : Int)) = (m : Int) := by rw [IntWalk.i64_in _ (by omega)]; omega
    have hg : growM M s = M ++ List.replicate m 0 := by unfold growM; rw [← hn, ← hmm]
    rw [hg]
    have Hm := Lib.hid (show 0 < m ∧ M.length + m ≤ 140737488355328 from ⟨by omega, by omega⟩)
    have HR := Lib.hid hR
    clear hg hn hR hM hmm h hs
    go_enter Try.func105, Try.ntmps105
    go_upto_region 3 with (go_at_call 168; refine (pc.out _ hz).mono ?_; rintro e w2 ⟨rfl, b2⟩; have c0 : w2.cell? ⟨g, 0, none⟩ = some (.slice a n c) := (hz.kept b2).cell 0)
    have hz2 := hz.kept b2
    have ho2 := ho.kept b2
    have bt2 := (But2.refl g (.slice a n c) w).kept b2
    have hB2 : B ≤ w2.heap.size := Nat.le_trans hB b2.size
    refine wp_region_h ((fun _ => True)) (by kernel_rfl) ?_; intro u0 hu0; simp only [List.length_cons, List.length_nil, Nat.reduceAdd, List.replicate_succ, List.replicate_zero]
    have hz0 : Blk 116 u0 g [.slice a n c] := by rw [hu0]; exact hz2.drew
    have ho0 : OwnOf b8 1 5 u0 B (.slice a n c) M := by rw [hu0]; exact ho2.drew
    have bt0 : But2 g (.slice a n c) w u0 := by rw [hu0]; exact bt2.kept (Below.refl _ _).drew
    have hB0 : B ≤ u0.heap.size := by rw [hu0]; exact hB2
    have d0 : u0.cell? ⟨g, 0, none⟩ = some (.slice a n c) := hz0.cell 0
    have hT : (fun _ : World => True) u0 := trivial
    clear hu0 hz2 ho2 bt2 hB2 c0
    (refine wpH_take 0 (by rfl) (by kernel_rfl) (by intro _ _ _ h; first | exact h | (cases h.1)) (by intro _ _ _ _ h; first | exact h | (cases h.1)) (by assumption) (fun K hK => ?_); simp only [List.setIfInBounds_toArray, List.set_cons_zero, List.set_cons_succ] at hK; go_simp; first | (refine hK _ ?_; clear hK K) | (apply Exists.intro; refine ⟨fun _ => rfl, hK _ ?_⟩; clear hK K)); (refine wpH_take 1 (by rfl) (by kernel_rfl) (by intro _ _ _ h; first | exact h | (cases h.1)) (by intro _ _ _ _ h; first | exact h | (cases h.1)) (by assumption) (fun K hK => ?_); simp only [List.setIfInBounds_toArray, List.set_cons_zero, List.set_cons_succ] at hK; go_simp; first | (refine hK _ ?_; clear hK K) | (apply Exists.intro; refine ⟨fun _ => rfl, hK _ ?_⟩; clear hK K)); (refine wpH_take 5 (by rfl) (by kernel_rfl) (by intro _ _ _ h; first | exact h | (cases h.1)) (by intro _ _ _ _ h; first | exact h | (cases h.1)) (by assumption) (fun K hK => ?_); simp only [List.setIfInBounds_toArray, List.set_cons_zero, List.set_cons_succ] at hK; go_simp; first | (refine hK _ ?_; clear hK K) | (apply Exists.intro; refine ⟨fun _ => rfl, hK _ ?_⟩; clear hK K)); (refine wpH_take 6 (by rfl) (by kernel_rfl) (by intro _ _ _ h; first | exact h | (cases h.1)) (by intro _ _ _ _ h; first | exact h | (cases h.1)) (by assumption) (fun K hK => ?_); simp only [List.setIfInBounds_toArray, List.set_cons_zero, List.set_cons_succ] at hK; go_simp; first | (refine hK _ ?_; clear hK K) | (apply Exists.intro; refine ⟨fun _ => rfl, hK _ ?_⟩; clear hK K)); (refine wpH_take 2 (by rfl) (by kernel_rfl) (by intro _ _ _ h; first | exact h | (cases h.1)) (by intro _ _ _ _ h; first | exact h | (cases h.1)) (by assumption) (fun K hK => ?_); simp only [List.setIfInBounds_toArray, List.set_cons_zero, List.set_cons_succ] at hK; go_simp; first | (refine hK _ ?_; clear hK K) | (apply Exists.intro; refine ⟨fun _ => rfl, hK _ ?_⟩; clear hK K)); (refine wpH_take 3 (by rfl) (by kernel_rfl) (by intro _ _ _ h; first | exact h | (cases h.1)) (by intro _ _ _ _ h; first | exact h | (cases h.1)) (by assumption) (fun K hK => ?_); simp only [List.setIfInBounds_toArray, List.set_cons_zero, List.set_cons_succ] at hK; go_simp; first | (refine hK _ ?_; clear hK K) | (apply Exists.intro; refine ⟨fun _ => rfl, hK _ ?_⟩; clear hK K)); (refine wpH_take 7 (by rfl) (by kernel_rfl) (by intro _ _ _ h; first | exact h | (cases h.1)) (by intro _ _ _ _ h; first | exact h | (cases h.1)) (by assumption) (fun K hK => ?_); simp only [List.setIfInBounds_toArray, List.set_cons_zero, List.set_cons_succ] at hK; go_simp; first | (refine hK _ ?_; clear hK K) | (apply Exists.intro; refine ⟨fun _ => rfl, hK _ ?_⟩; clear hK K)); (refine wpH_take 8 (by rfl) (by kernel_rfl) (by intro _ _ _ h; first | exact h | (cases h.1)) (by intro _ _ _ _ h; first | exact h | (cases h.1)) (by assumption) (fun K hK => ?_); simp only [List.setIfInBounds_toArray, List.set_cons_zero, List.set_cons_succ] at hK; go_simp; first | (refine hK _ ?_; clear hK K) | (apply Exists.intro; refine ⟨fun _ => rfl, hK _ ?_⟩; clear hK K))
    refine wpH_all [4, 9] (by kernel_rfl) (by simp) ?_
    intro i hi
    simp only [List.mem_cons, List.not_mem_nil, or_false] at hi
    rcases hi with rfl | rfl
    · (refine brH_of (i := 4) (by rfl) (fun K hK => ?_); simp only [List.setIfInBounds_toArray, List.set_cons_zero, List.set_cons_succ] at hK; go_simp)
      refine hK _ _ trivial ?_; clear hK K
      (refine wpH_only 9 (by rfl) (by kernel_rfl) (fun K hK => ?_); simp only [List.setIfInBounds_toArray, List.set_cons_zero, List.set_cons_succ] at hK; go_simp)
      refine hK _ _ trivial ?_; clear hK K
      (refine wpH_take 10 (by rfl) (by kernel_rfl) (by intro _ _ _ h; first | exact h | (cases h.1)) (by intro _ _ _ _ h; first | exact h | (cases h.1)) (by assumption) (fun K hK => ?_); simp only [List.setIfInBounds_toArray, List.set_cons_zero, List.set_cons_succ] at hK; go_simp; first | (refine hK _ ?_; clear hK K) | (apply Exists.intro; refine ⟨fun _ => rfl, hK _ ?_⟩; clear hK K)); (refine wpH_take 11 (by rfl) (by kernel_rfl) (by intro _ _ _ h; first | exact h | (cases h.1)) (by intro _ _ _ _ h; first | exact h | (cases h.1)) (by assumption) (fun K hK => ?_); simp only [List.setIfInBounds_toArray, List.set_cons_zero, List.set_cons_succ] at hK; go_simp; first | (refine hK _ ?_; clear hK K) | (apply Exists.intro; refine ⟨fun _ => rfl, hK _ ?_⟩; clear hK K))
      (refine wpH_only 12 (by rfl) (by kernel_rfl) (fun K hK => ?_); simp only [List.setIfInBounds_toArray, List.set_cons_zero, List.set_cons_succ] at hK)
      refine step_appZ (by rfl) (.tmp 20) (.tmp 27) (by rfl) m Hm.out.1 (by rfl) (by rfl) ho0 hB0 Hm.out.2 (fun v3 w3 o3 g3 h3 => ?_)
      simp only [Act.put, List.getElem_toArray, List.getElem_cons_zero, List.getElem_cons_succ, List.setIfInBounds_toArray, List.set_cons_zero, List.set_cons_succ]
      refine hK _ _ trivial ?_; clear hK K
      have hz3 : Blk 116 w3 g [.slice a n c] := hz0.grown g3 hne
      have d3 : w3.cell? ⟨g, 0, none⟩ = some (.slice a n c) := hz3.cell 0
      have f3 : w3.frozen? ⟨g, 0, none⟩ = false := hz3.free 0
      have hT3 : (fun _ : World => True) w3 := trivial
      obtain ⟨a3, c3, e3, _⟩ := o3.form' (M.length + m) (by simp)
      subst e3
      (refine wpH_take 13 (by rfl) (by kernel_rfl) (by intro _ _ _ h; first | exact h | (cases h.1)) (by intro _ _ _ _ h; first | exact h | (cases h.1)) (by assumption) (fun K hK => ?_); simp only [List.setIfInBounds_toArray, List.set_cons_zero, List.set_cons_succ] at hK; go_simp; first | (refine hK _ ?_; clear hK K) | (apply Exists.intro; refine ⟨fun _ => rfl, hK _ ?_⟩; clear hK K)); (refine wpH_take 14 (by rfl) (by kernel_rfl) (by intro _ _ _ h; first | exact h | (cases h.1)) (by intro _ _ _ _ h; first | exact h | (cases h.1)) (by assumption) (fun K hK => ?_); simp only [List.setIfInBounds_toArray, List.set_cons_zero, List.set_cons_succ] at hK; go_simp; first | (refine hK _ ?_; clear hK K) | (apply Exists.intro; refine ⟨fun _ => rfl, hK _ ?_⟩; clear hK K))
      (refine wpH_only 15 (by rfl) (by kernel_rfl) (fun K hK => ?_); simp only [List.setIfInBounds_toArray, List.set_cons_zero, List.set_cons_succ] at hK; go_simp)
      refine hK _ _ trivial ?_; clear hK K
      refine wpH_done (by kernel_rfl) ?_
      go_wp2
      go_ret
      have hne3 := o3.notT hz3 (by decide)
      refine ⟨rfl, .slice a3 (M.length + m) c3, ⟨?_, ?_⟩, ?_, ?_⟩
      · exact hz3.set 0 _
      · exact o3.grown (grown_cell 0 _) (fun k hk e => hne3 (by cases hk; exact e))
      · exact ((bt0.grown g3 (fun k hk => .inr (.inl hk))).grown (grown_cell 0 _) (fun k hk => .inl (by cases hk; rfl)))
      · intro k hk
        exact (h3 k hk).imp id (fun h => Nat.le_trans bt0.size h)
    · (refine brH_of (i := 9) (by rfl) (fun K hK => ?_); simp only [List.setIfInBounds_toArray, List.set_cons_zero, List.set_cons_succ] at hK; go_simp)
      refine hK _ _ trivial ?_; clear hK K
      (refine wpH_take 10 (by rfl) (by kernel_rfl) (by intro _ _ _ h; first | exact h | (cases h.1)) (by intro _ _ _ _ h; first | exact h | (cases h.1)) (by assumption) (fun K hK => ?_); simp only [List.setIfInBounds_toArray, List.set_cons_zero, List.set_cons_succ] at hK; go_simp; first | (refine hK _ ?_; clear hK K) | (apply Exists.intro; refine ⟨fun _ => rfl, hK _ ?_⟩; clear hK K)); (refine wpH_take 11 (by rfl) (by kernel_rfl) (by intro _ _ _ h; first | exact h | (cases h.1)) (by intro _ _ _ _ h; first | exact h | (cases h.1)) (by assumption) (fun K hK => ?_); simp only [List.setIfInBounds_toArray, List.set_cons_zero, List.set_cons_succ] at hK; go_simp; first | (refine hK _ ?_; clear hK K) | (apply Exists.intro; refine ⟨fun _ => rfl, hK _ ?_⟩; clear hK K))
      (refine wpH_only 4 (by rfl) (by kernel_rfl) (fun K hK => ?_); simp only [List.setIfInBounds_toArray, List.set_cons_zero, List.set_cons_succ] at hK; go_simp)
      refine hK _ _ trivial ?_; clear hK K
      (refine wpH_only 12 (by rfl) (by kernel_rfl) (fun K hK => ?_); simp only [List.setIfInBounds_toArray, List.set_cons_zero, List.set_cons_succ] at hK)
      refine step_appZ (by rfl) (.tmp 20) (.tmp 27) (by rfl) m Hm.out.1 (by rfl) (by rfl) ho0 hB0 Hm.out.2 (fun v3 w3 o3 g3 h3 => ?_)
      simp only [Act.put, List.getElem_toArray, List.getElem_cons_zero, List.getElem_cons_succ, List.setIfInBounds_toArray, List.set_cons_zero, List.set_cons_succ]
      refine hK _ _ trivial ?_; clear hK K
      have hz3 : Blk 116 w3 g [.slice a n c] := hz0.grown g3 hne
      have d3 : w3.cell? ⟨g, 0, none⟩ = some (.slice a n c) := hz3.cell 0
      have f3 : w3.frozen? ⟨g, 0, none⟩ = false := hz3.free 0
      have hT3 : (fun _ : World => True) w3 := trivial
      obtain ⟨a3, c3, e3, _⟩ := o3.form' (M.length + m) (by simp)
      subst e3
      (refine wpH_take 13 (by rfl) (by kernel_rfl) (by intro _ _ _ h; first | exact h | (cases h.1)) (by intro _ _ _ _ h; first | exact h | (cases h.1)) (by assumption) (fun K hK => ?_); simp only [List.setIfInBounds_toArray, List.set_cons_zero, List.set_cons_succ] at hK; go_simp; first | (refine hK _ ?_; clear hK K) | (apply Exists.intro; refine ⟨fun _ => rfl, hK _ ?_⟩; clear hK K)); (refine wpH_take 14 (by rfl) (by kernel_rfl) (by intro _ _ _ h; first | exact h | (cases h.1)) (by intro _ _ _ _ h; first | exact h | (cases h.1)) (by assumption) (fun K hK => ?_); simp only [List.setIfInBounds_toArray, List.set_cons_zero, List.set_cons_succ] at hK; go_simp; first | (refine hK _ ?_; clear hK K) | (apply Exists.intro; refine ⟨fun _ => rfl, hK _ ?_⟩; clear hK K))
      (refine wpH_only 15 (by rfl) (by kernel_rfl) (fun K hK => ?_); simp only [List.setIfInBounds_toArray, List.set_cons_zero, List.set_cons_succ] at hK; go_simp)
      refine hK _ _ trivial ?_; clear hK K
      refine wpH_done (by kernel_rfl) ?_
      go_wp2
      go_ret
      have hne3 := o3.notT hz3 (by decide)
      refine ⟨rfl, .slice a3 (M.length + m) c3, ⟨?_, ?_⟩, ?_, ?_⟩
      · exact hz3.set 0 _
      · exact o3.grown (grown_cell 0 _) (fun k hk e => hne3 (by cases hk; exact e))
      · exact ((bt0.grown g3 (fun k hk => .inr (.inl hk))).grown (grown_cell 0 _) (fun k hk => .inl (by cases hk; rfl)))
      · intro k hk
        exact (h3 k hk).imp id (fun h => Nat.le_trans bt0.size h)
end Go.Proofs.Ytakhaanenlblmaa
