/- seats.book. -/
import Derived.Test.YtffkjjpjfehcnaaDoorVote2
import Derived.WalkKit
set_option linter.unusedSimpArgs false
set_option linter.unusedVariables false
namespace Go.Proofs.YtffkjjpjfehcnaaDoor
open Go.RowKit
theorem aggVote : Agg Tryd.prog 34 33 := ⟨_, Tryd.underlying34, rfl, by kernel_rfl⟩
def SBv (g : Nat) (v : Vt) : World → Prop := fun u => Blk 34 u g (vtc v)
set_option maxHeartbeats 2000000 in
set_option maxRecDepth 100000 in
theorem book_any (a : Option Addr) (n c : Nat) (l : List Vt) (hn : l.length = n) (hs : n ≤ 140737488355328) (hl : ∀ v ∈ l, v.Ok) (w : World) (h : RowOf vtc 33 w (.slice a n c) l) :
    Calls Tryd.prog 11 #[.slice a n c] w fun e w' => ∃ B, e = .returned (.map (some B)) ∧ MapV w' B l ∧ Below w.heap.size w w' := by
  have Hn := Lib.hid hn
  have Hl := Lib.hid hl
  have hmm := @run_makeMap Tryd.prog
  have hM0 := MapV.made w
  have hb0 : Below w.heap.size w (w.alloc (.map #[] 0)) := (Below.refl _ _).alloc (Nat.le_refl _) _
  clear hn hl
  go_enter Tryd.func11, Tryd.ntmps11
  go_wp2_with fail
  clear hmm
  obtain ⟨B, hB⟩ : ∃ B, B = w.heap.size := ⟨_, rfl⟩
  rw [← hB] at hM0
  rw [← hB]
  have hlB : w.heap.size ≤ B := Nat.le_of_eq hB.symm
  clear hB
  try simp only [Act.put]
  go_loopw [9] (fun ix wr => ∃ i : Nat, i ≤ n ∧ ix = .int .i64 (i : Int) ∧ MapV wr B (l.take i) ∧ Below w.heap.size w wr) (fun ix _ => n - (intOf ix).toNat)
  case atStart => exact ⟨0, by omega, rfl, hM0, hb0⟩
  case round =>
    clear hM0 hb0
    obtain ⟨i, hi, rfl, hM, hb⟩ := hrel
    by_cases hlt : i < n
    · have hki : (i : Int) < (n : Int) := by omega
      have hl1 : i < l.length := by rw [Hn.out]; exact hlt
      obtain ⟨b2, off2, rfl, hr⟩ := RowOf.range vtc_len (h.below hb) i hl1
      have hok := Hl.out _ (List.getElem_mem hl1)
      have hnext : l.take (i + 1) = l.take i ++ [l[i]] := List.take_succ_eq_append_getElem hl1
      generalize l[i] = v at *
      have Hnext := Lib.hid hnext
      have Hok := Lib.hid hok
      have hvl := vtc_len v
      have hlen : (l.take i).length = i := by rw [List.length_take]; omega
      have Hlen := Lib.hid hlen
      clear hnext hok hl1 hlen
      go_wp2_with (first
        | (refine wpList_load_mid (op := ⟨some 12, _, _, _, _, _⟩) (by rfl) 34 (.tmp 11) (by rfl) b2 (off2 + i * 33) (by rfl) (vtc v) _ hr Tryd.underlying34 rfl (by rw [hvl]; kernel_rfl) ?_)
        | ((with_reducible show wpList _ _ _ (⟨none, Op.store _ _ (Operand.tmp 12), _, _, _, _⟩ :: _) _ _); refine wpList_storeA (o := ⟨none, _, _, _, _, _⟩) (by rfl) 34 (.tmp 5) (.tmp 12) (by rfl) wr.heap.size (vtc v) (by rfl) (by rfl) aggVote (Blk.newA wr 34 _) hvl (by first | rfl | kernel_rfl) (vtc_one v) ((Below.refl wr.heap.size wr).alloc (Nat.le_refl _) _) (Nat.le_refl _) ?_; intro w6 h6 b6 _; have hM6 := hM.kept b6; have hb6 := Below.then hb b6))
      simp only [Act.put, List.setIfInBounds_toArray, List.set_cons_zero, List.set_cons_succ]
      have hne : B ≠ wr.heap.size := Nat.ne_of_lt hM.lt
      clear hM hr b6
      refine wp_region_via (fun aa b w' => ∃ (c st : Nat) (v0 : Value), b = ((((((aa.put (some 13) (.map (some B))).put (some 14) (.agg (vtc v).toArray)).put (some 15) (.int .i64 (c : Int))).put (some 16) (.int .i64 ((c : Int) + 1))).put (some 17) (.tuple #[v0, .int .i64 (st : Int)])).put (some 18) (.int .i64 (st : Int))) ∧ MapV w' B (l.take (i + 1)) ∧ Below w.heap.size w w') ?_ ?_
      · refine wp_region_h (SBv wr.heap.size v) (by kernel_rfl) ?_; intro u0 hu0; simp only [List.length_cons, List.length_nil, Nat.reduceAdd, List.replicate_succ, List.replicate_zero]
        have hM0 : MapV u0 B (l.take i) := by rw [hu0]; exact hM6.kept (Below.refl _ _).drew
        have hb0 : Below w.heap.size w u0 := by rw [hu0]; exact hb6.drew
        have hT : SBv wr.heap.size v u0 := by rw [hu0]; exact h6
        clear hu0 hM6 hb6 h6
        obtain ⟨c, st, v0, w1, hcl, k1, k2, g1, k3, w2, k4, g2, hM2⟩ := hM0.step Hok.out
        have hcw : IntKind.i64.wrap ((c : Int) + 1) = (c : Int) + 1 := IntWalk.i64_in _ (by have := Hlen.out; omega)
        have hBn : B ≠ wr.heap.size := hne
        have hT1 : SBv wr.heap.size v w1 := Blk.grown hT g1 (by intro e; injection e; omega)
        have hT2 : SBv wr.heap.size v w2 := Blk.grown hT1 g2 (by intro e; injection e; omega)
        have hb2 : Below w.heap.size w w2 := (hb0.grown g1 hb0.size (fun k hk => by cases hk; omega)).grown g2 (Nat.le_trans hb0.size g1.size) (fun k hk => by cases hk; omega)
        rw [← Hnext.out] at hM2
        (refine wpH_take 0 (by rfl) (by kernel_rfl) (by intro _ _ _ h; first | exact h | (cases h.1)) (by intro _ _ _ _ h; first | exact h | (cases h.1)) (by assumption) (fun K hK => ?_); simp only [List.setIfInBounds_toArray, List.set_cons_zero, List.set_cons_succ] at hK; go_simp; first | (refine hK _ ?_; clear hK K) | (apply Exists.intro; refine ⟨fun _ => rfl, hK _ ?_⟩; clear hK K))
        (refine wpH_take 1 (by rfl) (by kernel_rfl) (by intro _ _ _ h; first | exact h | (cases h.1)) (by intro _ _ _ _ h; first | exact h | (cases h.1)) (by assumption) (fun K hK => ?_); simp only [List.setIfInBounds_toArray, List.set_cons_zero, List.set_cons_succ] at hK; refine take_loadA (by rfl) 34 (.tmp 5) (by rfl) wr.heap.size (by rfl) aggVote (fun u hu => hu) hvl (hK _ ?_); clear hK K; simp only [Act.put, List.getElem_toArray, List.getElem_cons_zero, List.getElem_cons_succ, List.setIfInBounds_toArray, List.set_cons_zero, List.set_cons_succ])
        refine wpH_all [2, 4] (by kernel_rfl) (by simp) ?_
        intro i hi
        simp only [List.mem_cons, List.not_mem_nil, or_false] at hi
        rcases hi with rfl | rfl
        · (refine brH_of (i := 2) (by rfl) (fun K hK => ?_); simp only [List.setIfInBounds_toArray, List.set_cons_zero, List.set_cons_succ] at hK; go_simp)
          refine hK _ _ hT ?_; clear hK K
          (refine wpH_take 3 (by rfl) (by kernel_rfl) (by intro _ _ _ h; first | exact h | (cases h.1)) (by intro _ _ _ _ h; first | exact h | (cases h.1)) (by assumption) (fun K hK => ?_); simp only [List.setIfInBounds_toArray, List.set_cons_zero, List.set_cons_succ] at hK; go_simp; first | (refine hK _ ?_; clear hK K) | (apply Exists.intro; refine ⟨fun _ => rfl, hK _ ?_⟩; clear hK K))
          (refine wpH_only 4 (by rfl) (by kernel_rfl) (fun K hK => ?_); simp only [List.setIfInBounds_toArray, List.set_cons_zero, List.set_cons_succ] at hK; go_simp)
          refine hK _ _ hT1 ?_; clear hK K
          (refine wpH_take 5 (by rfl) (by kernel_rfl) (by intro _ _ _ h; first | exact h | (cases h.1)) (by intro _ _ _ _ h; first | exact h | (cases h.1)) (by assumption) (fun K hK => ?_); simp only [List.setIfInBounds_toArray, List.set_cons_zero, List.set_cons_succ] at hK; go_simp; first | (refine hK _ ?_; clear hK K) | (apply Exists.intro; refine ⟨fun _ => rfl, hK _ ?_⟩; clear hK K))
          (refine wpH_only 6 (by rfl) (by kernel_rfl) (fun K hK => ?_); simp only [List.setIfInBounds_toArray, List.set_cons_zero, List.set_cons_succ] at hK; go_simp)
          refine hK _ _ hT2 ?_; clear hK K
          exact wpH_done (by kernel_rfl) ⟨rfl, c, st, v0, rfl, hM2, hb2⟩
        · (refine brH_of (i := 4) (by rfl) (fun K hK => ?_); simp only [List.setIfInBounds_toArray, List.set_cons_zero, List.set_cons_succ] at hK; go_simp)
          refine hK _ _ hT1 ?_; clear hK K
          (refine wpH_take 5 (by rfl) (by kernel_rfl) (by intro _ _ _ h; first | exact h | (cases h.1)) (by intro _ _ _ _ h; first | exact h | (cases h.1)) (by assumption) (fun K hK => ?_); simp only [List.setIfInBounds_toArray, List.set_cons_zero, List.set_cons_succ] at hK; go_simp; first | (refine hK _ ?_; clear hK K) | (apply Exists.intro; refine ⟨fun _ => rfl, hK _ ?_⟩; clear hK K))
          (refine wpH_only 2 (by rfl) (by kernel_rfl) (fun K hK => ?_); simp only [List.setIfInBounds_toArray, List.set_cons_zero, List.set_cons_succ] at hK; go_simp)
          refine hK _ _ hT1 ?_; clear hK K
          (refine wpH_take 3 (by rfl) (by kernel_rfl) (by intro _ _ _ h; first | exact h | (cases h.1)) (by intro _ _ _ _ h; first | exact h | (cases h.1)) (by assumption) (fun K hK => ?_); simp only [List.setIfInBounds_toArray, List.set_cons_zero, List.set_cons_succ] at hK; go_simp; first | (refine hK _ ?_; clear hK K) | (apply Exists.intro; refine ⟨fun _ => rfl, hK _ ?_⟩; clear hK K))
          (refine wpH_only 6 (by rfl) (by kernel_rfl) (fun K hK => ?_); simp only [List.setIfInBounds_toArray, List.set_cons_zero, List.set_cons_succ] at hK; go_simp)
          refine hK _ _ hT2 ?_; clear hK K
          exact wpH_done (by kernel_rfl) ⟨rfl, c, st, v0, rfl, hM2, hb2⟩
      · rintro b w9 ⟨c, st, v0, rfl, hM9, hb9⟩
        simp only [Act.put, List.setIfInBounds_toArray, List.set_cons_zero, List.set_cons_succ]
        go_wp2_with fail
        go_roundw
        case rel => exact ⟨i + 1, by omega, by go_num, hM9, hb9⟩
        case measure => simp [intOf]; omega
    · obtain rfl : i = n := by omega
      rw [List.take_of_length_le (by rw [Hn.out]; exact Nat.le_refl _)] at hM
      go_wp2_with fail
      go_ret
      exact ⟨B, rfl, hM, hb⟩
end Go.Proofs.YtffkjjpjfehcnaaDoor
