/- The walk of the statement TreePairs. -/
import Derived.Test.YtljbbpcnoajfeaaPrs9
set_option linter.unusedSimpArgs false
set_option linter.unusedVariables false
namespace Go.Proofs.Ytljbbpcnoajfeaa
open Go.RowKit
set_option maxHeartbeats 4000000 in
set_option maxRecDepth 100000 in
theorem treePairs_walk (t : Nd) (W : World) (hI : IsNd W t) (hb : bulkN t ≤ 1048576) :
    Calls Try.prog 3 #[.agg (ndcells t).toArray] W fun e w' => e = .returned (.bool true) ∧ Below W.heap.size W w' := by
  obtain ⟨w1, hw1⟩ : ∃ w1, w1 = W.alloc (.cells (ndcells t).toArray 25) := ⟨_, rfl⟩
  have hbel : Below W.heap.size W w1 := by rw [hw1]; exact (Below.refl _ _).alloc (Nat.le_refl _) _
  have r1 : w1.rangeAt W.heap.size 0 (ndcells t) := by rw [hw1]; exact (Blk.new W _ _).all0
  have hlen : ∀ xs : List Kvq, xs.map qtel = (if rgt 0 t then prsL ((rts t).getD []) else []) → xs.length ≤ 140737488355328 := fun xs h => by
    have h2 := congrArg List.length h
    rw [List.length_map] at h2
    by_cases hr : rgt 0 t = true
    · rw [if_pos hr] at h2
      obtain ⟨l, hl, _⟩ := rgt_fine hr
      rw [hl] at h2
      unfold prsL at h2
      simp only [Option.getD_some, List.length_map] at h2
      have := rts_len hl
      omega
    · rw [if_neg hr] at h2
      have h3 : xs.length = 0 := h2
      omega
  have c1 := tpairs_r t w1 (hI.kept hbel) hb
  have c2 := fun (u : World) (hu : Below W.heap.size W u) => gpairs_any t u (hI.kept hu) hb
  unfold PairsR at c1 c2
  obtain ⟨E, hE⟩ : ∃ E : Int, E = if rgt 0 t then 0 else 1 := ⟨_, rfl⟩
  obtain ⟨T, hT⟩ : ∃ T : List Rt, T = if rgt 0 t then prsL ((rts t).getD []) else [] := ⟨_, rfl⟩
  simp only [← hE, ← hT] at c1 c2 hlen
  obtain ⟨K, hK⟩ : ∃ K, K = ndcells t := ⟨_, rfl⟩
  have hKl : K.length = 4 := by rw [hK]; exact ndcells_len t
  rw [← hK] at r1 c1 hw1 ⊢
  simp only [← hK] at c2
  have hee : (E == E) = true := by simp
  have HWe := Lib.hid hw1
  have C1 := Lib.hid c1
  have C2 := Lib.hid c2
  have HLen := Lib.hid hlen
  have HKl := Lib.hid hKl
  have R1 := Lib.hid r1
  clear hw1 c1 c2 hlen hKl r1 hK hE hT hI hb
  go_enter Try.func3, Try.ntmps3
  go_wp2_with (first
    | (rw [← HWe.out])
    | ((with_reducible show wpList _ _ _ (⟨some 8, _, _, _, _, _⟩ :: _) _ _); refine wpList_loadW (o := ⟨some 8, _, _, _, _, _⟩) 25 (.tmp 1) (by rfl) W.heap.size 0 (by rfl) aggNode HKl.out R1.out (by rfl) ?_)
    | (go_at_call 7; (with_reducible refine C1.out.mono ?_); rintro e w2 ⟨v2, xs, rfl, h2, i2, t2, b2⟩; have r2 := World.rangeAt.below R1.out b2; have b02 := Below.then hbel b2; have j2 : ∀ x ∈ xs, InQ w2 x := (fun x hx => i2 x hx))
    | ((with_reducible show wpList _ _ _ (⟨some 13, _, _, _, _, _⟩ :: _) _ _); refine wpList_loadW (o := ⟨some 13, _, _, _, _, _⟩) 25 (.tmp 1) (by rfl) W.heap.size 0 (by rfl) aggNode HKl.out r2 (by rfl) ?_)
    | (go_at_call 8; (with_reducible refine (C2.out w2 b02).mono ?_); rintro e w3 ⟨v3, ys, rfl, h3, i3, t3, b3⟩; have b03 := Below.then b02 b3; have j3 : ∀ x ∈ ys, InQ w3 x := (fun x hx => i3 x hx); have cs := samepairs_any v2 v3 xs ys (t2.trans t3.symm) (HLen.out xs t2) w3 (h2.below b3) h3 (fun x hx => (j2 x hx).kept b3) j3)
    | (go_at_call 9; (with_reducible refine cs.mono ?_); rintro e w4 ⟨rfl, b4⟩; have b04 := Below.then b03 b4))
  go_ret
  exact ⟨rfl, b04⟩
end Go.Proofs.Ytljbbpcnoajfeaa
