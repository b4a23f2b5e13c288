/- The reference's reach. -/
import Derived.Test.YtakhaanenlblmaaMem11
import Derived.Test.YtakhaanenlblmaaMem3
import Derived.Test.YtakhaanenlblmaaWord12
set_option linter.unusedSimpArgs false
set_option linter.unusedVariables false
namespace Go.Proofs.Ytakhaanenlblmaa
open Go.RowKit
/-- what is answered for it -/
def reachV (o : Option Nat) : Value := match o with
  | some n => .tuple #[.int .u64 (n : Int), .bool true]
  | none => .tuple #[.int .u64 0, .bool false]
set_option maxHeartbeats 2000000 in
set_option maxRecDepth 100000 in
theorem reach_any (g b nn sz A N : Nat) (M : List UInt8) (hA : A < W256) (hN : N < W256) (hs : sz ≤ 4096) (w : World) (h : KAt w g b nn sz M) :
    Calls Try.prog 110 #[.pointer (some ⟨g, 0, none⟩), .agg (wcs A).toArray, .agg (wcs N).toArray] w fun e w' => e = .returned (reachV (needP sz A N)) ∧ Below w.heap.size w w' := by
  obtain ⟨w1, hw1⟩ : ∃ w1, w1 = (w.alloc (.cells (wcs A).toArray 40)).alloc (.cells (wcs N).toArray 40) := ⟨_, rfl⟩
  have z4 : Blk 40 w1 w.heap.size (wcs A) := by rw [hw1]; exact (boxW w A).alloc _
  have z5 : Blk 40 w1 (w.heap.size + 1) (wcs N) := by
    rw [hw1]
    have := Blk.new (w.alloc (.cells (wcs A).toArray 40)) 40 (wcs N)
    simpa using this
  have hbel : Below w.heap.size w w1 := by rw [hw1]; exact ((Below.refl _ _).alloc (Nat.le_refl _) _).alloc (by simp) _
  have hz1 := (h.kept hbel).1
  have q0 := fun w1 => eqWN N 0 hN (by unfold W256; omega) w1
  have g0 := fun o1 o2 w1 => guardWN N 0 o1 o2 w1
  have z0 : (Value.agg (wcs 0).toArray) = .agg #[.int .u64 0, .int .u64 0, .int .u64 0, .int .u64 0] := rfl
  rw [z0] at q0 g0
  have hl4 := wcs_len A
  have hl5 := wcs_len N
  have dg : w1.cell? ⟨g, 1, none⟩ = some (.int .u64 (sz : Int)) := hz1.cell 1
  have Hw1 := Lib.hid hw1
  have Q0 := Lib.hid q0
  have G0 := Lib.hid g0
  clear h q0 g0 z0 hw1
  by_cases h0 : N = 0
  · have hd : decide (N = 0) = true := decide_eq_true h0
    have hp : needP sz A N = some sz := by unfold needP; rw [if_pos h0]
    rw [hp]
    rw [hd] at Q0
    obtain ⟨Z, hZ⟩ : ∃ Z, Z = wcs N := ⟨_, rfl⟩
    obtain ⟨Y, hY⟩ : ∃ Y, Y = wcs A := ⟨_, rfl⟩
    rw [← hZ] at Q0 G0 z5 hl5 Hw1 ⊢
    rw [← hY] at z4 hl4 Hw1 ⊢
    show Calls Try.prog 110 _ _ (fun e w' => e = .returned (.tuple #[.int .u64 (sz : Int), .bool true]) ∧ Below w.heap.size w w')
    clear hZ hY h0 hN hd hp hA
    go_enter Try.func110, Try.ntmps110
    go_wp2_with (first
      | ((with_reducible show wpList _ _ _ (⟨some 10, _, _, _, _, _⟩ :: _) _ _); rw [← Hw1.out]; refine wpList_loadA (o := ⟨some 10, _, _, _, _, _⟩) (by rfl) 40 (.tmp 5) (by rfl) (w.heap.size + 1) (by rfl) aggWord z5 hl5 ?_)
      | ((with_reducible show wpList _ _ _ (⟨some 12, _, _, _, _, _⟩ :: _) _ _); refine wpList_eqlC (o := ⟨some 12, _, _, _, _, _⟩) (by rfl) 40 (.tmp 10) (.tmp 11) _ (by rfl) (by rfl) (by rfl) G0.out Q0.out ?_))
    go_ret2
    exact ⟨rfl, hbel⟩
  · have hd : decide (N = 0) = false := decide_eq_false h0
    rw [hd] at Q0
    have hn0 : needP sz A N = if 4096 < A + N then none else some (max sz ((A + N + 31) / 32 * 32)) := by unfold needP; rw [if_neg h0]
    have hEl : addN A N < W256 := Nat.mod_lt _ (by unfold W256; omega)
    have hE : addN A N = if A + N < W256 then A + N else A + N - W256 := by
      unfold addN
      split
      · rename_i h1; exact Nat.mod_eq_of_lt h1
      · rename_i h1; rw [Nat.mod_eq_sub_mod (by omega), Nat.mod_eq_of_lt (by omega)]
    obtain ⟨E, hEE⟩ : ∃ E, E = addN A N := ⟨_, rfl⟩
    have ca : ∀ u : World, Calls Try.prog 169 #[.agg (wcs A).toArray, .agg (wcs N).toArray] u (fun e w' => e = .returned (.agg (wcs E).toArray) ∧ Below u.heap.size u w') := fun u => by have := wadd_any A N u; rw [← hEE] at this; exact this
    rw [← hEE] at hE hEl
    have cl1 : ∀ u : World, Calls Try.prog 120 #[.agg (wcs E).toArray, .agg (wcs A).toArray] u (fun e w' => e = .returned (.bool (decide (E < A))) ∧ Below u.heap.size u w') := fun u => less_any E A hEl hA u
    have ci : ∀ u : World, Calls Try.prog 109 #[.int .u64 4096] u (fun e w' => e = .returned (.agg (wcs 4096).toArray) ∧ Below u.heap.size u w') := fun u => wint_any 4096 (by omega) u
    have cl2 : ∀ u : World, Calls Try.prog 120 #[.agg (wcs 4096).toArray, .agg (wcs E).toArray] u (fun e w' => e = .returned (.bool (decide (4096 < E))) ∧ Below u.heap.size u w') := fun u => less_any 4096 E (by unfold W256; omega) hEl u
    have hlE := wcs_len E
    have hoE := wcs_one E
    have e0 : E ≤ 4096 → (wcs E)[0]? = some (.int .u64 (E : Int)) := fun hle => by
      have := lim_small (x := E) (by omega)
      show some (Value.int .u64 (lim E 0 : Int)) = _
      rw [this]
    obtain ⟨K8, hK8⟩ : ∃ K, K = wcs 4096 := ⟨_, rfl⟩
    rw [← hK8] at ci cl2
    obtain ⟨KE, hKE⟩ : ∃ K, K = wcs E := ⟨_, rfl⟩
    rw [← hKE] at ca cl1 cl2 hlE hoE e0
    obtain ⟨Z, hZ⟩ : ∃ Z, Z = wcs N := ⟨_, rfl⟩
    obtain ⟨Y, hY⟩ : ∃ Y, Y = wcs A := ⟨_, rfl⟩
    rw [← hZ] at Q0 G0 z5 hl5 Hw1 ca ⊢
    rw [← hY] at z4 hl4 Hw1 ca cl1 ⊢
    have Ca := Lib.hid ca
    have Ci := Lib.hid ci
    clear hZ hY hKE hK8 ca ci hd hEE
    by_cases hc1 : E < A
    · have hd1 : decide (E < A) = true := decide_eq_true hc1
      have hp : needP sz A N = none := by rw [hn0, if_pos (by split at hE <;> (unfold W256 at *; omega))]
      rw [hp]
      rw [hd1] at cl1
      have Cl1 := Lib.hid cl1
      show Calls Try.prog 110 _ _ (fun e w' => e = .returned (.tuple #[.int .u64 0, .bool false]) ∧ Below w.heap.size w w')
      clear hd1 hp cl1 cl2 hn0 hE hEl hA hN h0 hc1 e0
      go_enter Try.func110, Try.ntmps110
      go_upto_region 4 with (first
        | ((with_reducible show wpList _ _ _ (⟨some 10, _, _, _, _, _⟩ :: _) _ _); rw [← Hw1.out]; refine wpList_loadA (o := ⟨some 10, _, _, _, _, _⟩) (by rfl) 40 (.tmp 5) (by rfl) (w.heap.size + 1) (by rfl) aggWord z5 hl5 ?_)
        | ((with_reducible show wpList _ _ _ (⟨some 12, _, _, _, _, _⟩ :: _) _ _); refine wpList_eqlC (o := ⟨some 12, _, _, _, _, _⟩) (by rfl) 40 (.tmp 10) (.tmp 11) _ (by rfl) (by rfl) (by rfl) G0.out Q0.out ?_)
        | ((with_reducible show wpList _ _ _ (⟨some 17, _, _, _, _, _⟩ :: _) _ _); refine wpList_loadA (o := ⟨some 17, _, _, _, _, _⟩) (by rfl) 40 (.tmp 4) (by rfl) w.heap.size (by rfl) aggWord z4 hl4 ?_)
        | ((with_reducible show wpList _ _ _ (⟨some 18, _, _, _, _, _⟩ :: _) _ _); refine wpList_loadA (o := ⟨some 18, _, _, _, _, _⟩) (by rfl) 40 (.tmp 5) (by rfl) (w.heap.size + 1) (by rfl) aggWord z5 hl5 ?_)
        | (go_at_call 169; (with_reducible refine (Ca.out _).mono ?_); rintro e w2 ⟨rfl, b2⟩; have bb2 := Below.then hbel b2; have z42 := z4.kept b2; have hz2 := hz1.kept b2; have n8 := Blk.newA w2 40 (wcs 0).toArray)
        | ((with_reducible show wpList _ _ _ (⟨none, Op.store _ _ (Operand.tmp 19), _, _, _, _⟩ :: _) _ _); refine wpList_storeA (o := ⟨none, _, _, _, _, _⟩) (by rfl) 40 (.tmp 8) (.tmp 19) (by rfl) w2.heap.size KE (by rfl) (by rfl) aggWord n8 hlE (by rfl) hoE ((Below.refl w2.heap.size w2).alloc (Nat.le_refl _) _) (Nat.le_refl _) ?_; intro w3 z8 b3 _; have bb3 := Below.then bb2 b3; have z43 := z42.kept b3; have hz3 := hz2.kept b3))
      obtain ⟨g8, hg8⟩ : ∃ x, x = w2.heap.size := ⟨_, rfl⟩
      rw [← hg8] at z8
      try simp only [← hg8]
      have R4 := Lib.hid (Blk.all0 z43)
      have R8 := Lib.hid (Blk.all0 z8)
      clear hg8
      refine wp_region_typed w3 7 (by kernel_rfl) (by kernel_rfl) (Below.refl _ _) ?_; simp only [List.take_succ_cons, List.take_zero, List.take_nil]
      (refine wpX_step (by rfl) (fun K hK => ?_); rw [if_pos (by rfl)]; refine ⟨_, fun u => const_loadm _ (.tmp 8) (by rfl) _ _ (by rfl) aggWord hlE (rangeAt.ext R8.out u), hK _ ?_⟩; clear hK K; simp only [Act.put, List.setIfInBounds_toArray, List.set_cons_zero, List.set_cons_succ])
      (refine wpX_step (by rfl) (fun K hK => ?_); rw [if_pos (by rfl)]; refine ⟨_, fun u => const_loadm _ (.tmp 4) (by rfl) _ _ (by rfl) aggWord hl4 (rangeAt.ext R4.out u), hK _ ?_⟩; clear hK K; simp only [Act.put, List.setIfInBounds_toArray, List.set_cons_zero, List.set_cons_succ])
      (refine wpX_step (by rfl) (fun K hK => ?_); go_simp; first | (refine hK _ ?_; clear hK K) | (apply Exists.intro; refine ⟨fun _ => ?_, hK _ ?_⟩; exact Cl1.out _; clear hK K))
      iterate 4 (refine wpX_step (by rfl) (fun K hK => ?_); go_simp; first | (refine hK _ ?_; clear hK K) | (apply Exists.intro; refine ⟨fun _ => ?_, hK _ ?_⟩; fail; clear hK K))
      refine wpX_nil ?_
      intro y5 b5
      change wpList _ _ _ [_] _ _
      try simp only [Act.put, List.setIfInBounds_toArray, List.set_cons_zero, List.set_cons_succ]
      have bb5 := Below.then bb3 b5
      clear hz3 dg
      go_wp2_with fail
      go_ret2
      exact ⟨rfl, bb5⟩
    · have hd1 : decide (E < A) = false := decide_eq_false hc1
      have hEs : E = A + N := by split at hE <;> (unfold W256 at *; omega)
      rw [hd1] at cl1
      have Cl1 := Lib.hid cl1
      by_cases hc2 : 4096 < E
      · have hd2 : decide (4096 < E) = true := decide_eq_true hc2
        have hp : needP sz A N = none := by rw [hn0, if_pos (by omega)]
        rw [hp]
        rw [hd2] at cl2
        have Cl2 := Lib.hid cl2
        show Calls Try.prog 110 _ _ (fun e w' => e = .returned (.tuple #[.int .u64 0, .bool false]) ∧ Below w.heap.size w w')
        clear hd1 hp cl1 cl2 hn0 hE hEl hA hN h0 hc1 e0 hEs hd2 hc2
        go_enter Try.func110, Try.ntmps110
        go_upto_region 4 with (first
          | ((with_reducible show wpList _ _ _ (⟨some 10, _, _, _, _, _⟩ :: _) _ _); rw [← Hw1.out]; refine wpList_loadA (o := ⟨some 10, _, _, _, _, _⟩) (by rfl) 40 (.tmp 5) (by rfl) (w.heap.size + 1) (by rfl) aggWord z5 hl5 ?_)
          | ((with_reducible show wpList _ _ _ (⟨some 12, _, _, _, _, _⟩ :: _) _ _); refine wpList_eqlC (o := ⟨some 12, _, _, _, _, _⟩) (by rfl) 40 (.tmp 10) (.tmp 11) _ (by rfl) (by rfl) (by rfl) G0.out Q0.out ?_)
          | ((with_reducible show wpList _ _ _ (⟨some 17, _, _, _, _, _⟩ :: _) _ _); refine wpList_loadA (o := ⟨some 17, _, _, _, _, _⟩) (by rfl) 40 (.tmp 4) (by rfl) w.heap.size (by rfl) aggWord z4 hl4 ?_)
          | ((with_reducible show wpList _ _ _ (⟨some 18, _, _, _, _, _⟩ :: _) _ _); refine wpList_loadA (o := ⟨some 18, _, _, _, _, _⟩) (by rfl) 40 (.tmp 5) (by rfl) (w.heap.size + 1) (by rfl) aggWord z5 hl5 ?_)
          | (go_at_call 169; (with_reducible refine (Ca.out _).mono ?_); rintro e w2 ⟨rfl, b2⟩; have bb2 := Below.then hbel b2; have z42 := z4.kept b2; have hz2 := hz1.kept b2; have n8 := Blk.newA w2 40 (wcs 0).toArray)
          | ((with_reducible show wpList _ _ _ (⟨none, Op.store _ _ (Operand.tmp 19), _, _, _, _⟩ :: _) _ _); refine wpList_storeA (o := ⟨none, _, _, _, _, _⟩) (by rfl) 40 (.tmp 8) (.tmp 19) (by rfl) w2.heap.size KE (by rfl) (by rfl) aggWord n8 hlE (by rfl) hoE ((Below.refl w2.heap.size w2).alloc (Nat.le_refl _) _) (Nat.le_refl _) ?_; intro w3 z8 b3 _; have bb3 := Below.then bb2 b3; have z43 := z42.kept b3; have hz3 := hz2.kept b3))
        obtain ⟨g8, hg8⟩ : ∃ x, x = w2.heap.size := ⟨_, rfl⟩
        rw [← hg8] at z8
        try simp only [← hg8]
        have R4 := Lib.hid (Blk.all0 z43)
        have R8 := Lib.hid (Blk.all0 z8)
        clear hg8
        refine wp_region_typed w3 7 (by kernel_rfl) (by kernel_rfl) (Below.refl _ _) ?_; simp only [List.take_succ_cons, List.take_zero, List.take_nil]
        (refine wpX_step (by rfl) (fun K hK => ?_); rw [if_pos (by rfl)]; refine ⟨_, fun u => const_loadm _ (.tmp 8) (by rfl) _ _ (by rfl) aggWord hlE (rangeAt.ext R8.out u), hK _ ?_⟩; clear hK K; simp only [Act.put, List.setIfInBounds_toArray, List.set_cons_zero, List.set_cons_succ])
        (refine wpX_step (by rfl) (fun K hK => ?_); rw [if_pos (by rfl)]; refine ⟨_, fun u => const_loadm _ (.tmp 4) (by rfl) _ _ (by rfl) aggWord hl4 (rangeAt.ext R4.out u), hK _ ?_⟩; clear hK K; simp only [Act.put, List.setIfInBounds_toArray, List.set_cons_zero, List.set_cons_succ])
        (refine wpX_step (by rfl) (fun K hK => ?_); go_simp; first | (refine hK _ ?_; clear hK K) | (apply Exists.intro; refine ⟨fun _ => ?_, hK _ ?_⟩; exact Cl1.out _; clear hK K))
        iterate 1 (refine wpX_step (by rfl) (fun K hK => ?_); go_simp; first | (refine hK _ ?_; clear hK K) | (apply Exists.intro; refine ⟨fun _ => ?_, hK _ ?_⟩; fail; clear hK K))
        (refine wpX_step (by rfl) (fun K hK => ?_); go_simp; first | (refine hK _ ?_; clear hK K) | (apply Exists.intro; refine ⟨fun _ => ?_, hK _ ?_⟩; exact Ci.out _; clear hK K))
        (refine wpX_step (by rfl) (fun K hK => ?_); rw [if_pos (by rfl)]; refine ⟨_, fun u => const_loadm _ (.tmp 8) (by rfl) _ _ (by rfl) aggWord hlE (rangeAt.ext R8.out u), hK _ ?_⟩; clear hK K; simp only [Act.put, List.setIfInBounds_toArray, List.set_cons_zero, List.set_cons_succ])
        (refine wpX_step (by rfl) (fun K hK => ?_); go_simp; first | (refine hK _ ?_; clear hK K) | (apply Exists.intro; refine ⟨fun _ => ?_, hK _ ?_⟩; exact Cl2.out _; clear hK K))
        refine wpX_nil ?_
        intro y5 b5
        change wpList _ _ _ [_] _ _
        try simp only [Act.put, List.setIfInBounds_toArray, List.set_cons_zero, List.set_cons_succ]
        have bb5 := Below.then bb3 b5
        clear hz3 dg
        go_wp2_with fail
        go_ret2
        exact ⟨rfl, bb5⟩
      · have hd2 : decide (4096 < E) = false := decide_eq_false hc2
        have hp : needP sz A N = some (max sz ((E + 31) / 32 * 32)) := by rw [hn0, if_neg (by omega), hEs]
        rw [hp]
        rw [hd2] at cl2
        have Cl2 := Lib.hid cl2
        obtain ⟨U, hU⟩ : ∃ U, U = (E + 31) / 32 * 32 := ⟨_, rfl⟩
        rw [← hU]
        have hE4 : E ≤ 4096 := by omega
        have E0 := Lib.hid (e0 hE4)
        have HU := Lib.hid hU
        show Calls Try.prog 110 _ _ (fun e w' => e = .returned (.tuple #[.int .u64 ((max sz U : Nat) : Int), .bool true]) ∧ Below w.heap.size w w')
        clear hd1 hp cl1 cl2 hn0 hE hEl hA hN h0 hc1 e0 hEs hd2 hc2 hU
        go_enter Try.func110, Try.ntmps110
        go_upto_region 4 with (first
          | ((with_reducible show wpList _ _ _ (⟨some 10, _, _, _, _, _⟩ :: _) _ _); rw [← Hw1.out]; refine wpList_loadA (o := ⟨some 10, _, _, _, _, _⟩) (by rfl) 40 (.tmp 5) (by rfl) (w.heap.size + 1) (by rfl) aggWord z5 hl5 ?_)
          | ((with_reducible show wpList _ _ _ (⟨some 12, _, _, _, _, _⟩ :: _) _ _); refine wpList_eqlC (o := ⟨some 12, _, _, _, _, _⟩) (by rfl) 40 (.tmp 10) (.tmp 11) _ (by rfl) (by rfl) (by rfl) G0.out Q0.out ?_)
          | ((with_reducible show wpList _ _ _ (⟨some 17, _, _, _, _, _⟩ :: _) _ _); refine wpList_loadA (o := ⟨some 17, _, _, _, _, _⟩) (by rfl) 40 (.tmp 4) (by rfl) w.heap.size (by rfl) aggWord z4 hl4 ?_)
          | ((with_reducible show wpList _ _ _ (⟨some 18, _, _, _, _, _⟩ :: _) _ _); refine wpList_loadA (o := ⟨some 18, _, _, _, _, _⟩) (by rfl) 40 (.tmp 5) (by rfl) (w.heap.size + 1) (by rfl) aggWord z5 hl5 ?_)
          | (go_at_call 169; (with_reducible refine (Ca.out _).mono ?_); rintro e w2 ⟨rfl, b2⟩; have bb2 := Below.then hbel b2; have z42 := z4.kept b2; have hz2 := hz1.kept b2; have n8 := Blk.newA w2 40 (wcs 0).toArray)
          | ((with_reducible show wpList _ _ _ (⟨none, Op.store _ _ (Operand.tmp 19), _, _, _, _⟩ :: _) _ _); refine wpList_storeA (o := ⟨none, _, _, _, _, _⟩) (by rfl) 40 (.tmp 8) (.tmp 19) (by rfl) w2.heap.size KE (by rfl) (by rfl) aggWord n8 hlE (by rfl) hoE ((Below.refl w2.heap.size w2).alloc (Nat.le_refl _) _) (Nat.le_refl _) ?_; intro w3 z8 b3 _; have bb3 := Below.then bb2 b3; have z43 := z42.kept b3; have hz3 := hz2.kept b3))
        obtain ⟨g8, hg8⟩ : ∃ x, x = w2.heap.size := ⟨_, rfl⟩
        rw [← hg8] at z8
        try simp only [← hg8]
        have R4 := Lib.hid (Blk.all0 z43)
        have R8 := Lib.hid (Blk.all0 z8)
        clear hg8
        refine wp_region_typed w3 7 (by kernel_rfl) (by kernel_rfl) (Below.refl _ _) ?_; simp only [List.take_succ_cons, List.take_zero, List.take_nil]
        (refine wpX_step (by rfl) (fun K hK => ?_); rw [if_pos (by rfl)]; refine ⟨_, fun u => const_loadm _ (.tmp 8) (by rfl) _ _ (by rfl) aggWord hlE (rangeAt.ext R8.out u), hK _ ?_⟩; clear hK K; simp only [Act.put, List.setIfInBounds_toArray, List.set_cons_zero, List.set_cons_succ])
        (refine wpX_step (by rfl) (fun K hK => ?_); rw [if_pos (by rfl)]; refine ⟨_, fun u => const_loadm _ (.tmp 4) (by rfl) _ _ (by rfl) aggWord hl4 (rangeAt.ext R4.out u), hK _ ?_⟩; clear hK K; simp only [Act.put, List.setIfInBounds_toArray, List.set_cons_zero, List.set_cons_succ])
        (refine wpX_step (by rfl) (fun K hK => ?_); go_simp; first | (refine hK _ ?_; clear hK K) | (apply Exists.intro; refine ⟨fun _ => ?_, hK _ ?_⟩; exact Cl1.out _; clear hK K))
        iterate 1 (refine wpX_step (by rfl) (fun K hK => ?_); go_simp; first | (refine hK _ ?_; clear hK K) | (apply Exists.intro; refine ⟨fun _ => ?_, hK _ ?_⟩; fail; clear hK K))
        (refine wpX_step (by rfl) (fun K hK => ?_); go_simp; first | (refine hK _ ?_; clear hK K) | (apply Exists.intro; refine ⟨fun _ => ?_, hK _ ?_⟩; exact Ci.out _; clear hK K))
        (refine wpX_step (by rfl) (fun K hK => ?_); rw [if_pos (by rfl)]; refine ⟨_, fun u => const_loadm _ (.tmp 8) (by rfl) _ _ (by rfl) aggWord hlE (rangeAt.ext R8.out u), hK _ ?_⟩; clear hK K; simp only [Act.put, List.setIfInBounds_toArray, List.set_cons_zero, List.set_cons_succ])
        (refine wpX_step (by rfl) (fun K hK => ?_); go_simp; first | (refine hK _ ?_; clear hK K) | (apply Exists.intro; refine ⟨fun _ => ?_, hK _ ?_⟩; exact Cl2.out _; clear hK K))
        refine wpX_nil ?_
        intro y5 b5
        change wpList _ _ _ [_] _ _
        try simp only [Act.put, List.setIfInBounds_toArray, List.set_cons_zero, List.set_cons_succ]
        have bb5 := Below.then bb3 b5
        have c8 : y5.cell? ⟨g8, 0, none⟩ = some (.int .u64 (E : Int)) := by have := (z8.kept b5).cell 0; rw [E0.out] at this; exact this
        have hz5 := hz3.kept b5
        clear hz3 dg
        go_wp2_with fail
        go_loopw [9] (fun s9 wr => ∃ q : Nat, s9 = .int .u64 (q : Int) ∧ E ≤ q ∧ q ≤ U ∧ wr = y5) (fun s9 _ => U - (intOf s9).toNat)
        case atStart => exact ⟨E, rfl, by omega, by have := HU.out; omega, rfl⟩
        case round =>
          obtain ⟨q, rfl, hq1, hq2, rfl⟩ := hrel
          by_cases hm : q % 32 = 0
          · have hqU : q = U := by have := HU.out; omega
            have hm2 : (q : Int) % 32 = 0 := by omega
            have c1 : wr.cell? ⟨g, 1, none⟩ = some (.int .u64 (sz : Int)) := hz5.cell 1
            go_wp2_with fail
            go_ret2
            exact ⟨by have : max (U : Int) (sz : Int) = ((max sz U : Nat) : Int) := by omega
                      rw [← this]; rfl, bb5⟩
          · have hm2 : ¬ (q : Int) % 32 = 0 := by omega
            have hqU : q < U := by have := HU.out; omega
            have hadd : IntKind.u64.wrap ((q : Int) + 1) = ((q + 1 : Nat) : Int) := by rw [IntWalk.u64_in _ ⟨by omega, by have := HU.out; omega⟩]; omega
            go_wp2_with fail
            go_roundw
            case rel => exact ⟨q + 1, rfl, by omega, by omega, by trivial⟩
            case measure => simp [intOf]; omega
end Go.Proofs.Ytakhaanenlblmaa
