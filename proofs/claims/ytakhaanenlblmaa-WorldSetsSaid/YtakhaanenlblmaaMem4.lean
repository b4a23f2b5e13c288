/- memory.Need. -/
import Derived.Test.YtakhaanenlblmaaMem3
import Derived.Test.YtakhaanenlblmaaPackA
import Derived.Deep.Cut
set_option linter.unusedSimpArgs false
set_option linter.unusedVariables false
namespace Go.Proofs.Ytakhaanenlblmaa
open Go.RowKit
def needP (b A N : Nat) : Option Nat := if N = 0 then some b else if 4096 < A + N then none else some (max b ((A + N + 31) / 32 * 32))
/-- what is answered for it -/
def needV (o : Option Nat) : Value := match o with
  | some n => .tuple #[.int .i64 (n : Int), .int .i64 0]
  | none => .tuple #[.int .i64 0, .int .i64 6]
theorem cmpI_gt (N M : Nat) : decide (cmpI N M > 0) = decide (M < N) := by
  unfold cmpI
  split
  · rw [decide_eq_false (by omega), decide_eq_false (by omega)]
  · split
    · rw [decide_eq_true (by omega), decide_eq_true (by omega)]
    · rw [decide_eq_false (by omega), decide_eq_false (by omega)]
set_option maxHeartbeats 4000000 in
set_option maxRecDepth 100000 in
theorem need_any (g : Nat) (ba : Option Addr) (bn bc : Nat) (A N : Nat) (hA : A < W256) (hN : N < W256) (hbn : bn ≤ 4096) (w : World) (hz : Blk 116 w g [.slice ba bn bc]) :
    Calls Try.prog 104 #[.pointer (some ⟨g, 0, none⟩), .agg (wcs A).toArray, .agg (wcs N).toArray] w fun e w' => e = .returned (needV (needP bn A N)) ∧ Below w.heap.size w w' := by
  obtain ⟨w1, hw1⟩ : ∃ w1, w1 = (w.alloc (.cells (wcs A).toArray 40)).alloc (.cells (wcs N).toArray 40) := ⟨_, rfl⟩
  have z4 : Blk 40 w1 w.heap.size (wcs A) := by rw [hw1]; exact (boxW w A).alloc _
  have z5 : Blk 40 w1 (w.heap.size + 1) (wcs N) := by
    rw [hw1]
    have := Blk.new (w.alloc (.cells (wcs A).toArray 40)) 40 (wcs N)
    simpa using this
  have hbel : Below w.heap.size w w1 := by rw [hw1]; exact ((Below.refl _ _).alloc (Nat.le_refl _) _).alloc (by simp) _
  have hz1 := hz.kept hbel
  have q0 := fun w1 => eqWN N 0 hN (by unfold W256; omega) w1
  have g0 := fun o1 o2 w1 => guardWN N 0 o1 o2 w1
  have z0 : (Value.agg (wcs 0).toArray) = .agg #[.int .u64 0, .int .u64 0, .int .u64 0, .int .u64 0] := rfl
  rw [z0] at q0 g0
  have hl4 := wcs_len A
  have hl5 := wcs_len N
  have hl8 := wcs_len 4096
  have h81 := wcs_one 4096
  have ci : ∀ u : World, Calls Try.prog 103 #[.int .u64 4096] u _ := fun u => int_any 4096 (by omega) u
  change ∀ u : World, Calls Try.prog 103 #[.int .u64 4096] u (fun e w' => e = .returned (.agg (wcs 4096).toArray) ∧ Below u.heap.size u w') at ci
  have cc : ∀ u : World, Calls Try.prog 117 #[.agg (wcs A).toArray, .agg (wcs 4096).toArray] u (fun e w' => e = .returned (.int .i64 (cmpI A 4096)) ∧ Below u.heap.size u w') := fun u => cmp_any A 4096 hA (by unfold W256; omega) u
  obtain ⟨K8, hK8⟩ : ∃ K, K = wcs 4096 := ⟨_, rfl⟩
  rw [← hK8] at hl8 h81 ci cc
  have Hw1 := Lib.hid hw1
  have Q0 := Lib.hid q0
  have G0 := Lib.hid g0
  have Ci := Lib.hid ci
  have Cc := Lib.hid cc
  by_cases h0 : N = 0
  · have hd : decide (N = 0) = true := decide_eq_true h0
    have hp : needP bn A N = some bn := by unfold needP; rw [if_pos h0]
    rw [hp]
    rw [hd] at Q0
    obtain ⟨Z, hZ⟩ : ∃ Z, Z = wcs N := ⟨_, rfl⟩
    obtain ⟨Y, hY⟩ : ∃ Y, Y = wcs A := ⟨_, rfl⟩
    rw [← hZ] at Q0 G0 z5 hl5 Hw1 ⊢
    rw [← hY] at z4 hl4 Hw1 ⊢
    show Calls Try.prog 104 _ _ (fun e w' => e = .returned (.tuple #[.int .i64 (bn : Int), .int .i64 0]) ∧ Below w.heap.size w w')
    clear hw1 q0 g0 z0 hd hZ hY h0 hN ci cc hp hK8 Cc hA
    go_enter Try.func104, Try.ntmps104
    go_wp2_with (first
      | (go_at_call 103; rw [← Hw1.out]; (with_reducible refine (Ci.out _).mono ?_); rintro e w2 ⟨rfl, b2⟩; have bb2 := Below.then hbel b2; have z42 := z4.kept b2; have z52 := z5.kept b2; have hz2 := hz1.kept b2; have n8 := Blk.newA w2 40 (wcs 0).toArray)
      | ((with_reducible show wpList _ _ _ (⟨none, Op.store _ _ (Operand.tmp 10), _, _, _, _⟩ :: _) _ _); refine wpList_storeA (o := ⟨none, _, _, _, _, _⟩) (by rfl) 40 (.tmp 8) (.tmp 10) (by rfl) w2.heap.size K8 (by rfl) (by rfl) aggWord n8 hl8 (by rfl) h81 ((Below.refl w2.heap.size w2).alloc (Nat.le_refl _) _) (Nat.le_refl _) ?_; intro w3 z8 b3 _; have bb3 := Below.then bb2 b3; have z43 := z42.kept b3; have z53 := z52.kept b3; have hz3 := hz2.kept b3; have dg : w3.cell? ⟨g, 0, none⟩ = some (.slice ba bn bc) := hz3.cell 0)
      | (refine wpList_loadA (o := ⟨some 12, _, _, _, _, _⟩) (by rfl) 40 (.tmp 5) (by rfl) (w.heap.size + 1) (by rfl) aggWord z53 hl5 ?_)
      | (refine wpList_eqlC (o := ⟨some 14, _, _, _, _, _⟩) (by rfl) 40 (.tmp 12) (.tmp 13) _ (by rfl) (by rfl) (by rfl) G0.out Q0.out ?_))
    go_ret2
    exact ⟨rfl, bb3⟩
  · have hd : decide (N = 0) = false := decide_eq_false h0
    rw [hd] at Q0
    by_cases hA4 : 4096 < A
    · have hp : needP bn A N = none := by unfold needP; rw [if_neg h0, if_pos (by omega)]
      rw [hp]
      rw [cmp_gt hA4] at Cc
      obtain ⟨Z, hZ⟩ : ∃ Z, Z = wcs N := ⟨_, rfl⟩
      obtain ⟨Y, hY⟩ : ∃ Y, Y = wcs A := ⟨_, rfl⟩
      rw [← hZ] at Q0 G0 z5 hl5 Hw1 ⊢
      rw [← hY] at z4 hl4 Hw1 Cc ⊢
      show Calls Try.prog 104 _ _ (fun e w' => e = .returned (.tuple #[.int .i64 0, .int .i64 6]) ∧ Below w.heap.size w w')
      clear hw1 q0 g0 z0 hd hZ hY h0 hN ci cc hp hK8 hA hA4
      go_enter Try.func104, Try.ntmps104
      go_upto_region 4 with (first
        | (go_at_call 103; rw [← Hw1.out]; (with_reducible refine (Ci.out _).mono ?_); rintro e w2 ⟨rfl, b2⟩; have bb2 := Below.then hbel b2; have z42 := z4.kept b2; have z52 := z5.kept b2; have hz2 := hz1.kept b2; have n8 := Blk.newA w2 40 (wcs 0).toArray)
        | ((with_reducible show wpList _ _ _ (⟨none, Op.store _ _ (Operand.tmp 10), _, _, _, _⟩ :: _) _ _); refine wpList_storeA (o := ⟨none, _, _, _, _, _⟩) (by rfl) 40 (.tmp 8) (.tmp 10) (by rfl) w2.heap.size K8 (by rfl) (by rfl) aggWord n8 hl8 (by rfl) h81 ((Below.refl w2.heap.size w2).alloc (Nat.le_refl _) _) (Nat.le_refl _) ?_; intro w3 z8 b3 _; have bb3 := Below.then bb2 b3; have z43 := z42.kept b3; have z53 := z52.kept b3; have hz3 := hz2.kept b3; have dg : w3.cell? ⟨g, 0, none⟩ = some (.slice ba bn bc) := hz3.cell 0)
        | (refine wpList_loadA (o := ⟨some 12, _, _, _, _, _⟩) (by rfl) 40 (.tmp 5) (by rfl) (w.heap.size + 1) (by rfl) aggWord z53 hl5 ?_)
        | (refine wpList_eqlC (o := ⟨some 14, _, _, _, _, _⟩) (by rfl) 40 (.tmp 12) (.tmp 13) _ (by rfl) (by rfl) (by rfl) G0.out Q0.out ?_))
      have R4 := Lib.hid (Blk.all0 z43)
      have R8 := Lib.hid (Blk.all0 z8)
      refine wp_region_typed w3 12 (by kernel_rfl) (by kernel_rfl) (Below.refl _ _) ?_; simp only [List.take_succ_cons, List.take_zero, List.take_nil]
      (refine wpX_step (by rfl) (fun K hK => ?_); rw [if_pos (by rfl)]; refine ⟨_, fun u => const_loadm _ (.tmp 4) (by rfl) _ _ (by rfl) aggWord hl4 (rangeAt.ext R4.out u), hK _ ?_⟩; clear hK K; simp only [Act.put, List.setIfInBounds_toArray, List.set_cons_zero, List.set_cons_succ])
      (refine wpX_step (by rfl) (fun K hK => ?_); rw [if_pos (by rfl)]; refine ⟨_, fun u => const_loadm _ (.tmp 8) (by rfl) _ _ (by rfl) aggWord hl8 (rangeAt.ext R8.out u), hK _ ?_⟩; clear hK K; simp only [Act.put, List.setIfInBounds_toArray, List.set_cons_zero, List.set_cons_succ])
      (refine wpX_step (by rfl) (fun K hK => ?_); go_simp; first | (refine hK _ ?_; clear hK K) | (apply Exists.intro; refine ⟨fun _ => ?_, hK _ ?_⟩; exact Cc.out _; clear hK K))
      iterate 9 (refine wpX_step (by rfl) (fun K hK => ?_); go_simp; first | (refine hK _ ?_; clear hK K) | (apply Exists.intro; refine ⟨fun _ => ?_, hK _ ?_⟩; fail; clear hK K))
      refine wpX_nil ?_
      intro u2 hb2
      change wpList _ _ _ [_] _ _
      try simp only [Act.put, List.setIfInBounds_toArray, List.set_cons_zero, List.set_cons_succ]
      go_wp2_with fail
      go_ret2
      exact ⟨rfl, Below.then bb3 hb2⟩
    · obtain ⟨r, hr⟩ : ∃ r, r = cmpI A 4096 := ⟨_, rfl⟩
      have hr0 : ¬ (0 : Int) < r := by rw [hr]; unfold cmpI; split <;> (try split) <;> omega
      have hrd : decide (r > 0) = false := decide_eq_false hr0
      have hre : decide ((0 : Int) < r) = false := decide_eq_false hr0
      rw [← hr] at Cc
      have hsb : subN 4096 A = 4096 - A := by unfold subN W256; omega
      have cs : ∀ u : World, Calls Try.prog 167 #[.agg (wcs 4096).toArray, .agg (wcs A).toArray] u (fun e w' => e = .returned (.agg (wcs (4096 - A)).toArray) ∧ Below u.heap.size u w') := fun u => by have := sub_any 4096 A hA u; rw [hsb] at this; exact this
      have cn : ∀ u : World, Calls Try.prog 117 #[.agg (wcs N).toArray, .agg (wcs (4096 - A)).toArray] u (fun e w' => e = .returned (.int .i64 (cmpI N (4096 - A))) ∧ Below u.heap.size u w') := fun u => cmp_any N (4096 - A) hN (by unfold W256; omega) u
      obtain ⟨r2, hr2⟩ : ∃ r, r = cmpI N (4096 - A) := ⟨_, rfl⟩
      rw [← hr2] at cn
      rw [← hK8] at cs
      have d4 : Hid (∀ u, Blk 40 u w.heap.size (wcs A) → u.cell? ⟨w.heap.size, 0, none⟩ = some (.int .u64 (A : Int))) := Lib.hid fun u hu => by have := hu.cell 0; rw [show (wcs A)[0]? = some (.int .u64 (lim A 0 : Int)) from rfl, lim_small (by omega)] at this; exact this
      have d5 : Hid (N ≤ 4096 → ∀ u, Blk 40 u (w.heap.size + 1) (wcs N) → u.cell? ⟨w.heap.size + 1, 0, none⟩ = some (.int .u64 (N : Int))) := Lib.hid fun hn u hu => by have := hu.cell 0; rw [show (wcs N)[0]? = some (.int .u64 (lim N 0 : Int)) from rfl, lim_small (by omega)] at this; exact this
      obtain ⟨K9, hK9⟩ : ∃ K, K = wcs (4096 - A) := ⟨_, rfl⟩
      rw [← hK9] at cs cn
      obtain ⟨Z, hZ⟩ : ∃ Z, Z = wcs N := ⟨_, rfl⟩
      obtain ⟨Y, hY⟩ : ∃ Y, Y = wcs A := ⟨_, rfl⟩
      rw [← hZ] at Q0 G0 z5 hl5 Hw1 cn d5 ⊢
      rw [← hY] at z4 hl4 Hw1 Cc cs d4 ⊢
      have Cs := Lib.hid cs
      have Cn := Lib.hid cn
      by_cases hAN : 4096 < A + N
      · have hp : needP bn A N = none := by unfold needP; rw [if_neg h0, if_pos hAN]
        rw [hp]
        have hr3 : (0 : Int) < r2 := by rw [hr2, cmp_gt (by omega)]; omega
        have hrd3 : decide ((0 : Int) < r2) = true := decide_eq_true hr3
        show Calls Try.prog 104 _ _ (fun e w' => e = .returned (.tuple #[.int .i64 0, .int .i64 6]) ∧ Below w.heap.size w w')
        clear hw1 q0 g0 z0 hd hZ hY h0 hN ci cc hp hK8 hA hA4 cs cn hr hr2 hK9 hsb hAN d4 d5
        go_enter Try.func104, Try.ntmps104
        go_upto_region 4 with (first
          | (go_at_call 103; rw [← Hw1.out]; (with_reducible refine (Ci.out _).mono ?_); rintro e w2 ⟨rfl, b2⟩; have bb2 := Below.then hbel b2; have z42 := z4.kept b2; have z52 := z5.kept b2; have hz2 := hz1.kept b2; have n8 := Blk.newA w2 40 (wcs 0).toArray)
          | ((with_reducible show wpList _ _ _ (⟨none, Op.store _ _ (Operand.tmp 10), _, _, _, _⟩ :: _) _ _); refine wpList_storeA (o := ⟨none, _, _, _, _, _⟩) (by rfl) 40 (.tmp 8) (.tmp 10) (by rfl) w2.heap.size K8 (by rfl) (by rfl) aggWord n8 hl8 (by rfl) h81 ((Below.refl w2.heap.size w2).alloc (Nat.le_refl _) _) (Nat.le_refl _) ?_; intro w3 z8 b3 _; have bb3 := Below.then bb2 b3; have z43 := z42.kept b3; have z53 := z52.kept b3; have hz3 := hz2.kept b3; have dg : w3.cell? ⟨g, 0, none⟩ = some (.slice ba bn bc) := hz3.cell 0)
          | (refine wpList_loadA (o := ⟨some 12, _, _, _, _, _⟩) (by rfl) 40 (.tmp 5) (by rfl) (w.heap.size + 1) (by rfl) aggWord z53 hl5 ?_)
          | (refine wpList_eqlC (o := ⟨some 14, _, _, _, _, _⟩) (by rfl) 40 (.tmp 12) (.tmp 13) _ (by rfl) (by rfl) (by rfl) G0.out Q0.out ?_))
        have R4 := Lib.hid (Blk.all0 z43)
        have R5 := Lib.hid (Blk.all0 z53)
        have R8 := Lib.hid (Blk.all0 z8)
        refine wp_region_typed w3 12 (by kernel_rfl) (by kernel_rfl) (Below.refl _ _) ?_; simp only [List.take_succ_cons, List.take_zero, List.take_nil]
        (refine wpX_step (by rfl) (fun K hK => ?_); rw [if_pos (by rfl)]; refine ⟨_, fun u => const_loadm _ (.tmp 4) (by rfl) _ _ (by rfl) aggWord hl4 (rangeAt.ext R4.out u), hK _ ?_⟩; clear hK K; simp only [Act.put, List.setIfInBounds_toArray, List.set_cons_zero, List.set_cons_succ])
        (refine wpX_step (by rfl) (fun K hK => ?_); rw [if_pos (by rfl)]; refine ⟨_, fun u => const_loadm _ (.tmp 8) (by rfl) _ _ (by rfl) aggWord hl8 (rangeAt.ext R8.out u), hK _ ?_⟩; clear hK K; simp only [Act.put, List.setIfInBounds_toArray, List.set_cons_zero, List.set_cons_succ])
        (refine wpX_step (by rfl) (fun K hK => ?_); go_simp; first | (refine hK _ ?_; clear hK K) | (apply Exists.intro; refine ⟨fun _ => ?_, hK _ ?_⟩; exact Cc.out _; clear hK K))
        iterate 2 (refine wpX_step (by rfl) (fun K hK => ?_); go_simp; first | (refine hK _ ?_; clear hK K) | (apply Exists.intro; refine ⟨fun _ => ?_, hK _ ?_⟩; fail; clear hK K))
        (refine wpX_step (by rfl) (fun K hK => ?_); rw [if_pos (by rfl)]; refine ⟨_, fun u => const_loadm _ (.tmp 5) (by rfl) _ _ (by rfl) aggWord hl5 (rangeAt.ext R5.out u), hK _ ?_⟩; clear hK K; simp only [Act.put, List.setIfInBounds_toArray, List.set_cons_zero, List.set_cons_succ])
        (refine wpX_step (by rfl) (fun K hK => ?_); rw [if_pos (by rfl)]; refine ⟨_, fun u => const_loadm _ (.tmp 8) (by rfl) _ _ (by rfl) aggWord hl8 (rangeAt.ext R8.out u), hK _ ?_⟩; clear hK K; simp only [Act.put, List.setIfInBounds_toArray, List.set_cons_zero, List.set_cons_succ])
        (refine wpX_step (by rfl) (fun K hK => ?_); rw [if_pos (by rfl)]; refine ⟨_, fun u => const_loadm _ (.tmp 4) (by rfl) _ _ (by rfl) aggWord hl4 (rangeAt.ext R4.out u), hK _ ?_⟩; clear hK K; simp only [Act.put, List.setIfInBounds_toArray, List.set_cons_zero, List.set_cons_succ])
        (refine wpX_step (by rfl) (fun K hK => ?_); go_simp; first | (refine hK _ ?_; clear hK K) | (apply Exists.intro; refine ⟨fun _ => ?_, hK _ ?_⟩; exact Cs.out _; clear hK K))
        (refine wpX_step (by rfl) (fun K hK => ?_); go_simp; first | (refine hK _ ?_; clear hK K) | (apply Exists.intro; refine ⟨fun _ => ?_, hK _ ?_⟩; exact Cn.out _; clear hK K))
        iterate 2 (refine wpX_step (by rfl) (fun K hK => ?_); go_simp; first | (refine hK _ ?_; clear hK K) | (apply Exists.intro; refine ⟨fun _ => ?_, hK _ ?_⟩; fail; clear hK K))
        refine wpX_nil ?_
        intro u2 hb2
        change wpList _ _ _ [_] _ _
        try simp only [Act.put, List.setIfInBounds_toArray, List.set_cons_zero, List.set_cons_succ]
        go_wp2_with fail
        go_ret2
        exact ⟨rfl, Below.then bb3 hb2⟩
      · have hp : needP bn A N = some (max bn ((A + N + 31) / 32 * 32)) := by unfold needP; rw [if_neg h0, if_neg hAN]
        rw [hp]
        have hr3 : ¬ (0 : Int) < r2 := by rw [hr2]; unfold cmpI; split <;> (try split) <;> omega
        have hrd3 : decide ((0 : Int) < r2) = false := decide_eq_false hr3
        show Calls Try.prog 104 _ _ (fun e w' => e = .returned (.tuple #[.int .i64 ((max bn ((A + N + 31) / 32 * 32) : Nat) : Int), .int .i64 0]) ∧ Below w.heap.size w w')
        have hNN : N ≤ 4096 := by omega
        have hAA : A + N ≤ 4096 := by omega
        clear hw1 q0 g0 z0 hd hZ hY h0 hN ci cc hp hK8 hA hA4 cs cn hr hr2 hK9 hsb hAN
        go_enter Try.func104, Try.ntmps104
        go_upto_region 4 with (first
          | (go_at_call 103; rw [← Hw1.out]; (with_reducible refine (Ci.out _).mono ?_); rintro e w2 ⟨rfl, b2⟩; have bb2 := Below.then hbel b2; have z42 := z4.kept b2; have z52 := z5.kept b2; have hz2 := hz1.kept b2; have n8 := Blk.newA w2 40 (wcs 0).toArray)
          | ((with_reducible show wpList _ _ _ (⟨none, Op.store _ _ (Operand.tmp 10), _, _, _, _⟩ :: _) _ _); refine wpList_storeA (o := ⟨none, _, _, _, _, _⟩) (by rfl) 40 (.tmp 8) (.tmp 10) (by rfl) w2.heap.size K8 (by rfl) (by rfl) aggWord n8 hl8 (by rfl) h81 ((Below.refl w2.heap.size w2).alloc (Nat.le_refl _) _) (Nat.le_refl _) ?_; intro w3 z8 b3 _; have bb3 := Below.then bb2 b3; have z43 := z42.kept b3; have z53 := z52.kept b3; have hz3 := hz2.kept b3; have dg : w3.cell? ⟨g, 0, none⟩ = some (.slice ba bn bc) := hz3.cell 0)
          | (refine wpList_loadA (o := ⟨some 12, _, _, _, _, _⟩) (by rfl) 40 (.tmp 5) (by rfl) (w.heap.size + 1) (by rfl) aggWord z53 hl5 ?_)
          | (refine wpList_eqlC (o := ⟨some 14, _, _, _, _, _⟩) (by rfl) 40 (.tmp 12) (.tmp 13) _ (by rfl) (by rfl) (by rfl) G0.out Q0.out ?_))
        have R4 := Lib.hid (Blk.all0 z43)
        have R5 := Lib.hid (Blk.all0 z53)
        have R8 := Lib.hid (Blk.all0 z8)
        refine wp_region_typed w3 12 (by kernel_rfl) (by kernel_rfl) (Below.refl _ _) ?_; simp only [List.take_succ_cons, List.take_zero, List.take_nil]
        (refine wpX_step (by rfl) (fun K hK => ?_); rw [if_pos (by rfl)]; refine ⟨_, fun u => const_loadm _ (.tmp 4) (by rfl) _ _ (by rfl) aggWord hl4 (rangeAt.ext R4.out u), hK _ ?_⟩; clear hK K; simp only [Act.put, List.setIfInBounds_toArray, List.set_cons_zero, List.set_cons_succ])
        (refine wpX_step (by rfl) (fun K hK => ?_); rw [if_pos (by rfl)]; refine ⟨_, fun u => const_loadm _ (.tmp 8) (by rfl) _ _ (by rfl) aggWord hl8 (rangeAt.ext R8.out u), hK _ ?_⟩; clear hK K; simp only [Act.put, List.setIfInBounds_toArray, List.set_cons_zero, List.set_cons_succ])
        (refine wpX_step (by rfl) (fun K hK => ?_); go_simp; first | (refine hK _ ?_; clear hK K) | (apply Exists.intro; refine ⟨fun _ => ?_, hK _ ?_⟩; exact Cc.out _; clear hK K))
        iterate 2 (refine wpX_step (by rfl) (fun K hK => ?_); go_simp; first | (refine hK _ ?_; clear hK K) | (apply Exists.intro; refine ⟨fun _ => ?_, hK _ ?_⟩; fail; clear hK K))
        (refine wpX_step (by rfl) (fun K hK => ?_); rw [if_pos (by rfl)]; refine ⟨_, fun u => const_loadm _ (.tmp 5) (by rfl) _ _ (by rfl) aggWord hl5 (rangeAt.ext R5.out u), hK _ ?_⟩; clear hK K; simp only [Act.put, List.setIfInBounds_toArray, List.set_cons_zero, List.set_cons_succ])
        (refine wpX_step (by rfl) (fun K hK => ?_); rw [if_pos (by rfl)]; refine ⟨_, fun u => const_loadm _ (.tmp 8) (by rfl) _ _ (by rfl) aggWord hl8 (rangeAt.ext R8.out u), hK _ ?_⟩; clear hK K; simp only [Act.put, List.setIfInBounds_toArray, List.set_cons_zero, List.set_cons_succ])
        (refine wpX_step (by rfl) (fun K hK => ?_); rw [if_pos (by rfl)]; refine ⟨_, fun u => const_loadm _ (.tmp 4) (by rfl) _ _ (by rfl) aggWord hl4 (rangeAt.ext R4.out u), hK _ ?_⟩; clear hK K; simp only [Act.put, List.setIfInBounds_toArray, List.set_cons_zero, List.set_cons_succ])
        (refine wpX_step (by rfl) (fun K hK => ?_); go_simp; first | (refine hK _ ?_; clear hK K) | (apply Exists.intro; refine ⟨fun _ => ?_, hK _ ?_⟩; exact Cs.out _; clear hK K))
        (refine wpX_step (by rfl) (fun K hK => ?_); go_simp; first | (refine hK _ ?_; clear hK K) | (apply Exists.intro; refine ⟨fun _ => ?_, hK _ ?_⟩; exact Cn.out _; clear hK K))
        iterate 2 (refine wpX_step (by rfl) (fun K hK => ?_); go_simp; first | (refine hK _ ?_; clear hK K) | (apply Exists.intro; refine ⟨fun _ => ?_, hK _ ?_⟩; fail; clear hK K))
        refine wpX_nil ?_
        intro u2 hb2
        change wpList _ _ _ [_] _ _
        have f4 := d4.out u2 (z43.kept hb2)
        have f5 := d5.out hNN u2 (z53.kept hb2)
        have fg : u2.cell? ⟨g, 0, none⟩ = some (.slice ba bn bc) := (hz3.kept hb2).cell 0
        try simp only [Act.put, List.setIfInBounds_toArray, List.set_cons_zero, List.set_cons_succ]
        go_wp2_with fail
        have e : ((max bn ((A + N + 31) / 32 * 32) : Nat) : Int) = max (bn : Int) (((A : Int) + (N : Int) + 32 - 1) / 32 * 32) := by omega
        rw [e]
        clear e
        go_ret2
        exact ⟨rfl, Below.then bb3 hb2⟩
end Go.Proofs.Ytakhaanenlblmaa
