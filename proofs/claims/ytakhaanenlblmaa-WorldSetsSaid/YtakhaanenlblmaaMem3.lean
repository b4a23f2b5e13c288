/- memory.View. -/
import Derived.Test.YtakhaanenlblmaaMem2
import Derived.Test.YtakhaanenlblmaaBuild0
set_option linter.unusedSimpArgs false
set_option linter.unusedVariables false
namespace Go.Proofs.Ytakhaanenlblmaa
open Go.RowKit
theorem eqWN (N M : Nat) (hN : N < W256) (hM : M < W256) (w1 : World) : (binOp .eql 40 (.agg (wcs N).toArray) (.agg (wcs M).toArray)).run Try.prog w1 = .ok (.bool (decide (N = M))) w1 := by
  have h := run_eqA (P := Try.prog) (w := w1) (t := 40) (e := 36) (n := 4) (k := .u64) Try.underlying40 Try.underlying36 (by kernel_rfl) (limI N) (limI M) rfl rfl
  rw [limI_eq N M hN hM] at h
  exact h
theorem guardWN (N M : Nat) (o1 o2 : Operand) (w1 : World) : (eqGuard .eql 40 o1 o2 (.agg (wcs N).toArray) (.agg (wcs M).toArray)).run Try.prog w1 = .ok () w1 :=
  run_eqGuard_agg (P := Try.prog) (w := w1) .eql 40 o1 o2 _ _ (by kernel_rfl)
theorem slAt (gb A N bn bc : Nat) (h : A + N ≤ bn) (hN : 0 < N) (hbc : bn ≤ bc) (k : IntKind) (w : World) : (Instr.slice 22 (.slice (some ⟨gb, 0, none⟩) bn bc) (some (.int k (A : Int))) (some (.int k ((A + N : Nat) : Int))) none).run Try.prog w = .ok (.slice (some ⟨gb, A, none⟩) N (bc - A)) w := by
  obtain ⟨i, hi, _, hsi, _⟩ := elU8.info
  have hel : Try.prog.elem 22 = 5 := by unfold Program.elem; rw [elU8.ht]
  rw [run_slice_lh (P := Try.prog) w (t := 22) (a := some ⟨gb, 0, none⟩) (len := bn) (cap := bc) (by rw [hel]; exact elU8.ht) k k (A : Int) ((A + N : Nat) : Int) (by omega) (by omega) (by omega)]
  rw [hel]
  have hne : ¬ bc = A := by omega
  simp [sizeOf, typeInfo, hi, hsi, sliced, Addr.add, hne]
  all_goals omega
set_option maxHeartbeats 2000000 in
set_option maxRecDepth 100000 in
theorem view_any (g : Nat) (ba : Option Addr) (bn bc : Nat) (A N : Nat) (hN : N < W256) (hbn : bn ≤ 4096) (hbc : bn ≤ bc) (hfit : N = 0 ∨ (A + N ≤ bn ∧ ∃ gb, ba = some ⟨gb, 0, none⟩)) (w : World) (hz : Blk 116 w g [.slice ba bn bc]) :
    Calls Try.prog 106 #[.pointer (some ⟨g, 0, none⟩), .agg (wcs A).toArray, .agg (wcs N).toArray] w fun e w' => e = .returned (if N = 0 then .slice none 0 0 else .slice (ba.map fun p => ⟨p.block, A, none⟩) N (bc - A)) ∧ Below w.heap.size w w' := by
  obtain ⟨w1, hw1⟩ : ∃ w1, w1 = (w.alloc (.cells (wcs A).toArray 40)).alloc (.cells (wcs N).toArray 40) := ⟨_, rfl⟩
  have z4 : Blk 40 w1 w.heap.size (wcs A) := by rw [hw1]; exact (boxW w A).alloc _
  have z5 : Blk 40 w1 (w.heap.size + 1) (wcs N) := by
    rw [hw1]
    have := Blk.new (w.alloc (.cells (wcs A).toArray 40)) 40 (wcs N)
    simpa using this
  have hbel : Below w.heap.size w w1 := by rw [hw1]; exact ((Below.refl _ _).alloc (Nat.le_refl _) _).alloc (by simp) _
  have hz1 := hz.kept hbel
  have q0 := fun w1 => eqWN N 0 hN (by unfold W256; omega) w1
  have g0 := fun o1 o2 w1 => guardWN N 0 o1 o2 w1
  have z0 : (Value.agg (wcs 0).toArray) = .agg #[.int .u64 0, .int .u64 0, .int .u64 0, .int .u64 0] := rfl
  rw [z0] at q0 g0
  have hl4 := wcs_len A
  have hl5 := wcs_len N
  have d4 : w1.cell? ⟨w.heap.size, 0, none⟩ = some (.int .u64 (lim A 0 : Int)) := z4.cell 0
  have d5 : w1.cell? ⟨w.heap.size + 1, 0, none⟩ = some (.int .u64 (lim N 0 : Int)) := z5.cell 0
  have dg : w1.cell? ⟨g, 0, none⟩ = some (.slice ba bn bc) := hz1.cell 0
  have Hw1 := Lib.hid hw1
  have Q0 := Lib.hid q0
  have G0 := Lib.hid g0
  by_cases h0 : N = 0
  · have hd : decide (N = 0) = true := decide_eq_true h0
    rw [if_pos h0]
    rw [hd] at Q0
    obtain ⟨Z, hZ⟩ : ∃ Z, Z = wcs N := ⟨_, rfl⟩
    obtain ⟨Y, hY⟩ : ∃ Y, Y = wcs A := ⟨_, rfl⟩
    rw [← hZ] at Q0 G0 z5 hl5 Hw1 ⊢
    rw [← hY] at z4 hl4 Hw1 ⊢
    clear hw1 q0 g0 z0 hd hZ hY h0 hN d4 d5 dg
    go_enter Try.func106, Try.ntmps106
    go_wp2_with (first
      | ((with_reducible show wpList _ _ _ (⟨some 7, _, _, _, _, _⟩ :: _) _ _); rw [← Hw1.out]; refine wpList_loadA (o := ⟨some 7, _, _, _, _, _⟩) (by rfl) 40 (.tmp 5) (by rfl) (w.heap.size + 1) (by rfl) aggWord z5 hl5 ?_)
      | (refine wpList_eqlC (o := ⟨some 9, _, _, _, _, _⟩) (by rfl) 40 (.tmp 7) (.tmp 8) _ (by rfl) (by rfl) (by rfl) G0.out Q0.out ?_))
    go_ret
    exact ⟨rfl, hbel⟩
  · have hd : decide (N = 0) = false := decide_eq_false h0
    obtain ⟨hle, gb, rfl⟩ := hfit.resolve_left h0
    rw [if_neg h0]
    rw [hd] at Q0
    rw [lim_small (by omega)] at d4 d5
    have hsum : IntKind.u64.wrap ((A : Int) + (N : Int)) = ((A + N : Nat) : Int) := by rw [IntWalk.u64_in _ ⟨by omega, by omega⟩]; omega
    have sl : ∀ u : World, (Instr.slice 22 (.slice (some ⟨gb, 0, none⟩) bn bc) (some (.int .u64 (A : Int))) (some (.int .u64 ((A + N : Nat) : Int))) none).run Try.prog u = .ok (.slice (some ⟨gb, A, none⟩) N (bc - A)) u := fun u => slAt gb A N bn bc hle (by omega) hbc .u64 u
    obtain ⟨AN, hAN⟩ : ∃ x, x = A + N := ⟨_, rfl⟩
    rw [← hAN] at hsum sl
    obtain ⟨BA, hBA⟩ : ∃ x, x = bc - A := ⟨_, rfl⟩
    rw [← hBA] at sl ⊢
    obtain ⟨Z, hZ⟩ : ∃ Z, Z = wcs N := ⟨_, rfl⟩
    obtain ⟨Y, hY⟩ : ∃ Y, Y = wcs A := ⟨_, rfl⟩
    rw [← hZ] at Q0 G0 z5 hl5 Hw1 ⊢
    rw [← hY] at z4 hl4 Hw1 ⊢
    have e4 := fun u : Ext w1 => u.cell d4
    have e5 := fun u : Ext w1 => u.cell d5
    have eg := fun u : Ext w1 => u.cell dg
    show Calls Try.prog 106 _ _ (fun e w' => e = .returned (.slice (some ⟨gb, A, none⟩) N BA) ∧ Below w.heap.size w w')
    clear hw1 q0 g0 z0 hd hZ hY h0 hN d4 d5 dg hfit hAN hBA
    go_enter Try.func106, Try.ntmps106
    go_wp2_with (first
      | ((with_reducible show wpList _ _ _ (⟨some 7, _, _, _, _, _⟩ :: _) _ _); rw [← Hw1.out]; refine wpList_loadA (o := ⟨some 7, _, _, _, _, _⟩) (by rfl) 40 (.tmp 5) (by rfl) (w.heap.size + 1) (by rfl) aggWord z5 hl5 ?_)
      | (refine wpList_eqlC (o := ⟨some 9, _, _, _, _, _⟩) (by rfl) 40 (.tmp 7) (.tmp 8) _ (by rfl) (by rfl) (by rfl) G0.out Q0.out ?_))
    refine wp_region_typed w1 12 (by kernel_rfl) (by kernel_rfl) (Below.refl _ _) ?_; simp only [List.take_succ_cons, List.take_zero, List.take_nil]
    iterate 12 (refine wpX_step (by rfl) (fun K hK => ?_); go_simp; first | (refine hK _ ?_; clear hK K) | (apply Exists.intro; refine ⟨fun _ => ?_, hK _ ?_⟩; fail; clear hK K))
    refine wpX_nil ?_
    intro u2 hb2
    change wpList _ _ _ [_] _ _
    try simp only [Act.put, List.setIfInBounds_toArray, List.set_cons_zero, List.set_cons_succ]
    go_wp2_with fail
    go_ret
    exact ⟨rfl, Below.then hbel hb2⟩
end Go.Proofs.Ytakhaanenlblmaa
