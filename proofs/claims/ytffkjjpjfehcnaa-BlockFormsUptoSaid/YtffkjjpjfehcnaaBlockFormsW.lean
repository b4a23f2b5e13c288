/- The walk of the law BlockForms. -/
import Derived.Test.YtffkjjpjfehcnaaHdr13
import Derived.Test.YtffkjjpjfehcnaaHash
set_option linter.unusedSimpArgs false
set_option linter.unusedVariables false
namespace Go.Proofs.Ytffkjjpjfehcnaa
open Go.RowKit
set_option maxHeartbeats 2000000 in
set_option maxRecDepth 100000 in
theorem blockForms_walk (h : Hd) (k : h.Ok) (a : Option Addr) (c : Nat) (b : List UInt8) (hLs : b.length ≤ 1048576) (w : World) (hb : Bytes w (.slice a b.length c) b) :
    Calls Try.prog 3 #[.agg (hdcs h).toArray, .slice a b.length c] w fun e w' => e = .returned (.bool true) ∧ Below w.heap.size w w' := by
  have hlh := hdcs_len k
  have K := Lib.hid k
  have c1 := fun u hu => read_any' a b.length c b rfl hLs u hu
  have c2 := fun u hu => bread_any a b.length c b rfl hLs u hu
  have c3 := fun u => hwrite_any h k u
  have c4 := fun u => bwrite_any h k u
  have c5 := fun u => bksum_any h k u
  have c6 := fun u => bbsum_any h k u
  have hz0 : Blk 28 (w.alloc (.cells (hdcs h).toArray 28)) w.heap.size (hdcs h) := Blk.new w _ _
  have hbel0 : Below w.heap.size w (w.alloc (.cells (hdcs h).toArray 28)) := (Below.refl _ _).alloc (Nat.le_refl _) _
  have hS : (sumB (wH h)).length = 32 := by unfold sumB; rw [outB_len]
  obtain ⟨WB, hWB⟩ : ∃ WB, WB = wH h := ⟨_, rfl⟩
  simp only [← hWB] at c3 c4 c5 c6 hS
  obtain ⟨S, hSe⟩ : ∃ S, S = sumB WB := ⟨_, rfl⟩
  simp only [← hSe] at c5 c6 hS
  have g1 := fun o1 o2 w1 => guard_eq_h S S o1 o2 w1
  have q1 : ∀ w1 : World, (binOp .eql 23 (.agg (S.map u8v).toArray) (.agg (S.map u8v).toArray)).run Try.prog w1 = .ok (.bool true) w1 := fun w1 => by rw [run_eq_h S S hS hS w1, beq_self_eq_true]
  generalize (Value.agg (S.map u8v).toArray) = X at *
  have C1 := Lib.hid c1
  have C2 := Lib.hid c2
  have C3 := Lib.hid c3
  have C4 := Lib.hid c4
  have C5 := Lib.hid c5
  have C6 := Lib.hid c6
  have G1 := Lib.hid g1
  have Q1 := Lib.hid q1
  have hz1 := hdcs_len zH_ok
  clear c1 c2 c3 c4 c5 c6 g1 q1 k hLs hSe hWB hS
  go_enter Try.func3, Try.ntmps3
  go_wp2_with (first
    | (go_at_call 14; (with_reducible refine (C1.out _ (hb.alloc _)).mono ?_); rintro e w1 ⟨H, E, rfl, hH, hR1, b1⟩; have z1 := hz0.kept b1; have bel1 := Below.then hbel0 b1; have hl1 := hdcs_len hH)
    | ((with_reducible show wpList _ _ _ (⟨none, Op.store _ _ (Operand.tmp 12), _, _, _, _⟩ :: _) _ _); refine wpList_storeA (o := ⟨none, _, _, _, _, _⟩) (by rfl) 28 (.tmp 5) (.tmp 12) (by rfl) w1.heap.size (hdcs H) (by rfl) (by rfl) aggHd (old := hdcs zH) (by rw [zcHd]; exact Blk.new w1 _ _) hl1 hz1 (hdcs_one _) ((Below.refl w1.heap.size w1).alloc (Nat.le_refl _) _) (Nat.le_refl _) ?_; intro w2 x2 b2 _; have z2 := z1.kept b2; have bel2 := Below.then bel1 b2)
    | (go_at_call 15; (with_reducible refine (C2.out _ (hb.below bel2)).mono ?_); rintro e w3 ⟨H', E', rfl, hH', hR2, b3⟩; obtain ⟨rfl, rfl⟩ := RdHd.one hH hH' hR1 hR2; have z3 := z2.kept b3; have x3 := x2.kept b3; have bel3 := Below.then bel2 b3)
    | ((with_reducible show wpList _ _ _ (⟨none, Op.store _ _ (Operand.tmp 17), _, _, _, _⟩ :: _) _ _); refine wpList_storeA (o := ⟨none, _, _, _, _, _⟩) (by rfl) 28 (.tmp 7) (.tmp 17) (by rfl) w3.heap.size (hdcs H) (by rfl) (by rfl) aggHd (old := hdcs zH) (by rw [zcHd]; exact Blk.new w3 _ _) hl1 hz1 (hdcs_one _) ((Below.refl w3.heap.size w3).alloc (Nat.le_refl _) _) (Nat.le_refl _) ?_; intro w4 y4 b4 _; have z4 := z3.kept b4; have x4 := x3.kept b4; have bel4 := Below.then bel3 b4))
  have e1 := fun w1 => run_eqHd hH w1
  have R1 := Lib.hid (Blk.all0 z4)
  have R2 := Lib.hid (Blk.all0 x4)
  have R3 := Lib.hid (Blk.all0 y4)
  have E1 := Lib.hid e1
  have hEE : (E == E) = true := by simp
  have hWW : (WB == WB) = true := by simp
  clear e1 hz0 hbel0 b1 z1 bel1 x2 b2 z2 bel2 b3 z3 x3 bel3 y4 b4 z4 x4 hR1 hR2 hH'
  refine wp_region_typed w4 24 (by kernel_rfl) (by kernel_rfl) (Below.refl _ _) ?_; simp only [List.take_succ_cons, List.take_zero, List.take_nil]
  (refine wpX_step (by rfl) (fun K hK => ?_); rw [if_pos (by rfl)]; refine ⟨_, fun u => const_loadm _ (.tmp 2) (by rfl) _ _ (by rfl) aggHd hlh (rangeAt.ext R1.out u), hK _ ?_⟩; clear hK K; simp only [Act.put, List.setIfInBounds_toArray, List.set_cons_zero, List.set_cons_succ])
  refine wpX_rel 20 (TxB 0 WB) rfl (of_decide_eq_true rfl) (TxB.mono _ _) (fun w5 hw5 => ?_) ?_
  · simp only [relOf, List.filter_nil, forallRel]
    refine ⟨rfl, ?_⟩
    go_simp
    refine (C3.out w5).mono ?_
    rintro e w6 ⟨v, rfl, o6, b6⟩
    exact ⟨v, rfl, ⟨o6.row, fun _ _ => Nat.zero_le _⟩, b6⟩
  refine wpX_eq (str WB) (fun w5 hw5 => ?_) ?_
  · change forallRel w5 [(20, _)] _ _
    intro v5 h5
    simp only [forallRel]
    refine ⟨rfl, ?_⟩
    have c99 := run_str (P := Try.prog) (src := 29) (dst := 9) elU8.ht (by kernel_rfl) (by kernel_rfl) h5.1
    go_simp
    exact Below.refl _ _
  (refine wpX_step (by rfl) (fun K hK => ?_); rw [if_pos (by rfl)]; refine ⟨_, fun u => const_loadm _ (.tmp 2) (by rfl) _ _ (by rfl) aggHd hlh (rangeAt.ext R1.out u), hK _ ?_⟩; clear hK K; simp only [Act.put, List.setIfInBounds_toArray, List.set_cons_zero, List.set_cons_succ])
  refine wpX_rel 23 (TxB 0 WB) rfl (of_decide_eq_true rfl) (TxB.mono _ _) (fun w5 hw5 => ?_) ?_
  · simp only [relOf, List.filter_nil, forallRel]
    refine ⟨rfl, ?_⟩
    go_simp
    refine (C4.out w5).mono ?_
    rintro e w6 ⟨v, rfl, o6, b6⟩
    exact ⟨v, rfl, ⟨o6, fun _ _ => Nat.zero_le _⟩, b6⟩
  refine wpX_eq (str WB) (fun w5 hw5 => ?_) ?_
  · change forallRel w5 [(23, _)] _ _
    intro v5 h5
    simp only [forallRel]
    refine ⟨rfl, ?_⟩
    have c99 := run_str (P := Try.prog) (src := 29) (dst := 9) elU8.ht (by kernel_rfl) (by kernel_rfl) h5.1
    go_simp
    exact Below.refl _ _
  iterate 7 (refine wpX_step (by rfl) (fun K hK => ?_); go_simp; first | (refine hK _ ?_; clear hK K) | (apply Exists.intro; refine ⟨fun _ => ?_, hK _ ?_⟩; fail; clear hK K))
  (refine wpX_step (by rfl) (fun K hK => ?_); rw [if_pos (by rfl)]; refine ⟨_, fun u => const_loadm _ (.tmp 5) (by rfl) _ _ (by rfl) aggHd hl1 (rangeAt.ext R2.out u), hK _ ?_⟩; clear hK K; simp only [Act.put, List.setIfInBounds_toArray, List.set_cons_zero, List.set_cons_succ])
  (refine wpX_step (by rfl) (fun K hK => ?_); rw [if_pos (by rfl)]; refine ⟨_, fun u => const_loadm _ (.tmp 7) (by rfl) _ _ (by rfl) aggHd hl1 (rangeAt.ext R3.out u), hK _ ?_⟩; clear hK K; simp only [Act.put, List.setIfInBounds_toArray, List.set_cons_zero, List.set_cons_succ])
  (refine wpX_step (by rfl) (fun K hK => ?_); rw [if_pos (by rfl)]; refine ⟨_, fun u => const_eql _ _ _ _ (by rfl) (by rfl) (by rfl) (fun o1 o2 w1 => guard_eqHd H H o1 o2 w1) (fun w1 => E1.out w1), hK _ ?_⟩; clear hK K; simp only [Act.put, List.setIfInBounds_toArray, List.set_cons_zero, List.set_cons_succ])
  iterate 2 (refine wpX_step (by rfl) (fun K hK => ?_); go_simp; first | (refine hK _ ?_; clear hK K) | (apply Exists.intro; refine ⟨fun _ => ?_, hK _ ?_⟩; fail; clear hK K))
  (refine wpX_step (by rfl) (fun K hK => ?_); rw [if_pos (by rfl)]; refine ⟨_, fun u => const_loadm _ (.tmp 2) (by rfl) _ _ (by rfl) aggHd hlh (rangeAt.ext R1.out u), hK _ ?_⟩; clear hK K; simp only [Act.put, List.setIfInBounds_toArray, List.set_cons_zero, List.set_cons_succ])
  (refine wpX_step (by rfl) (fun K hK => ?_); go_simp; first | (refine hK _ ?_; clear hK K) | (apply Exists.intro; refine ⟨fun _ => ?_, hK _ ?_⟩; exact C5.out _; clear hK K))
  (refine wpX_step (by rfl) (fun K hK => ?_); rw [if_pos (by rfl)]; refine ⟨_, fun u => const_loadm _ (.tmp 2) (by rfl) _ _ (by rfl) aggHd hlh (rangeAt.ext R1.out u), hK _ ?_⟩; clear hK K; simp only [Act.put, List.setIfInBounds_toArray, List.set_cons_zero, List.set_cons_succ])
  (refine wpX_step (by rfl) (fun K hK => ?_); go_simp; first | (refine hK _ ?_; clear hK K) | (apply Exists.intro; refine ⟨fun _ => ?_, hK _ ?_⟩; exact C6.out _; clear hK K))
  (refine wpX_step (by rfl) (fun K hK => ?_); rw [if_pos (by rfl)]; refine ⟨_, fun u => const_eql _ _ _ _ (by rfl) (by rfl) (by rfl) (fun o1 o2 w1 => G1.out o1 o2 w1) (fun w1 => Q1.out w1), hK _ ?_⟩; clear hK K; simp only [Act.put, List.setIfInBounds_toArray, List.set_cons_zero, List.set_cons_succ])
  (refine wpX_step (by rfl) (fun K hK => ?_); go_simp; first | (refine hK _ ?_; clear hK K) | (apply Exists.intro; refine ⟨fun _ => ?_, hK _ ?_⟩; fail; clear hK K))
  refine wpX_nil ?_
  intro u2 hb2 v20 _ v23 _
  change wpList _ _ _ [_] _ _
  have hbel2 := Below.then bel4 hb2
  go_wp2
  go_ret
  exact ⟨rfl, hbel2⟩
end Go.Proofs.Ytffkjjpjfehcnaa
