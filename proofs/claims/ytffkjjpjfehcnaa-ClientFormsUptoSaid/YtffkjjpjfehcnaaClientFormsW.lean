/- The walk of the law ClientForms. -/
import Derived.Test.YtffkjjpjfehcnaaCli8
import Derived.Test.YtffkjjpjfehcnaaCli10
set_option linter.unusedSimpArgs false
set_option linter.unusedVariables false
namespace Go.Proofs.Ytffkjjpjfehcnaa
open Go.RowKit
set_option maxHeartbeats 2000000 in
set_option maxRecDepth 100000 in
theorem clientForms_walk (t : Sto) (k : t.Ok) (vs vn : Value) (a : Option Addr) (c : Nat) (b : List UInt8) (hLs : b.length ≤ 1048576) (w : World) (h1 : RowOf u64c 1 w vs t.s) (h2 : RowOf u64c 1 w vn t.n) (hb : Bytes w (.slice a b.length c) b) :
    Calls Try.prog 4 #[.agg (hdcs t.hd ++ [vs, vn]).toArray, .slice a b.length c] w fun e w' => e = .returned (.bool true) ∧ Below w.heap.size w w' := by
  have hl0 := stc_len k.hd vs vn
  have hlh := hdcs_len k.hd
  have c1 := fun u hu => readS_any a b.length c b rfl hLs u hu
  have c2 := fun u hu => creadS_any a b.length c b rfl hLs u hu
  have c3 := fun u (hu : Below w.heap.size w u) => cwrite_any t k vs vn u (h1.below hu) (h2.below hu)
  have c4 := fun u (hu : Below w.heap.size w u) => ccwrite_any t k vs vn u (h1.below hu) (h2.below hu)
  have c5 := fun u => cenv_any t.hd k.hd u
  have c6 := fun u => ccenv_any t.hd k.hd u
  have e1 := fun w1 => run_eqEnv k.hd w1
  have g1 := fun o1 o2 w1 => guard_eqEnv t.hd o1 o2 w1
  obtain ⟨WB, hWB⟩ : ∃ WB, WB = wC t := ⟨_, rfl⟩
  simp only [← hWB] at c3 c4
  have hz0 : Blk 38 (w.alloc (.cells (hdcs t.hd ++ [vs, vn]).toArray 38)) w.heap.size (hdcs t.hd ++ [vs, vn]) := Blk.new w _ _
  have hbel0 : Below w.heap.size w (w.alloc (.cells (hdcs t.hd ++ [vs, vn]).toArray 38)) := (Below.refl _ _).alloc (Nat.le_refl _) _
  have shd := stc_hd k.hd vs vn
  generalize (Value.agg (envc t.hd).toArray) = X at *
  have C1 := Lib.hid c1
  have C2 := Lib.hid c2
  have C3 := Lib.hid c3
  have C4 := Lib.hid c4
  have C5 := Lib.hid c5
  have C6 := Lib.hid c6
  have E1 := Lib.hid e1
  have G1 := Lib.hid g1
  have Shd := Lib.hid shd
  have hlz := zst_len
  clear c1 c2 c3 c4 c5 c6 e1 g1 k hLs hWB h1 h2 shd
  go_enter Try.func4, Try.ntmps4
  go_wp2_with (first
    | (go_at_call 20; (with_reducible refine (C1.out _ (hb.alloc _)).mono ?_); rintro e w1 ⟨T, E, xs, xn, rfl, hT, hR1, r1, r2, b1⟩; obtain ⟨xa, xc, rfl, _⟩ := r1.form; obtain ⟨ya, yc, rfl, _⟩ := r2.form; have z1 := hz0.kept b1; have bel1 := Below.then hbel0 b1; have hl1 := stc_len hT.hd (.slice xa T.s.length xc) (.slice ya T.n.length yc))
    | ((with_reducible show wpList _ _ _ (⟨none, Op.store _ _ (Operand.tmp 12), _, _, _, _⟩ :: _) _ _); refine wpList_storeA (o := ⟨none, _, _, _, _, _⟩) (by rfl) 38 (.tmp 5) (.tmp 12) (by rfl) w1.heap.size (hdcs T.hd ++ [.slice xa T.s.length xc, .slice ya T.n.length yc]) (by rfl) (by rfl) aggSt (old := zst) (by rw [zcSt]; exact Blk.new w1 _ _) hl1 hlz (stc_one _ _ _ _ _ _ _) ((Below.refl w1.heap.size w1).alloc (Nat.le_refl _) _) (Nat.le_refl _) ?_; intro w2 x2 b2 _; have z2 := z1.kept b2; have bel2 := Below.then bel1 b2)
    | (go_at_call 21; (with_reducible refine (C2.out _ (hb.below bel2)).mono ?_); rintro e w3 ⟨T', E', xs', xn', rfl, hT', hR2, r3, r4, b3⟩; obtain ⟨rfl, rfl⟩ := RdC.one hT hT' hR1 hR2; obtain ⟨ua, uc, rfl, _⟩ := r3.form; obtain ⟨va, vc, rfl, _⟩ := r4.form; have z3 := z2.kept b3; have x3 := x2.kept b3; have bel3 := Below.then bel2 b3; have b13 := Below.then b2 b3; have hl3 := stc_len hT.hd (.slice ua T.s.length uc) (.slice va T.n.length vc))
    | ((with_reducible show wpList _ _ _ (⟨none, Op.store _ _ (Operand.tmp 17), _, _, _, _⟩ :: _) _ _); refine wpList_storeA (o := ⟨none, _, _, _, _, _⟩) (by rfl) 38 (.tmp 7) (.tmp 17) (by rfl) w3.heap.size (hdcs T.hd ++ [.slice ua T.s.length uc, .slice va T.n.length vc]) (by rfl) (by rfl) aggSt (old := zst) (by rw [zcSt]; exact Blk.new w3 _ _) hl3 hlz (stc_one _ _ _ _ _ _ _) ((Below.refl w3.heap.size w3).alloc (Nat.le_refl _) _) (Nat.le_refl _) ?_; intro w4 y4 b4 _; have z4 := z3.kept b4; have x4 := x3.kept b4; have bel4 := Below.then bel3 b4; have b14 := Below.then b13 b4))
  have S1 : Hid (∀ u, Below w4.heap.size w4 u → _) := Lib.hid (fun u hu => samestore_any T hT (.slice xa T.s.length xc) (.slice ya T.n.length yc) (.slice ua T.s.length uc) (.slice va T.n.length vc) u (r1.below (Below.then b14 hu)) (r2.below (Below.then b14 hu)) (r3.below (Below.then b4 hu)) (r4.below (Below.then b4 hu)))
  have R1 := Lib.hid (Blk.all0 z4)
  have R2 := Lib.hid (Blk.all0 x4)
  have R3 := Lib.hid (Blk.all0 y4)
  have r5 := z4.range 0 204
  rw [Shd.out] at r5
  have R5 := Lib.hid r5
  have hEE : (E == E) = true := by simp
  have hWW : (WB == WB) = true := by simp
  clear hz0 hbel0 b1 z1 bel1 x2 b2 z2 bel2 b3 z3 x3 bel3 y4 b4 z4 x4 hR1 hR2 hT' b13 b14 r1 r2 r3 r4 r5
  refine wp_region_typed w4 26 (by kernel_rfl) (by kernel_rfl) (Below.refl _ _) ?_; simp only [List.take_succ_cons, List.take_zero, List.take_nil]
  (refine wpX_step (by rfl) (fun K hK => ?_); rw [if_pos (by rfl)]; refine ⟨_, fun u => const_loadm _ (.tmp 2) (by rfl) _ _ (by rfl) aggSt hl0 (rangeAt.ext R1.out u), hK _ ?_⟩; clear hK K; simp only [Act.put, List.setIfInBounds_toArray, List.set_cons_zero, List.set_cons_succ])
  refine wpX_rel 20 (TxB 0 WB) rfl (of_decide_eq_true rfl) (TxB.mono _ _) (fun w5 hw5 => ?_) ?_
  · simp only [relOf, List.filter_nil, List.filter_cons, forallRel]
    try simp only [forallRel]
    refine ⟨rfl, ?_⟩
    go_simp
    refine (C3.out w5 (Below.then bel4 hw5)).mono ?_
    rintro e w6 ⟨v, rfl, o6, b6⟩
    exact ⟨v, rfl, ⟨o6, fun _ _ => Nat.zero_le _⟩, b6⟩
  refine wpX_eq (str WB) (fun w5 hw5 => ?_) ?_
  · change forallRel w5 [(20, _)] _ _
    intro v5 h5
    simp only [forallRel]
    refine ⟨rfl, ?_⟩
    have c99 := run_str (P := Try.prog) (src := 29) (dst := 9) elU8.ht (by kernel_rfl) (by kernel_rfl) h5.1
    go_simp
    exact Below.refl _ _
  (refine wpX_step (by rfl) (fun K hK => ?_); rw [if_pos (by rfl)]; refine ⟨_, fun u => const_loadm _ (.tmp 2) (by rfl) _ _ (by rfl) aggSt hl0 (rangeAt.ext R1.out u), hK _ ?_⟩; clear hK K; simp only [Act.put, List.setIfInBounds_toArray, List.set_cons_zero, List.set_cons_succ])
  refine wpX_rel 23 (TxB 0 WB) rfl (of_decide_eq_true rfl) (TxB.mono _ _) (fun w5 hw5 => ?_) ?_
  · simp only [relOf, List.filter_nil, List.filter_cons, forallRel]
    try simp only [forallRel]
    refine ⟨rfl, ?_⟩
    go_simp
    refine (C4.out w5 (Below.then bel4 hw5)).mono ?_
    rintro e w6 ⟨v, rfl, o6, b6⟩
    exact ⟨v, rfl, ⟨o6, fun _ _ => Nat.zero_le _⟩, b6⟩
  refine wpX_eq (str WB) (fun w5 hw5 => ?_) ?_
  · change forallRel w5 [(23, _)] _ _
    intro v5 h5
    simp only [forallRel]
    refine ⟨rfl, ?_⟩
    have c99 := run_str (P := Try.prog) (src := 29) (dst := 9) elU8.ht (by kernel_rfl) (by kernel_rfl) h5.1
    go_simp
    exact Below.refl _ _
  iterate 7 (refine wpX_step (by rfl) (fun K hK => ?_); go_simp; first | (refine hK _ ?_; clear hK K) | (apply Exists.intro; refine ⟨fun _ => ?_, hK _ ?_⟩; fail; clear hK K))
  (refine wpX_step (by rfl) (fun K hK => ?_); rw [if_pos (by rfl)]; refine ⟨_, fun u => const_loadm _ (.tmp 5) (by rfl) _ _ (by rfl) aggSt hl1 (rangeAt.ext R2.out u), hK _ ?_⟩; clear hK K; simp only [Act.put, List.setIfInBounds_toArray, List.set_cons_zero, List.set_cons_succ])
  (refine wpX_step (by rfl) (fun K hK => ?_); rw [if_pos (by rfl)]; refine ⟨_, fun u => const_loadm _ (.tmp 7) (by rfl) _ _ (by rfl) aggSt hl3 (rangeAt.ext R3.out u), hK _ ?_⟩; clear hK K; simp only [Act.put, List.setIfInBounds_toArray, List.set_cons_zero, List.set_cons_succ])
  (refine wpX_step (by rfl) (fun K hK => ?_); go_simp; first | (refine hK _ ?_; clear hK K) | (apply Exists.intro; refine ⟨fun _ => ?_, hK _ ?_⟩; exact S1.out _ (Subtype.property _); clear hK K))
  iterate 3 (refine wpX_step (by rfl) (fun K hK => ?_); go_simp; first | (refine hK _ ?_; clear hK K) | (apply Exists.intro; refine ⟨fun _ => ?_, hK _ ?_⟩; fail; clear hK K))
  (refine wpX_step (by rfl) (fun K hK => ?_); rw [if_pos (by rfl)]; refine ⟨_, fun u => const_loadm _ (.tmp 37) (by rfl) _ _ (by rfl) aggHd hlh (rangeAt.ext R5.out u), hK _ ?_⟩; clear hK K; simp only [Act.put, List.setIfInBounds_toArray, List.set_cons_zero, List.set_cons_succ])
  (refine wpX_step (by rfl) (fun K hK => ?_); go_simp; first | (refine hK _ ?_; clear hK K) | (apply Exists.intro; refine ⟨fun _ => ?_, hK _ ?_⟩; exact C5.out _; clear hK K))
  (refine wpX_step (by rfl) (fun K hK => ?_); go_simp; first | (refine hK _ ?_; clear hK K) | (apply Exists.intro; refine ⟨fun _ => ?_, hK _ ?_⟩; fail; clear hK K))
  (refine wpX_step (by rfl) (fun K hK => ?_); rw [if_pos (by rfl)]; refine ⟨_, fun u => const_loadm _ (.tmp 40) (by rfl) _ _ (by rfl) aggHd hlh (rangeAt.ext R5.out u), hK _ ?_⟩; clear hK K; simp only [Act.put, List.setIfInBounds_toArray, List.set_cons_zero, List.set_cons_succ])
  (refine wpX_step (by rfl) (fun K hK => ?_); go_simp; first | (refine hK _ ?_; clear hK K) | (apply Exists.intro; refine ⟨fun _ => ?_, hK _ ?_⟩; exact C6.out _; clear hK K))
  (refine wpX_step (by rfl) (fun K hK => ?_); rw [if_pos (by rfl)]; refine ⟨_, fun u => const_eql _ _ _ _ (by rfl) (by rfl) (by rfl) (fun o1 o2 w1 => G1.out o1 o2 w1) (fun w1 => E1.out w1), hK _ ?_⟩; clear hK K; simp only [Act.put, List.setIfInBounds_toArray, List.set_cons_zero, List.set_cons_succ])
  (refine wpX_step (by rfl) (fun K hK => ?_); go_simp; first | (refine hK _ ?_; clear hK K) | (apply Exists.intro; refine ⟨fun _ => ?_, hK _ ?_⟩; fail; clear hK K))
  refine wpX_nil ?_
  intro u2 hb2 v20 _ v23 _
  change wpList _ _ _ [_] _ _
  have hbel2 := Below.then bel4 hb2
  go_wp2
  go_ret
  exact ⟨rfl, hbel2⟩
end Go.Proofs.Ytffkjjpjfehcnaa
