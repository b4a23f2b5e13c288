/- The walk of the law BloomFilters. -/
import Derived.Test.YtfedjbodcebdnaaBloom8
set_option linter.unusedSimpArgs false
set_option linter.unusedVariables false
namespace Go.Proofs.Ytfedjbodcebdnaa
open Go.RowKit
theorem bytes_of_ints' (xs : List Int) (hw : ∀ x ∈ xs, (Lit.int .u8 x).wf = true) : ∃ F : List UInt8, F.length = xs.length ∧ xs.map (Value.int .u8) = fcs F := by
  refine ⟨xs.map fun x => UInt8.ofNat x.toNat, by simp, ?_⟩
  unfold fcs
  rw [List.map_map]
  exact List.map_congr_left fun x hx => u8v_of x (wf_u8_lt (hw x hx))
theorem run_beq_bool (b : Bool) (w1 : World) : (binOp .eql 4 (.bool b) (.bool b)).run Try.prog w1 = .ok (.bool true) w1 := by cases b <;> kernel_rfl
set_option maxHeartbeats 4000000 in
set_option maxRecDepth 100000 in
theorem bloomFilters_walk (a : Option Addr) (n c : Nat) (ps : List (Value × List UInt8)) (hn : ps.length = n) (fs gs : List Int) (hfl : fs.length = 32) (hfw : ∀ x ∈ fs, (Lit.int .u8 x).wf = true) (hgl : gs.length = 32) (hgw : ∀ x ∈ gs, (Lit.int .u8 x).wf = true)
    (ta : Option Addr) (tn tc : Nat) (l : List UInt8) (htn : l.length = tn) (w : World) (h : Texts w (.slice a n c) ps) (ht : Bytes w (.slice ta tn tc) l) (hsz : ∀ p ∈ ps, p.2.length + 64 ≤ 140737488355328) (hts : tn + 64 ≤ 140737488355328) :
    Calls Try.prog 9 #[.slice a n c, .agg (fs.map (Value.int .u8)).toArray, .agg (gs.map (Value.int .u8)).toArray, .slice ta tn tc] w fun e w' => e = .returned (.bool true) ∧ Below w.heap.size w w' := by
  obtain ⟨F, hF, hFe⟩ := bytes_of_ints' fs hfw
  obtain ⟨G, hG, hGe⟩ := bytes_of_ints' gs hgw
  rw [hfl] at hF
  rw [hgl] at hG
  rw [hFe, hGe]
  have hf1 := (Blk.new w 28 (fcs F)).alloc (.cells (fcs G).toArray 28)
  have hg1 : Blk 28 ((w.alloc (.cells (fcs F).toArray 28)).alloc (.cells (fcs G).toArray 28)) (w.heap.size + 1) (fcs G) := by
    have := Blk.new (w.alloc (.cells (fcs F).toArray 28)) 28 (fcs G)
    simpa using this
  have hbel1 : Below w.heap.size w ((w.alloc (.cells (fcs F).toArray 28)).alloc (.cells (fcs G).toArray 28)) := ((Below.refl _ _).alloc (Nat.le_refl _) _).alloc (by simp) _
  have c1 : ∀ x, Below w.heap.size w x → Calls Try.prog 31 #[.slice a n c] x fun e w' => e = .returned (.agg (fcs (mkF (hasB ps) 256)).toArray) ∧ Below x.heap.size x w' := fun x hb => of_any a n c ps hn x (h.below hb)
  have c2 : ∀ x, Below w.heap.size w x → Calls Try.prog 32 #[.slice a n c] x fun e w' => e = .returned (.agg (fcs (mkF (hasB ps) 256)).toArray) ∧ Below x.heap.size x w' := fun x hb => jof_any a n c ps hn x (h.below hb) hsz
  have c3 := fun x => bjoin_any F G hF hG x
  have c4 := fun x => jjoin_any F G hF hG x
  have c5 := fun x => within_any F G hF hG x
  have c6 := fun x => jwithin_any F G hF hG x
  have c7 : ∀ x, Below w.heap.size w x → Calls Try.prog 37 #[.agg (fcs F).toArray, .slice ta tn tc] x fun e w' => e = .returned (.bool (mayB F l)) ∧ Below x.heap.size x w' := fun x hb => may_any F hF ta tn tc l x (ht.below hb)
  have c8 : ∀ x, Below w.heap.size w x → Calls Try.prog 38 #[.agg (fcs F).toArray, .slice ta tn tc] x fun e w' => e = .returned (.bool (mayB F l)) ∧ Below x.heap.size x w' := fun x hb => jmay_any F hF ta tn tc l htn x (ht.below hb) hts
  have g1 := guard_f (mkF (hasB ps) 256) (mkF (hasB ps) 256)
  have q1 := run_eq_f (mkF (hasB ps) 256) (mkF (hasB ps) 256) (mkF_len _ _) (mkF_len _ _)
  have g2 := guard_f (mkF (orB F G) 256) (mkF (orB F G) 256)
  have q2 := run_eq_f (mkF (orB F G) 256) (mkF (orB F G) 256) (mkF_len _ _) (mkF_len _ _)
  rw [beq_self_eq_true] at q1 q2
  have hfl := fcs_len hF
  have hgl := fcs_len hG
  obtain ⟨A, hA⟩ : ∃ A, A = fcs (mkF (hasB ps) 256) := ⟨_, rfl⟩
  obtain ⟨B, hB⟩ : ∃ B, B = fcs (mkF (orB F G) 256) := ⟨_, rfl⟩
  obtain ⟨X, hX⟩ : ∃ X, X = fcs F := ⟨_, rfl⟩
  obtain ⟨Y, hY⟩ : ∃ Y, Y = fcs G := ⟨_, rfl⟩
  simp only [← hA, ← hB, ← hX, ← hY] at c1 c2 c3 c4 c5 c6 c7 c8 g1 q1 g2 q2 hfl hgl hf1 hg1 hbel1
  rw [← hX, ← hY]
  obtain ⟨b1, hb1⟩ : ∃ b, b = wit F G := ⟨_, rfl⟩
  obtain ⟨b2, hb2⟩ : ∃ b, b = mayB F l := ⟨_, rfl⟩
  simp only [← hb1] at c5 c6
  simp only [← hb2] at c7 c8
  obtain ⟨w1, hw1⟩ : ∃ w1, w1 = (w.alloc (.cells X.toArray 28)).alloc (.cells Y.toArray 28) := ⟨_, rfl⟩
  rw [← hw1] at hf1 hg1 hbel1
  have Hw1 := Lib.hid hw1
  have C1 := Lib.hid c1
  have C2 := Lib.hid c2
  have C3 := Lib.hid c3
  have C4 := Lib.hid c4
  have C5 := Lib.hid c5
  have C6 := Lib.hid c6
  have C7 := Lib.hid c7
  have C8 := Lib.hid c8
  have G1 := Lib.hid g1
  have Q1 := Lib.hid q1
  have G2 := Lib.hid g2
  have Q2 := Lib.hid q2
  have R1 := Lib.hid (Blk.all0 hf1)
  have R2 := Lib.hid (Blk.all0 hg1)
  have Hfl := Lib.hid hfl
  have Hgl := Lib.hid hgl
  clear hw1 c1 c2 c3 c4 c5 c6 c7 c8 g1 q1 g2 q2 hf1 hg1 hfl hgl hA hB hX hY hb1 hb2 hF hG hFe hGe h ht hsz hts hn htn hfw hgw
  go_enter Try.func9, Try.ntmps9
  go_wp2_with fail
  rw [← Hw1.out]
  refine wp_region_typed w1 32 (by kernel_rfl) (by kernel_rfl) (Below.refl _ _) ?_; simp only [List.take_succ_cons, List.take_zero, List.take_nil]
  (refine wpX_step (by rfl) (fun K hK => ?_); go_simp; first | (refine hK _ ?_; clear hK K) | (apply Exists.intro; refine ⟨fun _ => ?_, hK _ ?_⟩; fail; clear hK K))
  (refine wpX_step (by rfl) (fun K hK => ?_); go_simp; first | (refine hK _ ?_; clear hK K) | (apply Exists.intro; refine ⟨fun _ => ?_, hK _ ?_⟩; exact C1.out _ (Below.then hbel1 (Subtype.property _)); clear hK K))
  (refine wpX_step (by rfl) (fun K hK => ?_); go_simp; first | (refine hK _ ?_; clear hK K) | (apply Exists.intro; refine ⟨fun _ => ?_, hK _ ?_⟩; fail; clear hK K))
  (refine wpX_step (by rfl) (fun K hK => ?_); go_simp; first | (refine hK _ ?_; clear hK K) | (apply Exists.intro; refine ⟨fun _ => ?_, hK _ ?_⟩; exact C2.out _ (Below.then hbel1 (Subtype.property _)); clear hK K))
  (refine wpX_step (by rfl) (fun K hK => ?_); rw [if_pos (by rfl)]; refine ⟨_, fun u => const_eql _ _ _ _ (by rfl) (by rfl) (by rfl) (fun o1 o2 w1 => G1.out o1 o2 w1) (fun w1 => Q1.out w1), hK _ ?_⟩; clear hK K; simp only [Act.put, List.setIfInBounds_toArray, List.set_cons_zero, List.set_cons_succ])
  (refine wpX_step (by rfl) (fun K hK => ?_); go_simp; first | (refine hK _ ?_; clear hK K) | (apply Exists.intro; refine ⟨fun _ => ?_, hK _ ?_⟩; fail; clear hK K))
  (refine wpX_step (by rfl) (fun K hK => ?_); rw [if_pos (by rfl)]; refine ⟨_, fun u => const_loadm _ (.tmp 5) (by rfl) _ _ (by rfl) aggHash' Hfl.out (rangeAt.ext R1.out u), hK _ ?_⟩; clear hK K; simp only [Act.put, List.setIfInBounds_toArray, List.set_cons_zero, List.set_cons_succ])
  (refine wpX_step (by rfl) (fun K hK => ?_); rw [if_pos (by rfl)]; refine ⟨_, fun u => const_loadm _ (.tmp 6) (by rfl) _ _ (by rfl) aggHash' Hgl.out (rangeAt.ext R2.out u), hK _ ?_⟩; clear hK K; simp only [Act.put, List.setIfInBounds_toArray, List.set_cons_zero, List.set_cons_succ])
  (refine wpX_step (by rfl) (fun K hK => ?_); go_simp; first | (refine hK _ ?_; clear hK K) | (apply Exists.intro; refine ⟨fun _ => ?_, hK _ ?_⟩; exact C3.out _; clear hK K))
  (refine wpX_step (by rfl) (fun K hK => ?_); rw [if_pos (by rfl)]; refine ⟨_, fun u => const_loadm _ (.tmp 5) (by rfl) _ _ (by rfl) aggHash' Hfl.out (rangeAt.ext R1.out u), hK _ ?_⟩; clear hK K; simp only [Act.put, List.setIfInBounds_toArray, List.set_cons_zero, List.set_cons_succ])
  (refine wpX_step (by rfl) (fun K hK => ?_); rw [if_pos (by rfl)]; refine ⟨_, fun u => const_loadm _ (.tmp 6) (by rfl) _ _ (by rfl) aggHash' Hgl.out (rangeAt.ext R2.out u), hK _ ?_⟩; clear hK K; simp only [Act.put, List.setIfInBounds_toArray, List.set_cons_zero, List.set_cons_succ])
  (refine wpX_step (by rfl) (fun K hK => ?_); go_simp; first | (refine hK _ ?_; clear hK K) | (apply Exists.intro; refine ⟨fun _ => ?_, hK _ ?_⟩; exact C4.out _; clear hK K))
  (refine wpX_step (by rfl) (fun K hK => ?_); rw [if_pos (by rfl)]; refine ⟨_, fun u => const_eql _ _ _ _ (by rfl) (by rfl) (by rfl) (fun o1 o2 w1 => G2.out o1 o2 w1) (fun w1 => Q2.out w1), hK _ ?_⟩; clear hK K; simp only [Act.put, List.setIfInBounds_toArray, List.set_cons_zero, List.set_cons_succ])
  (refine wpX_step (by rfl) (fun K hK => ?_); go_simp; first | (refine hK _ ?_; clear hK K) | (apply Exists.intro; refine ⟨fun _ => ?_, hK _ ?_⟩; fail; clear hK K))
  (refine wpX_step (by rfl) (fun K hK => ?_); go_simp; first | (refine hK _ ?_; clear hK K) | (apply Exists.intro; refine ⟨fun _ => ?_, hK _ ?_⟩; fail; clear hK K))
  (refine wpX_step (by rfl) (fun K hK => ?_); rw [if_pos (by rfl)]; refine ⟨_, fun u => const_loadm _ (.tmp 5) (by rfl) _ _ (by rfl) aggHash' Hfl.out (rangeAt.ext R1.out u), hK _ ?_⟩; clear hK K; simp only [Act.put, List.setIfInBounds_toArray, List.set_cons_zero, List.set_cons_succ])
  (refine wpX_step (by rfl) (fun K hK => ?_); rw [if_pos (by rfl)]; refine ⟨_, fun u => const_loadm _ (.tmp 6) (by rfl) _ _ (by rfl) aggHash' Hgl.out (rangeAt.ext R2.out u), hK _ ?_⟩; clear hK K; simp only [Act.put, List.setIfInBounds_toArray, List.set_cons_zero, List.set_cons_succ])
  (refine wpX_step (by rfl) (fun K hK => ?_); go_simp; first | (refine hK _ ?_; clear hK K) | (apply Exists.intro; refine ⟨fun _ => ?_, hK _ ?_⟩; exact C5.out _; clear hK K))
  (refine wpX_step (by rfl) (fun K hK => ?_); rw [if_pos (by rfl)]; refine ⟨_, fun u => const_loadm _ (.tmp 5) (by rfl) _ _ (by rfl) aggHash' Hfl.out (rangeAt.ext R1.out u), hK _ ?_⟩; clear hK K; simp only [Act.put, List.setIfInBounds_toArray, List.set_cons_zero, List.set_cons_succ])
  (refine wpX_step (by rfl) (fun K hK => ?_); rw [if_pos (by rfl)]; refine ⟨_, fun u => const_loadm _ (.tmp 6) (by rfl) _ _ (by rfl) aggHash' Hgl.out (rangeAt.ext R2.out u), hK _ ?_⟩; clear hK K; simp only [Act.put, List.setIfInBounds_toArray, List.set_cons_zero, List.set_cons_succ])
  (refine wpX_step (by rfl) (fun K hK => ?_); go_simp; first | (refine hK _ ?_; clear hK K) | (apply Exists.intro; refine ⟨fun _ => ?_, hK _ ?_⟩; exact C6.out _; clear hK K))
  (refine wpX_step (by rfl) (fun K hK => ?_); go_simp; first | (refine hK _ ?_; clear hK K) | (apply Exists.intro; refine ⟨fun _ => ?_, hK _ ?_⟩; fail; clear hK K))
  (refine wpX_step (by rfl) (fun K hK => ?_); go_simp; first | (refine hK _ ?_; clear hK K) | (apply Exists.intro; refine ⟨fun _ => ?_, hK _ ?_⟩; fail; clear hK K))
  (refine wpX_step (by rfl) (fun K hK => ?_); go_simp; first | (refine hK _ ?_; clear hK K) | (apply Exists.intro; refine ⟨fun _ => ?_, hK _ ?_⟩; fail; clear hK K))
  (refine wpX_step (by rfl) (fun K hK => ?_); rw [if_pos (by rfl)]; refine ⟨_, fun u => const_loadm _ (.tmp 5) (by rfl) _ _ (by rfl) aggHash' Hfl.out (rangeAt.ext R1.out u), hK _ ?_⟩; clear hK K; simp only [Act.put, List.setIfInBounds_toArray, List.set_cons_zero, List.set_cons_succ])
  (refine wpX_step (by rfl) (fun K hK => ?_); go_simp; first | (refine hK _ ?_; clear hK K) | (apply Exists.intro; refine ⟨fun _ => ?_, hK _ ?_⟩; fail; clear hK K))
  (refine wpX_step (by rfl) (fun K hK => ?_); go_simp; first | (refine hK _ ?_; clear hK K) | (apply Exists.intro; refine ⟨fun _ => ?_, hK _ ?_⟩; exact C7.out _ (Below.then hbel1 (Subtype.property _)); clear hK K))
  (refine wpX_step (by rfl) (fun K hK => ?_); rw [if_pos (by rfl)]; refine ⟨_, fun u => const_loadm _ (.tmp 5) (by rfl) _ _ (by rfl) aggHash' Hfl.out (rangeAt.ext R1.out u), hK _ ?_⟩; clear hK K; simp only [Act.put, List.setIfInBounds_toArray, List.set_cons_zero, List.set_cons_succ])
  (refine wpX_step (by rfl) (fun K hK => ?_); go_simp; first | (refine hK _ ?_; clear hK K) | (apply Exists.intro; refine ⟨fun _ => ?_, hK _ ?_⟩; fail; clear hK K))
  (refine wpX_step (by rfl) (fun K hK => ?_); go_simp; first | (refine hK _ ?_; clear hK K) | (apply Exists.intro; refine ⟨fun _ => ?_, hK _ ?_⟩; exact C8.out _ (Below.then hbel1 (Subtype.property _)); clear hK K))
  (refine wpX_step (by rfl) (fun K hK => ?_); go_simp; first | (refine hK _ ?_; clear hK K) | (apply Exists.intro; refine ⟨fun _ => ?_, hK _ ?_⟩; fail; clear hK K))
  (refine wpX_step (by rfl) (fun K hK => ?_); go_simp; first | (refine hK _ ?_; clear hK K) | (apply Exists.intro; refine ⟨fun _ => ?_, hK _ ?_⟩; fail; clear hK K))
  refine wpX_nil ?_
  intro u2 hb2
  change wpList _ _ _ [_] _ _
  have hbel2 := Below.then hbel1 hb2
  go_wp2
  go_ret
  exact ⟨rfl, hbel2⟩
end Go.Proofs.Ytfedjbodcebdnaa
