/- The walk of the law VmAddresses. -/
import Derived.Test.YtfedjbodcebdnaaVm3
import Derived.Test.YtfedjbodcebdnaaEq
import Derived.Test.YtfedjbodcebdnaaOpen
import Derived.Test.YtfedjbodcebdnaaWordBytesW
set_option linter.unusedSimpArgs false
set_option linter.unusedVariables false
namespace Go.Proofs.Ytfedjbodcebdnaa
open Go.RowKit
theorem run_eq_addr (l : List UInt8) (hl : l.length = 8) (w1 : World) : (binOp .eql 31 (.agg (l.map u8v).toArray) (.agg (l.map u8v).toArray)).run Try.prog w1 = .ok (.bool true) w1 := by
  have h2 : (l.map fun x => (x.toNat : Int)).map (Value.int .u8) = l.map u8v := by rw [List.map_map]; rfl
  have := run_eqA (P := Try.prog) w1 Try.underlying31 Try.underlying5 (by kernel_rfl) (l.map fun x => (x.toNat : Int)) (l.map fun x => (x.toNat : Int)) (by rw [List.length_map, hl]) (by rw [List.length_map, hl])
  rw [h2, beq_self_eq_true] at this
  exact this
theorem guard_addr (l : List UInt8) (o1 o2 : Operand) (w1 : World) : (eqGuard .eql 31 o1 o2 (.agg (l.map u8v).toArray) (.agg (l.map u8v).toArray)).run Try.prog w1 = .ok () w1 := by
  exact run_eqGuard_agg (P := Try.prog) (w := w1) .eql 31 o1 o2 _ _ (by kernel_rfl)
theorem Blk.all {e : TypeId} {w : World} {g : Nat} {cs : List Value} (h : Blk e w g cs) : w.rangeAt g 0 cs := fun j v hv => by rw [Nat.zero_add, h.cell]; exact hv
theorem bytes_of_ints (xs : List Int) (hw : ∀ x ∈ xs, (Lit.int .u8 x).wf = true) : ∃ F : List UInt8, F.length = xs.length ∧ xs.map (Value.int .u8) = F.map u8v := by
  refine ⟨xs.map fun x => UInt8.ofNat x.toNat, by simp, ?_⟩
  rw [List.map_map]
  exact List.map_congr_left fun x hx => u8v_of x (wf_u8_lt (hw x hx))
set_option maxHeartbeats 1000000 in
set_option maxRecDepth 100000 in
theorem vmAddresses_walk (xs : List Int) (hx4 : xs.length = 4) (hxw : ∀ x ∈ xs, (Lit.int .u64 x).wf = true) (ys : List Int) (hy : ys.length = 8) (hyw : ∀ x ∈ ys, (Lit.int .u8 x).wf = true) (k : Int) (hk : (Lit.int .u64 k).wf = true) (w : World) :
    Calls Try.prog 11 #[.agg (xs.map (Value.int .u64)).toArray, .agg (ys.map (Value.int .u8)).toArray, .int .u64 k] w fun e w' => e = .returned (.bool true) ∧ Below w.heap.size w w' := by
  obtain ⟨N, hNw, hN⟩ := word_of xs hx4 hxw
  obtain ⟨F, hF, hFe⟩ := bytes_of_ints ys hyw
  have hkb := bounds_u64 hk
  obtain ⟨n, rfl, hn⟩ : ∃ n : Nat, k = (n : Int) ∧ n < 18446744073709551616 := ⟨k.toNat, by omega, by omega⟩
  rw [hy] at hF
  rw [hFe]
  have e0 : xs.map (Value.int .u64) = wcs N := by rw [hN]; rfl
  rw [e0]
  have c1 := fun x => address_any N x
  have c2 := fun x => qaddress_any N x
  have c3 := fun x => newAddress_any F hF n hn x
  have c4 := fun x => qnewAddress_any F hF n hn x
  have g1 := guard_addr ((wb N).drop 24)
  have q1 := run_eq_addr ((wb N).drop 24) (by rw [List.length_drop, wb_len])
  have g2 := guard_addr ((sumB (naB F (numB n))).take 8)
  have q2 := run_eq_addr ((sumB (naB F (numB n))).take 8) (by rw [List.length_take]; unfold sumB; rw [outB_len]; rfl)
  rw [show ((wb N).drop 24).map u8v = (hcs N).drop 24 from by unfold hcs; rw [List.map_drop]] at g1 q1
  rw [show ((sumB (naB F (numB n))).take 8).map u8v = (scs (naB F (numB n))).take 8 from by unfold scs; rw [List.map_take]] at g2 q2
  obtain ⟨A, hA⟩ : ∃ A, A = (hcs N).drop 24 := ⟨_, rfl⟩
  obtain ⟨B, hB⟩ : ∃ B, B = (scs (naB F (numB n))).take 8 := ⟨_, rfl⟩
  simp only [← hA] at c1 c2 g1 q1
  simp only [← hB] at c3 c4 g2 q2
  have hCl : (F.map u8v).length = 8 := by rw [List.length_map, hF]
  obtain ⟨C, hC⟩ : ∃ C, C = F.map u8v := ⟨_, rfl⟩
  simp only [← hC] at c3 c4 hCl
  rw [← hC]
  obtain ⟨w1, hw1⟩ : ∃ w1, w1 = (w.alloc (.cells (wcs N).toArray 65)).alloc (.cells C.toArray 31) := ⟨_, rfl⟩
  have hb1 : w1.rangeAt w.heap.size 0 (wcs N) := by rw [hw1]; exact ((boxW w N).alloc (.cells C.toArray 31)).all
  have ha1 : w1.rangeAt (w.heap.size + 1) 0 C := by
    have := Blk.new (w.alloc (.cells (wcs N).toArray 65)) 31 C
    have h2 : Blk 31 ((w.alloc (.cells (wcs N).toArray 65)).alloc (.cells C.toArray 31)) (w.heap.size + 1) C := by simpa using this
    rw [hw1]; exact h2.all
  have hbel1 : Below w.heap.size w w1 := by rw [hw1]; exact ((Below.refl _ _).alloc (Nat.le_refl _) _).alloc (by simp) _
  have Hw1 := Lib.hid hw1
  have C1 := Lib.hid c1
  have C2 := Lib.hid c2
  have C3 := Lib.hid c3
  have C4 := Lib.hid c4
  have G1 := Lib.hid g1
  have Q1 := Lib.hid q1
  have G2 := Lib.hid g2
  have Q2 := Lib.hid q2
  have HCl := Lib.hid hCl
  have R1 := Lib.hid hb1
  have R2 := Lib.hid ha1
  clear hw1 c1 c2 c3 c4 g1 q1 g2 q2 hCl hC hA hB hb1 ha1 hF hFe hN hNw e0 hkb hx4 hxw hy hyw hk
  go_enter Try.func11, Try.ntmps11
  go_wp2_with fail
  rw [← Hw1.out]
  refine wp_region_typed w1 14 (by kernel_rfl) (by kernel_rfl) (Below.refl _ _) ?_; simp only [List.take_succ_cons, List.take_zero, List.take_nil]
  (refine wpX_step (by rfl) (fun K hK => ?_); rw [if_pos (by rfl)]; refine ⟨_, fun u => const_loadm _ (.tmp 3) (by rfl) _ _ (by rfl) aggWord (wcs_len N) (rangeAt.ext R1.out u), hK _ ?_⟩; clear hK K; simp only [Act.put, List.setIfInBounds_toArray, List.set_cons_zero, List.set_cons_succ])
  (refine wpX_step (by rfl) (fun K hK => ?_); go_simp; first | (refine hK _ ?_; clear hK K) | (apply Exists.intro; refine ⟨fun _ => ?_, hK _ ?_⟩; exact C1.out _; clear hK K))
  (refine wpX_step (by rfl) (fun K hK => ?_); rw [if_pos (by rfl)]; refine ⟨_, fun u => const_loadm _ (.tmp 3) (by rfl) _ _ (by rfl) aggWord (wcs_len N) (rangeAt.ext R1.out u), hK _ ?_⟩; clear hK K; simp only [Act.put, List.setIfInBounds_toArray, List.set_cons_zero, List.set_cons_succ])
  (refine wpX_step (by rfl) (fun K hK => ?_); go_simp; first | (refine hK _ ?_; clear hK K) | (apply Exists.intro; refine ⟨fun _ => ?_, hK _ ?_⟩; exact C2.out _; clear hK K))
  (refine wpX_step (by rfl) (fun K hK => ?_); rw [if_pos (by rfl)]; refine ⟨_, fun u => const_eql _ _ _ _ (by rfl) (by rfl) (by rfl) (fun o1 o2 w1 => G1.out o1 o2 w1) (fun w1 => Q1.out w1), hK _ ?_⟩; clear hK K; simp only [Act.put, List.setIfInBounds_toArray, List.set_cons_zero, List.set_cons_succ])
  (refine wpX_step (by rfl) (fun K hK => ?_); go_simp; first | (refine hK _ ?_; clear hK K) | (apply Exists.intro; refine ⟨fun _ => ?_, hK _ ?_⟩; fail; clear hK K))
  (refine wpX_step (by rfl) (fun K hK => ?_); rw [if_pos (by rfl)]; refine ⟨_, fun u => const_loadm _ (.tmp 4) (by rfl) _ _ (by rfl) aggAddr HCl.out (rangeAt.ext R2.out u), hK _ ?_⟩; clear hK K; simp only [Act.put, List.setIfInBounds_toArray, List.set_cons_zero, List.set_cons_succ])
  (refine wpX_step (by rfl) (fun K hK => ?_); go_simp; first | (refine hK _ ?_; clear hK K) | (apply Exists.intro; refine ⟨fun _ => ?_, hK _ ?_⟩; fail; clear hK K))
  (refine wpX_step (by rfl) (fun K hK => ?_); go_simp; first | (refine hK _ ?_; clear hK K) | (apply Exists.intro; refine ⟨fun _ => ?_, hK _ ?_⟩; exact C3.out _; clear hK K))
  (refine wpX_step (by rfl) (fun K hK => ?_); rw [if_pos (by rfl)]; refine ⟨_, fun u => const_loadm _ (.tmp 4) (by rfl) _ _ (by rfl) aggAddr HCl.out (rangeAt.ext R2.out u), hK _ ?_⟩; clear hK K; simp only [Act.put, List.setIfInBounds_toArray, List.set_cons_zero, List.set_cons_succ])
  (refine wpX_step (by rfl) (fun K hK => ?_); go_simp; first | (refine hK _ ?_; clear hK K) | (apply Exists.intro; refine ⟨fun _ => ?_, hK _ ?_⟩; fail; clear hK K))
  (refine wpX_step (by rfl) (fun K hK => ?_); go_simp; first | (refine hK _ ?_; clear hK K) | (apply Exists.intro; refine ⟨fun _ => ?_, hK _ ?_⟩; exact C4.out _; clear hK K))
  (refine wpX_step (by rfl) (fun K hK => ?_); rw [if_pos (by rfl)]; refine ⟨_, fun u => const_eql _ _ _ _ (by rfl) (by rfl) (by rfl) (fun o1 o2 w1 => G2.out o1 o2 w1) (fun w1 => Q2.out w1), hK _ ?_⟩; clear hK K; simp only [Act.put, List.setIfInBounds_toArray, List.set_cons_zero, List.set_cons_succ])
  (refine wpX_step (by rfl) (fun K hK => ?_); go_simp; first | (refine hK _ ?_; clear hK K) | (apply Exists.intro; refine ⟨fun _ => ?_, hK _ ?_⟩; fail; clear hK K))
  refine wpX_nil ?_
  intro u2 hb2
  change wpList _ _ _ [_] _ _
  have hbel2 := Below.then hbel1 hb2
  go_wp2
  go_ret
  exact ⟨rfl, hbel2⟩
end Go.Proofs.Ytfedjbodcebdnaa
