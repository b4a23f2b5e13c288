/- twos.Byte and the reference's TByte. -/
import Derived.Test.YtgmdbleeagfhpaaShift9
set_option linter.unusedSimpArgs false
set_option linter.unusedVariables false
namespace Go.Proofs.Ytgmdbleeagfhpaa
open Go.RowKit
def byteW (N A : Nat) : Nat := if N ≤ 31 then (wbyte A N).toNat else 0
def BytesAt (n : Nat) (l : List UInt8) : Ty := fun v w => ∃ a c, v = .slice a n c ∧ Bytes w (.slice a n c) l
def CellAt (x : Value) : Ty := fun v w => ∃ b off, v = .pointer (some ⟨b, off, none⟩) ∧ w.cell? ⟨b, off, none⟩ = some x
theorem BytesAt.mono (n : Nat) (l : List UInt8) : Mono (BytesAt n l) := by rintro v w w' ⟨a, c, rfl, h⟩ hb; exact ⟨a, c, rfl, h.kept hb⟩
theorem CellAt.mono (x : Value) : Mono (CellAt x) := by rintro v w w' ⟨b, off, rfl, h⟩ hb; exact ⟨b, off, rfl, by rw [hb.cell (World.block_lt_of_cell? w _ h)]; exact h⟩
theorem wbytes_at (N : Nat) (w : World) : Calls Try.prog 85 #[.agg (wcs N).toArray] w fun e w' => ∃ v, e = .returned v ∧ BytesAt 32 (wb N) v w' ∧ Below w.heap.size w w' := by
  refine (wbytes_any N w).mono ?_
  rintro e w' ⟨v, rfl, hv, hb⟩
  obtain ⟨a, c, rfl, _⟩ := hv.form' 32 (wb_len N)
  exact ⟨_, rfl, ⟨a, c, rfl, hv.row⟩, hb⟩
theorem index_hash (A k : Nat) (hk : k < 32) (w : World) : (Instr.index 43 (.agg (hcs A).toArray) (.int .u64 (k : Int))).run Try.prog w = .ok (.int .u8 ((wbyte A k).toNat : Int)) w := by
  refine run_index_agg (n := 32) (e := 5) (by kernel_rfl) (by kernel_rfl) _ k hk w .u64 ?_
  have hl : k < ((wb A).map fun x => (x.toNat : Int)).length := by rw [List.length_map, wb_len]; exact hk
  have h1 := run_part_int (P := Try.prog) w (e := 5) (k := .u8) (by kernel_rfl) ((wb A).map fun x => (x.toNat : Int)) k hl
  have h2 : ((wb A).map fun x => (x.toNat : Int)).map (Value.int .u8) = hcs A := by unfold hcs; rw [List.map_map]; rfl
  rw [h2] at h1
  have h3 : ((wb A).map fun x => (x.toNat : Int))[k] = ((wbyte A k).toNat : Int) := by rw [List.getElem_map, wb_get]
  rw [h3] at h1; exact h1
set_option maxHeartbeats 800000 in
set_option maxRecDepth 100000 in
theorem tbyte_any (N A : Nat) (hN : N < W256) (hA : A < W256) (w : World) : Calls Try.prog 29 #[wv N, wv A] w fun e w' => e = .returned (wv (byteW N A)) ∧ Below w.heap.size w w' := by
  obtain ⟨hb0, hd0, hz0, hbel0⟩ := box3 w N A
  obtain ⟨w1, hw1⟩ : ∃ w1, w1 = ((w.alloc (.cells (wcs N).toArray 24)).alloc (.cells (wcs A).toArray 24)).alloc (.cells z4.toArray 24) := ⟨_, rfl⟩
  rw [← hw1] at hb0 hd0 hz0 hbel0
  show Calls Try.prog 29 #[.agg (wcs N).toArray, .agg (wcs A).toArray] w _
  have Hw1 := Lib.hid hw1
  clear hw1
  have k0 := fun u : Ext w1 => u.cell (hb0.wat 0 (by omega))
  have k1 := fun u : Ext w1 => u.cell (hb0.wat 1 (by omega))
  have k2 := fun u : Ext w1 => u.cell (hb0.wat 2 (by omega))
  have k3 := fun u : Ext w1 => u.cell (hb0.wat 3 (by omega))
  obtain ⟨M, hM⟩ : ∃ M : Nat, M = 31 := ⟨_, rfl⟩
  have hMW : M < W256 := by rw [hM]; unfold W256; omega
  have c2 : ∀ w, Calls Try.prog 81 #[.int .u64 31] w fun e w' => e = .returned (wv M) ∧ Below w.heap.size w w' := fun w => by rw [hM]; exact int_any 31 (by omega) w
  have C2 := Lib.hid c2
  clear c2
  have c3 := fun w => cmp_any N M hN hMW w
  by_cases hlt : 31 < N
  · rw [cmp_gt (by omega)] at c3
    have C3 := Lib.hid c3
    have HX := Lib.hid (show byteW N A = 0 from if_neg (by omega))
    clear c3 hM hlt
    go_enter Try.func29, Try.ntmps29
    go_wp2
    rw [show ((w.alloc (.cells (wcs N).toArray 24)).alloc (.cells (wcs A).toArray 24)).alloc (.cells #[.int .u64 0, .int .u64 0, .int .u64 0, .int .u64 0] 24) = w1 from by rw [Hw1.out]; rfl]
    refine wp_region_typed w1 4 (by kernel_rfl) (by kernel_rfl) (Below.refl _ _) ?_; simp only [List.take_succ_cons, List.take_zero, List.take_nil]
    (refine wpX_step (by rfl) (fun K hK => ?_); go_simp; first | (refine hK _ ?_; clear hK K) | (apply Exists.intro; refine ⟨fun _ => ?_, hK _ ?_⟩; fail; clear hK K))
    (refine wpX_step (by rfl) (fun K hK => ?_); go_simp; first | (refine hK _ ?_; clear hK K) | (apply Exists.intro; refine ⟨fun _ => ?_, hK _ ?_⟩; exact C2.out _; clear hK K))
    (refine wpX_step (by rfl) (fun K hK => ?_); go_simp; first | (refine hK _ ?_; clear hK K) | (apply Exists.intro; refine ⟨fun _ => ?_, hK _ ?_⟩; exact C3.out _; clear hK K))
    (refine wpX_step (by rfl) (fun K hK => ?_); go_simp; first | (refine hK _ ?_; clear hK K) | (apply Exists.intro; refine ⟨fun _ => ?_, hK _ ?_⟩; fail; clear hK K))
    refine wpX_end rfl ?_
    rintro w4 hw4
    simp only [List.reverse_nil, forallRel]
    have hb4 := hb0.kept hw4
    have hd4 := hd0.kept hw4
    have hz4 := hz0.kept hw4
    have hbel4 := Below.then hbel0 hw4
    clear k0 k1 k2 k3 hw4
    go_wp2_with (refine wpList_storeA (by rfl) 24 (.tmp 4) (.tmp 9) (by rfl) (w.heap.size + 2) (wcs (0)) (by rfl) (by rfl) aggWord hz4 (wcs_len _) (by first | exact wcs_len _ | rfl) (wcs_one _) (Below.refl _ _) (Nat.le_refl _) ?_; intro w7 hb7 b7 g7; have hbel7 := hbel4.trans (b7.mono (by omega)))
    exact bodyPost_ret (results_blk rfl _ _ (w.heap.size + 2) aggWord hb7 (wcs_len _) rfl) rfl ⟨by rw [HX.out]; rfl, hbel7⟩
  · have hl0 : lim N 0 = N := by rw [lim0]; omega
    obtain ⟨x, hx⟩ : ∃ x, x = (wbyte A N).toNat := ⟨_, rfl⟩
    have HX := Lib.hid (show byteW N A = x from by rw [hx]; exact if_pos (by omega))
    have hxb : x < 256 := by rw [hx]; exact (wbyte A N).toNat_lt
    have hix := fun w => index_hash A N (by omega) w
    rw [← hx] at hix
    have hwx : IntKind.u64.wrap (x : Int) = (x : Int) := by rw [IntKind.wrap_u64]; omega
    have c4 := fun w => int_any x (by omega) w
    have c5 := fun w => bytes_any A w
    have C4 := Lib.hid c4
    have C5 := Lib.hid c5
    have HL := Lib.hid hl0
    have HI := Lib.hid hix
    have hcc : cmpI N M = -1 ∨ cmpI N M = 0 := by
      unfold cmpI
      by_cases h : N < M
      · exact .inl (if_pos h)
      · exact .inr (by rw [if_neg h, if_neg (by omega)])
    clear hix hl0 c4 c5 hx hM hlt
    rcases hcc with hcc | hcc
    all_goals
      rw [hcc] at c3
      have C3 := Lib.hid c3
      clear c3 hcc
      go_enter Try.func29, Try.ntmps29
      go_wp2
      rw [show ((w.alloc (.cells (wcs N).toArray 24)).alloc (.cells (wcs A).toArray 24)).alloc (.cells #[.int .u64 0, .int .u64 0, .int .u64 0, .int .u64 0] 24) = w1 from by rw [Hw1.out]; rfl]
      refine wp_region_typed w1 4 (by kernel_rfl) (by kernel_rfl) (Below.refl _ _) ?_; simp only [List.take_succ_cons, List.take_zero, List.take_nil]
      (refine wpX_step (by rfl) (fun K hK => ?_); go_simp; first | (refine hK _ ?_; clear hK K) | (apply Exists.intro; refine ⟨fun _ => ?_, hK _ ?_⟩; fail; clear hK K))
      (refine wpX_step (by rfl) (fun K hK => ?_); go_simp; first | (refine hK _ ?_; clear hK K) | (apply Exists.intro; refine ⟨fun _ => ?_, hK _ ?_⟩; exact C2.out _; clear hK K))
      (refine wpX_step (by rfl) (fun K hK => ?_); go_simp; first | (refine hK _ ?_; clear hK K) | (apply Exists.intro; refine ⟨fun _ => ?_, hK _ ?_⟩; exact C3.out _; clear hK K))
      (refine wpX_step (by rfl) (fun K hK => ?_); go_simp; first | (refine hK _ ?_; clear hK K) | (apply Exists.intro; refine ⟨fun _ => ?_, hK _ ?_⟩; fail; clear hK K))
      refine wpX_end rfl ?_
      rintro w4 hw4
      simp only [List.reverse_nil, forallRel]
      have hb4 := hb0.kept hw4
      have hd4 := hd0.kept hw4
      have hz4 := hz0.kept hw4
      have hbel4 := Below.then hbel0 hw4
      clear k0 k1 k2 k3 hw4
      have n0 := hb4.wat 0 (by omega)
      rw [HL.out] at n0
      have q0 := fun u : Ext w4 => u.cell n0
      have m0 := fun u : Ext w4 => u.cell (hd4.wat 0 (by omega))
      have m1 := fun u : Ext w4 => u.cell (hd4.wat 1 (by omega))
      have m2 := fun u : Ext w4 => u.cell (hd4.wat 2 (by omega))
      have m3 := fun u : Ext w4 => u.cell (hd4.wat 3 (by omega))
      have hix := HI.out
      clear n0
      go_wp2
      refine wp_region_typed w4 7 (by kernel_rfl) (by kernel_rfl) (Below.refl _ _) ?_; simp only [List.take_succ_cons, List.take_zero, List.take_nil]
      (refine wpX_step (by rfl) (fun K hK => ?_); go_simp; first | (refine hK _ ?_; clear hK K) | (apply Exists.intro; refine ⟨fun _ => ?_, hK _ ?_⟩; fail; clear hK K))
      (refine wpX_step (by rfl) (fun K hK => ?_); go_simp; first | (refine hK _ ?_; clear hK K) | (apply Exists.intro; refine ⟨fun _ => ?_, hK _ ?_⟩; exact C5.out _; clear hK K))
      iterate 4 (refine wpX_step (by rfl) (fun K hK => ?_); go_simp; first | (refine hK _ ?_; clear hK K) | (apply Exists.intro; refine ⟨fun _ => ?_, hK _ ?_⟩; fail; clear hK K))
      (refine wpX_step (by rfl) (fun K hK => ?_); go_simp; first | (refine hK _ ?_; clear hK K) | (apply Exists.intro; refine ⟨fun _ => ?_, hK _ ?_⟩; exact C4.out _; clear hK K))
      refine wpX_nil ?_
      intro w6 hw6
      change wpList _ _ _ [_] _ _
      have hz6 := hz4.kept hw6
      have hbel6 := Below.then hbel4 hw6
      clear q0 m0 m1 m2 m3 hix
      go_wp2_with (refine wpList_storeA (by rfl) 24 (.tmp 4) (.tmp 16) (by rfl) (w.heap.size + 2) (wcs (x)) (by rfl) (by rfl) aggWord hz6 (wcs_len _) (by first | exact wcs_len _ | rfl) (wcs_one _) (Below.refl _ _) (Nat.le_refl _) ?_; intro w7 hb7 b7 g7; have hbel7 := hbel6.trans (b7.mono (by omega)))
      exact bodyPost_ret (results_blk rfl _ _ (w.heap.size + 2) aggWord hb7 (wcs_len _) rfl) rfl ⟨by rw [HX.out]; rfl, hbel7⟩
set_option maxHeartbeats 800000 in
set_option maxRecDepth 100000 in
theorem rbyte_any (N A : Nat) (hN : N < W256) (hA : A < W256) (w : World) : Calls Try.prog 30 #[wv N, wv A] w fun e w' => e = .returned (wv (byteW N A)) ∧ Below w.heap.size w w' := by
  obtain ⟨hb0, hd0, hz0, hbel0⟩ := box3 w N A
  obtain ⟨w1, hw1⟩ : ∃ w1, w1 = ((w.alloc (.cells (wcs N).toArray 24)).alloc (.cells (wcs A).toArray 24)).alloc (.cells z4.toArray 24) := ⟨_, rfl⟩
  rw [← hw1] at hb0 hd0 hz0 hbel0
  show Calls Try.prog 30 #[.agg (wcs N).toArray, .agg (wcs A).toArray] w _
  have Hw1 := Lib.hid hw1
  clear hw1
  have k0 := fun u : Ext w1 => u.cell (hb0.wat 0 (by omega))
  have k1 := fun u : Ext w1 => u.cell (hb0.wat 1 (by omega))
  have k2 := fun u : Ext w1 => u.cell (hb0.wat 2 (by omega))
  have k3 := fun u : Ext w1 => u.cell (hb0.wat 3 (by omega))
  obtain ⟨M, hM⟩ : ∃ M : Nat, M = 32 := ⟨_, rfl⟩
  have hMW : M < W256 := by rw [hM]; unfold W256; omega
  have c2 : ∀ w, Calls Try.prog 84 #[.int .u64 32] w fun e w' => e = .returned (wv M) ∧ Below w.heap.size w w' := fun w => by rw [hM]; exact wint_any 32 (by omega) w
  have C2 := Lib.hid c2
  clear c2
  have c3 := fun w => less_any N M hN hMW w
  by_cases hlt : 31 < N
  · rw [decide_eq_false (show ¬ N < M by omega)] at c3
    have C3 := Lib.hid c3
    have HX := Lib.hid (show byteW N A = 0 from if_neg (by omega))
    clear c3 hM hlt
    go_enter Try.func30, Try.ntmps30
    go_wp2
    rw [show ((w.alloc (.cells (wcs N).toArray 24)).alloc (.cells (wcs A).toArray 24)).alloc (.cells #[.int .u64 0, .int .u64 0, .int .u64 0, .int .u64 0] 24) = w1 from by rw [Hw1.out]; rfl]
    refine wp_region_typed w1 4 (by kernel_rfl) (by kernel_rfl) (Below.refl _ _) ?_; simp only [List.take_succ_cons, List.take_zero, List.take_nil]
    (refine wpX_step (by rfl) (fun K hK => ?_); go_simp; first | (refine hK _ ?_; clear hK K) | (apply Exists.intro; refine ⟨fun _ => ?_, hK _ ?_⟩; fail; clear hK K))
    (refine wpX_step (by rfl) (fun K hK => ?_); go_simp; first | (refine hK _ ?_; clear hK K) | (apply Exists.intro; refine ⟨fun _ => ?_, hK _ ?_⟩; exact C2.out _; clear hK K))
    (refine wpX_step (by rfl) (fun K hK => ?_); go_simp; first | (refine hK _ ?_; clear hK K) | (apply Exists.intro; refine ⟨fun _ => ?_, hK _ ?_⟩; exact C3.out _; clear hK K))
    (refine wpX_step (by rfl) (fun K hK => ?_); go_simp; first | (refine hK _ ?_; clear hK K) | (apply Exists.intro; refine ⟨fun _ => ?_, hK _ ?_⟩; fail; clear hK K))
    refine wpX_end rfl ?_
    rintro w4 hw4
    simp only [List.reverse_nil, forallRel]
    have hb4 := hb0.kept hw4
    have hd4 := hd0.kept hw4
    have hz4 := hz0.kept hw4
    have hbel4 := Below.then hbel0 hw4
    clear k0 k1 k2 k3 hw4
    go_wp2_with (refine wpList_storeA (by rfl) 24 (.tmp 4) (.tmp 9) (by rfl) (w.heap.size + 2) (wcs (0)) (by rfl) (by rfl) aggWord hz4 (wcs_len _) (by first | exact wcs_len _ | rfl) (wcs_one _) (Below.refl _ _) (Nat.le_refl _) ?_; intro w7 hb7 b7 g7; have hbel7 := hbel4.trans (b7.mono (by omega)))
    exact bodyPost_ret (results_blk rfl _ _ (w.heap.size + 2) aggWord hb7 (wcs_len _) rfl) rfl ⟨by rw [HX.out]; rfl, hbel7⟩
  · rw [decide_eq_true (show N < M by omega)] at c3
    have C3 := Lib.hid c3
    have hl0 : lim N 0 = N := by rw [lim0]; omega
    obtain ⟨x, hx⟩ : ∃ x, x = (wbyte A N).toNat := ⟨_, rfl⟩
    have HX := Lib.hid (show byteW N A = x from by rw [hx]; exact if_pos (by omega))
    have hxb : x < 256 := by rw [hx]; exact (wbyte A N).toNat_lt
    have hwx : IntKind.u64.wrap (x : Int) = (x : Int) := by rw [IntKind.wrap_u64]; omega
    have hN32 : N < 32 := by omega
    have hNi : (N : Int) < 32 := by omega
    have hat : ∀ (w2 : World) v, BytesAt 32 (wb A) v w2 → ∃ b off c, v = .slice (some ⟨b, off, none⟩) 32 c ∧ w2.cell? ⟨b, off + N, none⟩ = some (.int .u8 (x : Int)) := by
      rintro w2 v ⟨a, c, rfl, h⟩
      obtain ⟨b, off, rfl, hc⟩ := h.at N (by rw [wb_len]; exact hN32)
      refine ⟨b, off, c, rfl, ?_⟩
      rw [hc, wb_get, hx]
    have c4 := fun w => wint_any x (by omega) w
    have C4 := Lib.hid c4
    have HL := Lib.hid hl0
    have HA := Lib.hid hat
    clear hl0 c3 c4 hx hM hlt hat
    go_enter Try.func30, Try.ntmps30
    go_wp2
    rw [show ((w.alloc (.cells (wcs N).toArray 24)).alloc (.cells (wcs A).toArray 24)).alloc (.cells #[.int .u64 0, .int .u64 0, .int .u64 0, .int .u64 0] 24) = w1 from by rw [Hw1.out]; rfl]
    refine wp_region_typed w1 4 (by kernel_rfl) (by kernel_rfl) (Below.refl _ _) ?_; simp only [List.take_succ_cons, List.take_zero, List.take_nil]
    (refine wpX_step (by rfl) (fun K hK => ?_); go_simp; first | (refine hK _ ?_; clear hK K) | (apply Exists.intro; refine ⟨fun _ => ?_, hK _ ?_⟩; fail; clear hK K))
    (refine wpX_step (by rfl) (fun K hK => ?_); go_simp; first | (refine hK _ ?_; clear hK K) | (apply Exists.intro; refine ⟨fun _ => ?_, hK _ ?_⟩; exact C2.out _; clear hK K))
    (refine wpX_step (by rfl) (fun K hK => ?_); go_simp; first | (refine hK _ ?_; clear hK K) | (apply Exists.intro; refine ⟨fun _ => ?_, hK _ ?_⟩; exact C3.out _; clear hK K))
    (refine wpX_step (by rfl) (fun K hK => ?_); go_simp; first | (refine hK _ ?_; clear hK K) | (apply Exists.intro; refine ⟨fun _ => ?_, hK _ ?_⟩; fail; clear hK K))
    refine wpX_end rfl ?_
    rintro w4 hw4
    simp only [List.reverse_nil, forallRel]
    have hb4 := hb0.kept hw4
    have hd4 := hd0.kept hw4
    have hz4 := hz0.kept hw4
    have hbel4 := Below.then hbel0 hw4
    clear k0 k1 k2 k3 hw4
    have n0 := hb4.wat 0 (by omega)
    rw [HL.out] at n0
    have q0 := fun u : Ext w4 => u.cell n0
    have m0 := fun u : Ext w4 => u.cell (hd4.wat 0 (by omega))
    have m1 := fun u : Ext w4 => u.cell (hd4.wat 1 (by omega))
    have m2 := fun u : Ext w4 => u.cell (hd4.wat 2 (by omega))
    have m3 := fun u : Ext w4 => u.cell (hd4.wat 3 (by omega))
    clear n0
    go_wp2
    refine wp_region_typed w4 8 (by kernel_rfl) (by kernel_rfl) (Below.refl _ _) ?_; simp only [List.take_succ_cons, List.take_zero, List.take_nil]
    (refine wpX_step (by rfl) (fun K hK => ?_); go_simp; first | (refine hK _ ?_; clear hK K) | (apply Exists.intro; refine ⟨fun _ => ?_, hK _ ?_⟩; fail; clear hK K))
    refine wpX_rel 11 (BytesAt 32 (wb A)) rfl (of_decide_eq_true rfl) (BytesAt.mono _ _) (fun w3 hw3 => ?_) ?_
    · simp only [relOf, List.filter_nil, forallRel]
      refine ⟨rfl, ?_⟩
      go_simp
      exact wbytes_at A _
    iterate 2 (refine wpX_step (by rfl) (fun K hK => ?_); go_simp; first | (refine hK _ ?_; clear hK K) | (apply Exists.intro; refine ⟨fun _ => ?_, hK _ ?_⟩; fail; clear hK K))
    refine wpX_rel 14 (CellAt (.int .u8 (x : Int))) rfl (of_decide_eq_true rfl) (CellAt.mono _) (fun w3 hw3 => ?_) ?_
    · change forallRel w3 [(11, _)] _ _
      intro v11 h11
      obtain ⟨b, off, c, rfl, hc⟩ := HA.out w3 v11 h11
      simp only [forallRel]
      refine ⟨rfl, ?_⟩
      clear h11
      go_simp
      exact ⟨Below.refl _ _, b, off + N, rfl, hc⟩
    refine wpX_eq (.int .u8 (x : Int)) (fun w3 hw3 => ?_) ?_
    · change forallRel w3 [(14, _)] _ _
      rintro v14 ⟨b, off, rfl, hc⟩
      simp only [forallRel]
      refine ⟨rfl, ?_⟩
      go_simp
      exact Below.refl _ _
    (refine wpX_step (by rfl) (fun K hK => ?_); go_simp; first | (refine hK _ ?_; clear hK K) | (apply Exists.intro; refine ⟨fun _ => ?_, hK _ ?_⟩; fail; clear hK K))
    (refine wpX_step (by rfl) (fun K hK => ?_); go_simp; first | (refine hK _ ?_; clear hK K) | (apply Exists.intro; refine ⟨fun _ => ?_, hK _ ?_⟩; exact C4.out _; clear hK K))
    refine wpX_nil ?_
    intro w6 hw6 v11 _ v14 _
    change wpList _ _ _ [_] _ _
    have hz6 := hz4.kept hw6
    have hbel6 := Below.then hbel4 hw6
    clear q0 m0 m1 m2 m3
    go_wp2_with (refine wpList_storeA (by rfl) 24 (.tmp 4) (.tmp 17) (by rfl) (w.heap.size + 2) (wcs (x)) (by rfl) (by rfl) aggWord hz6 (wcs_len _) (by first | exact wcs_len _ | rfl) (wcs_one _) (Below.refl _ _) (Nat.le_refl _) ?_; intro w7 hb7 b7 g7; have hbel7 := hbel6.trans (b7.mono (by omega)))
    exact bodyPost_ret (results_blk rfl _ _ (w.heap.size + 2) aggWord hb7 (wcs_len _) rfl) rfl ⟨by rw [HX.out]; rfl, hbel7⟩
end Go.Proofs.Ytgmdbleeagfhpaa
