/- The reference's grown: a road. -/
import Derived.Test.YtnhbfnegpjkojaaGrw2
set_option linter.unusedSimpArgs false
set_option linter.unusedVariables false
namespace Go.Proofs.Ytnhbfnegpjkojaa
open Go.RowKit
def RtT' (L : Nat) (l : List Rt) : Ty := fun v w => ∃ (a : Option Addr) (c : Nat), v = .slice a L c ∧ RowOf rcells 2 w (.slice a L c) l
theorem RtT'.mono (L : Nat) (l : List Rt) : Mono (RtT' L l) := fun _ _ _ ⟨a, c, h, h2⟩ hb => ⟨a, c, h, h2.below hb⟩
set_option maxHeartbeats 2000000 in
set_option maxRecDepth 100000 in
theorem grown_road (n : Nat) (ih : GrwC n) (l : List Rt) (a : Option Addr) (L cap : Nat) (w : World) (hL : l.length = L) (h2 : 2 ≤ L) (hLs : L ≤ 2000000) (hs : Sml l) (hc : 0 < fl l) (hle : ∀ r ∈ l, fl l ≤ r.1.length) (hok : OkR n (shorterP (fl l) l)) (h : RowOf rcells 2 w (.slice a L cap) l) :
    Calls Try.prog 117 #[.slice a L cap] w (GrwPost (grw (n + 1) l) w) := by
  obtain ⟨w1, hw1⟩ : ∃ w1, w1 = w.alloc (.cells (ndcells zN).toArray 25) := ⟨_, rfl⟩
  have hz : Blk 25 w1 w.heap.size (ndcells zN) := by rw [hw1]; exact Blk.new w _ _
  have hbel : Below w.heap.size w w1 := by rw [hw1]; exact (Below.refl _ _).alloc (Nat.le_refl _) _
  have hsz : w1.heap.size = w.heap.size + 1 := by rw [hw1]; simp
  have Hw1 := Lib.hid hw1
  have hl0 : 0 < l.length := by omega
  have hlz : L - 1 < l.length := by omega
  obtain ⟨b, off, rfl, c0, c1⟩ := cells_rt (h.below hbel) 0 hl0
  obtain ⟨b', off', hab, d0, d1⟩ := cells_rt (h.below hbel) (L - 1) hlz
  clear d1
  simp only [Option.some.injEq, Addr.mk.injEq, and_true] at hab
  obtain ⟨rfl, rfl⟩ := hab
  simp only [Nat.zero_mul, Nat.add_zero] at c0 c1
  have hfl : fl l = com l[0].1 l[L - 1].1 := by
    unfold fl
    rw [List.getLast?_eq_getElem?, hL, List.getElem?_eq_getElem hlz]
    cases l with
    | nil => simp at hl0
    | cons a l => rfl
  have hhd : hdP l = l[0] := by
    cases l with
    | nil => simp at hl0
    | cons a l => rfl
  have s0 := hs _ (List.getElem_mem hl0)
  have sz := hs _ (List.getElem_mem hlz)
  have hm0 := List.getElem_mem hl0
  have hgw := grw_two n l (by omega)
  rw [hhd] at hgw
  obtain ⟨y0, hy0⟩ : ∃ y, y = l[0] := ⟨_, rfl⟩
  obtain ⟨yz, hyz⟩ : ∃ y, y = l[L - 1] := ⟨_, rfl⟩
  rw [← hy0] at c0 c1 hfl s0 hgw hm0 hhd
  rw [← hyz] at d0 hfl sz
  obtain ⟨P1, P2⟩ := y0
  obtain ⟨Z1, Z2⟩ := yz
  dsimp only at c0 c1 d0 hfl s0 sz hgw
  have k0 := fun u : Ext w1 => u.cell c0
  have kz := fun u : Ext w1 => u.cell d0
  have v1 := run_bytes_of P1
  have vz := run_bytes_of Z1
  have hLi : IntKind.i64.wrap ((L - 1 : Nat) : Int) = ((L - 1 : Nat) : Int) := IntWalk.i64_in _ (by omega)
  have hLn : ((L : Int) - 1) = ((L - 1 : Nat) : Int) := by omega
  have hL0 : 0 < L := by omega
  have hL1 : L - 1 < L := by omega
  have hL2 : ((L - 1 : Nat) : Int) < (L : Int) := by omega
  have e0 : ((L : Int) == 0) = false := by rw [beq_eq_false_iff_ne]; omega
  have e1 : ((L : Int) == 1) = false := by rw [beq_eq_false_iff_ne]; omega
  obtain ⟨Zi, hZi⟩ : ∃ Z, Z = L - 1 := ⟨_, rfl⟩
  rw [← hZi] at hLi hLn hL1 hL2
  simp only [← hZi] at kz
  clear hZi
  have O1 := Lib.hid (fun u (hu : w.heap.size + 1 ≤ u.heap.size) => bytes_own P1 (by omega) (w.heap.size + 1) u hu)
  have Oz := Lib.hid (fun u (hu : w.heap.size + 1 ≤ u.heap.size) => bytes_own Z1 (by omega) (w.heap.size + 1) u hu)
  have CC := Lib.hid (fun (u : World) (a1 a2 : Option Addr) (c1 c2 : Nat) (g1 : Bytes u (.slice a1 P1.length c1) P1) (g2 : Bytes u (.slice a2 Z1.length c2) Z1) => (ncommon_any P1 Z1 a1 a2 c1 c2 u g1 g2).mono (fun (e : Ending) (w' : World) (q : e = .returned (.int .i64 (com P1 Z1)) ∧ ∃ m, w' = u.drewN m) => (show e = .returned (.int .i64 ((fl l : Nat) : Int)) ∧ Below u.heap.size u w' from ⟨by rw [hfl]; exact q.1, by obtain ⟨m, hm⟩ := q.2; rw [hm]; exact below_drewN (Below.refl _ _) m⟩)))
  have Hz := Lib.hid hz
  have Hfl := Lib.hid hfl
  rw [if_pos hc] at hgw
  rw [hgw]
  have hcP : fl l ≤ P1.length := hle _ hm0
  have hrow := h.below hbel
  have csh := fun u (hu : RowOf rcells 2 u (.slice (some ⟨b, off, none⟩) L cap) l) => shorter_any _ L cap l hL (fl l) hle (by omega) (by omega) u hu
  have cgr := fun (u : World) (a' : Option Addr) (c' : Nat) (hu : RowOf rcells 2 u (.slice a' L c') (shorterP (fl l) l)) => ih (shorterP (fl l) l) a' L c' u (by unfold shorterP; rw [List.length_map, hL]) hLs (fun r hr => by
    unfold shorterP at hr
    obtain ⟨s, hs', rfl⟩ := List.mem_map.1 hr
    have := hs s hs'
    exact ⟨by simp only [List.length_drop]; omega, this.2⟩) hok hu
  have s48 := str_to (P := Try.prog) (t := 9) (by kernel_rfl) P1 (fl l) ((fl l : Nat) : Int) rfl hcP
  obtain ⟨C, hC⟩ : ∃ C, C = fl l := ⟨_, rfl⟩
  rw [← hC] at hc hcP s48
  simp only [← hC] at csh cgr CC ⊢
  obtain ⟨SL, hSL⟩ : ∃ x, x = shorterP C l := ⟨_, rfl⟩
  obtain ⟨SG, hSG⟩ : ∃ x, x = grw n SL := ⟨_, rfl⟩
  simp only [← hSL] at csh cgr ⊢
  simp only [← hSG] at cgr ⊢
  obtain ⟨PT, hPT⟩ : ∃ x, x = P1.take C := ⟨_, rfl⟩
  have hPTl : PT.length ≤ 2000000 := by rw [hPT, List.length_take]; omega
  rw [← hPT] at s48 ⊢
  have rv49 := run_bytes_of PT
  have O49 := Lib.hid (fun u (hu : w.heap.size + 1 ≤ u.heap.size) => bytes_own PT (by omega) (w.heap.size + 1) u hu)
  have Csh := Lib.hid csh
  have Cgr := Lib.hid cgr
  have Hrow := Lib.hid hrow
  have hci : (0 : Int) < (C : Int) := by omega
  clear hw1 c1 d0 hfl s0 sz hgw hm0 hhd hy0 hyz hs h hle hok ih csh cgr hrow hz hC hSL hSG hPT hPTl hcP Hfl hl0 hlz
  go_enter Try.func117, Try.ntmps117
  go_wp2_with fail
  rw [show w.alloc (.cells #[.int .i64 0, .slice none 0 0, .slice none 0 0, .slice none 0 0] 25) = w1 from by rw [Hw1.out]; rfl]
  refine wp_region_typed w1 14 (by kernel_rfl) (by kernel_rfl) (Below.refl _ _) ?_; simp only [List.take_succ_cons, List.take_zero, List.take_nil]
  iterate 4 (refine wpX_step (by rfl) (fun K hK => ?_); go_simp; first | (refine hK _ ?_; clear hK K) | (apply Exists.intro; refine ⟨fun _ => ?_, hK _ ?_⟩; fail; clear hK K))
  refine wpX_rel 31 (TxO (w.heap.size + 1) P1) rfl (of_decide_eq_true rfl) (TxO.mono _ _) (fun w6 hw6 => ?_) ?_
  · simp only [relOf, List.filter_nil, forallRel]
    refine ⟨rfl, ?_⟩
    go_simp
    exact ⟨(O1.out _ (by have := hw6.size; omega)).2, (O1.out _ (by have := hw6.size; omega)).1⟩
  iterate 7 (refine wpX_step (by rfl) (fun K hK => ?_); go_simp; first | (refine hK _ ?_; clear hK K) | (apply Exists.intro; refine ⟨fun _ => ?_, hK _ ?_⟩; fail; clear hK K))
  refine wpX_rel 39 (TxO (w.heap.size + 1) Z1) rfl (of_decide_eq_true rfl) (TxO.mono _ _) (fun w6 hw6 => ?_) ?_
  · change forallRel w6 [] _ _
    simp only [forallRel]
    refine ⟨rfl, ?_⟩
    go_simp
    exact ⟨(Oz.out _ (by have := hw6.size; omega)).2, (Oz.out _ (by have := hw6.size; omega)).1⟩
  refine wpX_eq (.int .i64 (C : Int)) (fun w6 hw6 => ?_) ?_
  · change forallRel w6 [(39, _), (31, _)] _ _
    rintro v39 ⟨h39, _⟩ v31 ⟨h31, _⟩
    obtain ⟨a39, c39, rfl, _, _⟩ := h39.form
    obtain ⟨a31, c31, rfl, _, _⟩ := h31.form
    simp only [forallRel]
    refine ⟨rfl, ?_⟩
    go_simp
    exact (CC.out w6 _ _ _ _ h31 h39).mono fun e w' q => ⟨_, q.1, rfl, q.2⟩
  refine wpX_nil ?_
  intro u2 hb2 v31 _ v39 _
  change wpList _ _ _ [_] _ _
  simp only [Act.put, List.setIfInBounds_toArray, List.set_cons_zero, List.set_cons_succ]
  have bb2 := Below.then hbel hb2
  have hz2 := Hz.out.kept hb2
  have hsz2 := hb2.size
  have m0 := fun u : Ext u2 => u.cell (show u2.cell? ⟨b, off, none⟩ = some (.string ⟨P1.toArray⟩) from by rw [hb2.cell (World.block_lt_of_cell? w1 _ c0)]; exact c0)
  have hrow2 := Hrow.out.below hb2
  clear k0 kz v1 vz c0
  go_wp2_with fail
  refine wp_region_typed u2 13 (by kernel_rfl) (by kernel_rfl) (Below.refl _ _) ?_; simp only [List.take_succ_cons, List.take_zero, List.take_nil]
  iterate 6 (refine wpX_step (by rfl) (fun K hK => ?_); go_simp; first | (refine hK _ ?_; clear hK K) | (apply Exists.intro; refine ⟨fun _ => ?_, hK _ ?_⟩; fail; clear hK K))
  refine wpX_rel 49 (TxO (w.heap.size + 1) PT) rfl (of_decide_eq_true rfl) (TxO.mono _ _) (fun w6 hw6 => ?_) ?_
  · simp only [relOf, List.filter_nil, forallRel]
    refine ⟨rfl, ?_⟩
    go_simp
    exact ⟨(O49.out _ (by have := hw6.size; omega)).2, (O49.out _ (by have := hw6.size; omega)).1⟩
  iterate 2 (refine wpX_step (by rfl) (fun K hK => ?_); go_simp; first | (refine hK _ ?_; clear hK K) | (apply Exists.intro; refine ⟨fun _ => ?_, hK _ ?_⟩; fail; clear hK K))
  refine wpX_rel 52 (RtT' L SL) rfl (of_decide_eq_true rfl) (RtT'.mono _ _) (fun w6 hw6 => ?_) ?_
  · change forallRel w6 [] _ _
    simp only [forallRel]
    refine ⟨rfl, ?_⟩
    go_simp
    refine (Csh.out w6 (hrow2.below hw6)).mono ?_
    rintro e w7 ⟨a', c', rfl, b7, h7⟩
    exact ⟨_, rfl, ⟨a', c', rfl, h7⟩, b7⟩
  refine wpX_rel 53 (NdT (w.heap.size + 1) SG) rfl (of_decide_eq_true rfl) (NdT.mono _ _) (fun w6 hw6 => ?_) ?_
  · change forallRel w6 [(52, _)] _ _
    rintro v52 ⟨a', c', rfl, h7⟩
    simp only [forallRel]
    refine ⟨rfl, ?_⟩
    go_simp
    refine (Cgr.out w6 a' c' h7).mono ?_
    rintro e w7 ⟨t, rfl, ot, et, b7⟩
    exact ⟨_, rfl, ⟨t, rfl, ot.lower (by have := hw6.size; omega), et⟩, b7⟩
  refine wpX_rel 54 (NdT1 (w.heap.size + 1) SG) rfl (of_decide_eq_true rfl) (NdT1.mono _ _) (fun w6 hw6 => ?_) ?_
  · change forallRel w6 [(53, _)] _ _
    rintro v53 ⟨t, rfl, ot, et⟩
    obtain ⟨kd, pv, p, vv, v, kv, ks⟩ := t
    have hbu := Row.built ndcells_len w6 25 [.mk kd pv p vv v kv ks] 1 rfl (by unfold maxLen; omega)
    have hbA : Below w6.heap.size w6 (w6.alloc (.cells ([Nd.mk kd pv p vv v kv ks].flatMap ndcells).toArray 25)) := (Below.refl _ _).alloc (Nat.le_refl _) _
    have ot2 := ot.kept hbA
    simp only [ndcells, forallRel]
    refine ⟨rfl, ?_⟩
    go_simp
    exact ⟨hbA, w6.heap.size, .mk kd pv p vv v kv ks, rfl, by have := hw6.size; omega, hbu, ot2, et⟩
  refine wpX_rel 55 (NdT (w.heap.size + 1) (.mk 2 PT [] [SG])) rfl (of_decide_eq_true rfl) (NdT.mono _ _) (fun w6 hw6 => ?_) ?_
  · change forallRel w6 [(54, _), (49, _)] _ _
    rintro v54 ⟨g, t, rfl, hg, hr, ot, et⟩ v49 ⟨h49, o49⟩
    obtain ⟨a49, c49, rfl, _, _⟩ := h49.form
    simp only [forallRel]
    refine ⟨rfl, ?_⟩
    go_simp
    refine ⟨Below.refl _ _, .mk 2 _ PT (.slice none 0 0) [] _ [t], rfl, .mk 2 _ PT (.slice none 0 0) [] _ [t] h49 o49 (RowOf.nil b8 1 _) (by intro k e; cases e) hr (fun k e => by cases e; exact hg) (fun k hk => by rw [List.mem_singleton] at hk; rw [hk]; exact ot), ?_⟩
    simp only [erN, erNL, et]
  refine wpX_nil ?_
  intro u3 hb3 v49 _ v52 _ v53 _ v54 _ v55 h55
  change wpList _ _ _ [_] _ _
  simp only [Act.put, List.setIfInBounds_toArray, List.set_cons_zero, List.set_cons_succ]
  obtain ⟨t, rfl, ot, et⟩ := h55
  have bb3 := Below.then bb2 hb3
  have hz3 := hz2.kept hb3
  have hone := ot.is.one
  have hlen := ndcells_len t
  clear m0 s48 rv49
  go_wp2_with ((with_reducible show wpList _ _ _ (⟨none, Op.store _ _ (Operand.tmp 55), _, _, _, _⟩ :: _) _ _); refine wpList_storeA (o := ⟨none, _, _, _, _, _⟩) (by rfl) 25 (.tmp 2) (.tmp 55) (by rfl) w.heap.size (ndcells t) (by rfl) (by rfl) aggNode hz3 hlen (by rfl) hone bb3 (Nat.le_refl _) ?_; intro w3 h3 b3 g3)
  exact bodyPost_ret (results_blk rfl _ _ w.heap.size aggNode h3 hlen rfl) rfl ⟨t, rfl, (ot.off g3 (Nat.lt_succ_self _)).lower (Nat.le_succ _), et, b3⟩
end Go.Proofs.Ytnhbfnegpjkojaa
