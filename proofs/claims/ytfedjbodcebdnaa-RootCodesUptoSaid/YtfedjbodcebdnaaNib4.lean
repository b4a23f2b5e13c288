/- The reference's NJoin. -/
import Derived.Test.YtfedjbodcebdnaaNib3
set_option linter.unusedSimpArgs false
set_option linter.unusedVariables false
namespace Go.Proofs.Ytfedjbodcebdnaa
open Go.RowKit
theorem half_le (x : UInt8) : (x / 16).toNat ≤ 15 ∧ (x % 16).toNat ≤ 15 := by
  have := x.toNat_lt
  rw [UInt8.toNat_div, UInt8.toNat_mod, show (16 : UInt8).toNat = 16 from rfl]; omega
theorem halves_wrong (l : List UInt8) : wrongB (halvesL l) = false := by
  unfold wrongB
  rw [List.any_eq_false]
  intro x hx
  unfold halvesL at hx
  obtain ⟨y, _, hy⟩ := List.mem_flatMap.1 hx
  have := half_le y
  simp only [halfB, List.mem_cons, List.not_mem_nil, or_false] at hy
  rcases hy with rfl | rfl
  · have := this.1; rw [decide_eq_true_eq]; omega
  · have := this.2; rw [decide_eq_true_eq]; omega
theorem halves_join (l : List UInt8) (h : joinOk l = true) : halvesL (joinL l) = l := by
  induction l using joinL.induct with
  | case1 x y l ih =>
    unfold joinOk at h ih
    simp only [wrongB, List.length_cons, List.any_cons, Bool.and_eq_true, Bool.not_eq_true', Bool.or_eq_false_iff, decide_eq_false_iff_not, beq_iff_eq] at h ih
    have ih' := ih ⟨by omega, h.2.2.2⟩
    have hx : x.toNat ≤ 15 := by omega
    have hy : y.toNat ≤ 15 := by omega
    have e1 : (x * 16 + y) / 16 = x := by
      apply UInt8.toNat_inj.1
      rw [UInt8.toNat_div, UInt8.toNat_add, UInt8.toNat_mul, show (16 : UInt8).toNat = 16 from rfl]; omega
    have e2 : (x * 16 + y) % 16 = y := by
      apply UInt8.toNat_inj.1
      rw [UInt8.toNat_mod, UInt8.toNat_add, UInt8.toNat_mul, show (16 : UInt8).toNat = 16 from rfl]; omega
    have : halvesL (joinL (x :: y :: l)) = (x * 16 + y) / 16 :: (x * 16 + y) % 16 :: halvesL (joinL l) := by simp [joinL, halvesL, halfB]
    rw [this, e1, e2, ih']
  | case2 l hl =>
    match l, hl with
    | [], _ => rfl
    | [x], _ => simp [joinOk] at h
    | x :: y :: l, hl => exact (hl x y l rfl).elim
theorem halves_join_not (l : List UInt8) (h : joinOk l = false) : halvesL (joinL l) ≠ l := by
  intro e
  have h1 := halves_wrong (joinL l)
  have h2 := halves_len (joinL l)
  rw [e] at h1 h2
  unfold joinOk at h
  rw [h1, h2] at h
  simp at h
theorem joinL_len (l : List UInt8) : (joinL l).length = l.length / 2 := by
  induction l using joinL.induct with
  | case1 x y l ih => simp [joinL]; omega
  | case2 l hl =>
    match l, hl with
    | [], _ => rfl
    | [x], _ => simp [joinL]
    | x :: y :: l, hl => exact (hl x y l rfl).elim
theorem joinL_at (l : List UInt8) : ∀ (i : Nat) (h : 2 * i + 1 < l.length), (joinL l)[i]? = some (l[2 * i] * 16 + l[2 * i + 1]) := by
  induction l using joinL.induct with
  | case1 x y l ih =>
    intro i h
    cases i with
    | zero => simp [joinL]
    | succ i =>
      have e1 : 2 * (i + 1) = 2 * i + 2 := by omega
      simp only [joinL, List.getElem?_cons_succ, e1, List.getElem_cons_succ]
      exact ih i (by simp at h; omega)
  | case2 l hl =>
    intro i h
    exfalso
    match l, hl with
    | [], _ => simp at h
    | [x], _ => simp at h
    | x :: y :: l, hl => exact hl x y l rfl
theorem join_wrap (x y : UInt8) : IntKind.u8.wrap (IntKind.u8.wrap ((x.toNat : Int) * 16) + (y.toNat : Int)) = ((x * 16 + y).toNat : Int) := by
  rw [IntKind.wrap_u8', IntKind.wrap_u8', UInt8.toNat_add, UInt8.toNat_mul, show (16 : UInt8).toNat = 16 from rfl]; omega
set_option maxHeartbeats 400000 in
set_option maxRecDepth 100000 in
theorem njoin_any (a : Option Addr) (c : Nat) (l : List UInt8) (w : World) (h : Bytes w (.slice a l.length c) l) (hl : l.length ≤ 140737488355328) :
    Calls Try.prog 120 #[.slice a l.length c] w fun e w' => ∃ v, e = .returned (.tuple #[v, .int .i64 (joinE l)]) ∧ OwnOf b8 1 5 w' w.heap.size v (joinR l) ∧ Below w.heap.size w w' := by
  obtain ⟨m, hm⟩ : ∃ m, m = l.length / 2 := ⟨_, rfl⟩
  have hdiv : (l.length : Int) / 2 = (m : Int) := by omega
  obtain ⟨T, hT⟩ : ∃ T, T = (joinL l).map u8v := ⟨_, rfl⟩
  have hTn : T.length = m := by rw [hT, List.length_map, joinL_len, hm]
  have hTat : ∀ (i : Nat), (h : 2 * i + 1 < l.length) → T[i]? = some (u8v (l[2 * i] * 16 + l[2 * i + 1])) := by
    intro i h
    rw [hT, List.getElem?_map, joinL_at l i h]; rfl
  have hmb : 2 * m ≤ l.length := by omega
  have Hm := Lib.hid hm
  have HT := Lib.hid hT
  have HTn := Lib.hid hTn
  have HTat := Lib.hid hTat
  clear hTat hTn hT hm
  go_enter Try.func120, Try.ntmps120
  go_wp2_with (refine wpList_make1 rfl (.tmp 8) (.tmp 8) 34 rfl elU8 rfl .i64 .i64 _ _ m rfl rfl ?_ ?_ (Below.refl _ _) (Nat.le_refl _) ?_ ?_ ?_)
  · rfl
  · rfl
  · omega
  · unfold maxLen; omega
  intro w1 hblk hbel _ hB
  go_wp2
  go_loopw [12] (fun i wr => ∃ k : Nat, k ≤ m ∧ i = .int .i64 k ∧ Blk 5 wr w.heap.size (fillL T (.int .u8 0) k) ∧ Below w.heap.size w wr) (fun i _ => m - (intOf i).toNat)
  case atStart => exact ⟨0, Nat.zero_le _, rfl, by rw [fill_zero, HTn.out]; exact hblk, hbel⟩
  case round =>
    clear hblk hbel hB
    obtain ⟨k, hk, rfl, hblk, hbel⟩ := hrel
    by_cases hlt : k < m
    · obtain ⟨b, off, rfl, hbl, hc0⟩ := h.later hbel (2 * k) (by omega)
      obtain ⟨_, _, e, _, hc1⟩ := h.later hbel (2 * k + 1) (by omega)
      simp only [Option.some.injEq, Addr.mk.injEq, and_true] at e
      obtain ⟨rfl, rfl⟩ := e
      have hTk := HTat.out k (by omega)
      obtain ⟨x, hx⟩ : ∃ x, x = l[2 * k] := ⟨_, rfl⟩
      obtain ⟨y, hy⟩ : ∃ y, y = l[2 * k + 1] := ⟨_, rfl⟩
      rw [← hx, ← hy] at hTk
      rw [← hx] at hc0
      rw [← hy] at hc1
      obtain ⟨j0, hj0⟩ : ∃ j0, j0 = 2 * k := ⟨_, rfl⟩
      obtain ⟨j1, hj1⟩ : ∃ j1, j1 = j0 + 1 := ⟨_, rfl⟩
      rw [← hj0] at hc0 hc1
      rw [← hj1] at hc1
      have e0 : IntKind.i64.wrap (2 * (k : Int)) = (j0 : Int) := by rw [IntWalk.i64_in _ (by omega)]; omega
      have e1 : IntKind.i64.wrap ((j0 : Int) + 1) = (j1 : Int) := by rw [IntWalk.i64_in _ (by omega)]; omega
      have g0 : (j0 : Int) < (l.length : Int) := by omega
      have g1 : (j1 : Int) < (l.length : Int) := by omega
      have g0' : j0 < l.length := by omega
      have g1' : j1 < l.length := by omega
      have hset := fill_set' T (.int .u8 0) k _ hTk
      have Hset := Lib.hid hset
      obtain ⟨y1, hy1⟩ := hblk.has k (by rw [fill_len _ _ _ (by rw [HTn.out]; omega), HTn.out]; exact hlt)
      have hf1 := hblk.free k
      have hw8 := join_wrap x y
      obtain ⟨z, hz⟩ : ∃ z, z = x * 16 + y := ⟨_, rfl⟩
      rw [← hz] at hw8
      have Hz := Lib.hid hz
      clear hset hTk hx hy hj0 hj1 hz
      have k0 := fun u : Ext wr => u.cell hc0
      have k1 := fun u : Ext wr => u.cell hc1
      go_wp2
      refine wp_region_typed wr 15 (by kernel_rfl) (by kernel_rfl) (Below.refl _ _) ?_; simp only [List.take_succ_cons, List.take_zero, List.take_nil]
      iterate 15 (refine wpX_step (by rfl) (fun K hK => ?_); go_simp; first | (refine hK _ ?_; clear hK K) | (apply Exists.intro; refine ⟨fun _ => ?_, hK _ ?_⟩; fail; clear hK K))
      refine wpX_nil ?_
      intro w1 hw1
      change wpList _ _ _ [_, _] _ _
      have hblk1 := hblk.kept hw1
      have hbel1 := hbel.trans (hw1.mono (Nat.le_of_lt hblk.lt))
      obtain ⟨y2, hy2⟩ := hblk1.has k (by rw [fill_len _ _ _ (by rw [HTn.out]; omega), HTn.out]; exact hlt)
      have hf2 := hblk1.free k
      have hblk2 := hblk1.set k (.int .u8 (z.toNat : Int))
      rw [show Value.int .u8 (z.toNat : Int) = u8v z from rfl, Hz.out, Hset.out] at hblk2
      go_wp2
      go_roundw
      case rel =>
        refine ⟨k + 1, by omega, by go_num, ?_, hbel1.setCell (Nat.le_refl _) _⟩
        rw [show Value.int .u8 (z.toNat : Int) = u8v z from rfl, Hz.out]
        exact hblk2
      case measure => simp [intOf]; try omega
    · obtain rfl : k = m := by omega
      have e : fillL T (.int .u8 0) k = (joinL l).flatMap b8 := by
        have := fill_end T (.int .u8 0)
        rw [HTn.out] at this
        rw [this, HT.out, flat_b8]
      rw [e] at hblk
      have hjl : (joinL l).length = k := by rw [joinL_len]; exact Hm.out.symm
      have hown := hblk.own (B := w.heap.size) k (fun _ => rfl) hjl (Nat.le_refl _) (by unfold maxLen; omega)
      have hrow := hown.row
      have Hjl := Lib.hid hjl
      have hs : ∀ u : Ext wr, (convert 34 9 (.slice a l.length c)).run Try.prog u.val = .ok (str l) u.val := fun u => run_str elU8.ht (by kernel_rfl) (by kernel_rfl) (h.below (hbel.trans (u.bel.mono (Nat.le_of_lt hblk.lt))))
      have Hne : Hid (((halvesL (joinL l)) == l) = joinOk l) := by
        cases hok : joinOk l with
        | true => rw [halves_join l hok]; exact Lib.hid (by simp)
        | false => exact Lib.hid (by have := halves_join_not l hok; simpa using this)
      clear e hjl
      go_wp2
      refine wp_region_typed wr 6 (by kernel_rfl) (by kernel_rfl) (Below.refl _ _) ?_; simp only [List.take_succ_cons, List.take_zero, List.take_nil]
      (refine wpX_step (by rfl) (fun K hK => ?_); go_simp; first | (refine hK _ ?_; clear hK K) | (apply Exists.intro; refine ⟨fun _ => ?_, hK _ ?_⟩; fail; clear hK K))
      refine wpX_rel 33 (fun v w1 => Bytes w1 v (halvesL (joinL l))) rfl (of_decide_eq_true rfl) (fun v w1 w2 h1 h2 => RowOf.kept h1 h2) (fun w1 hw1 => ?_) ?_
      · simp only [relOf, List.filter_nil, forallRel]
        refine ⟨rfl, ?_⟩
        go_simp
        have hr := hrow.below hw1
        rw [← Hjl.out] at hr ⊢
        refine (nhalves_any _ _ (joinL l) _ hr (by rw [Hjl.out]; omega)).mono ?_
        rintro e w2 ⟨v, rfl, hv, hb⟩
        exact ⟨v, rfl, hv.row, hb⟩
      refine wpX_eq (str (halvesL (joinL l))) (fun w1 hw1 => ?_) ?_
      · change forallRel w1 [(33, _)] _ _
        intro v33 h33
        have hc := run_str (P := Try.prog) (w := w1) (src := 34) (dst := 9) elU8.ht (by kernel_rfl) (by kernel_rfl) h33
        simp only [forallRel]
        refine ⟨rfl, ?_⟩
        go_simp
        exact Below.refl _ _
      iterate 2 (refine wpX_step (by rfl) (fun K hK => ?_); go_simp; first | (refine hK _ ?_; clear hK K) | (apply Exists.intro; refine ⟨fun _ => ?_, hK _ ?_⟩; fail; clear hK K))
      refine wpX_eq (.bool (!joinOk l)) (fun w1 hw1 => ?_) ?_
      · change forallRel w1 [] _ _
        simp only [forallRel]
        refine ⟨rfl, ?_⟩
        go_simp
        exact ⟨Below.refl _ _, Hne.out⟩
      refine wpX_end rfl ?_
      rintro w2 hw2 v33 h33
      simp only [forallRel]
      have hbel2 := hbel.trans (hw2.mono (Nat.le_of_lt hblk.lt))
      have hown2 := hown.kept hw2
      cases hok : joinOk l with
      | true =>
        simp only [hok, Bool.not_true]
        have H1 := Lib.hid (join_yes hok)
        clear hok
        go_wp2
        go_ret2
        exact ⟨_, by rw [H1.out.1]; rfl, by rw [H1.out.2]; exact hown2, hbel2⟩
      | false =>
        simp only [hok, Bool.not_false]
        have H1 := Lib.hid (join_no hok)
        clear hok
        go_wp2
        go_ret2
        exact ⟨_, by rw [H1.out.1]; rfl, by rw [H1.out.2]; exact OwnOf.nil _ _ _ _ _, hbel2⟩
end Go.Proofs.Ytfedjbodcebdnaa
