/- The reference's shapeItem of a road. -/
import Derived.Test.YtfedjbodcebdnaaRoot7
set_option linter.unusedSimpArgs false
set_option linter.unusedVariables false
namespace Go.Proofs.Ytfedjbodcebdnaa
open Go.RowKit
set_option maxHeartbeats 2000000 in
set_option maxRecDepth 100000 in
theorem sitem_road (pa va ka : Option Addr) (pn pc vn vc kn kc : Nat) (p : List UInt8) (ps : List (Value × List UInt8)) (hpn : p.length = pn) (hkn : ps.length = kn) (w : World) (hp : Bytes w (.slice pa pn pc) p) (hk : Texts w (.slice ka kn kc) ps) (hP : pn ≤ 1048576) (hK : kn ≤ 1048576) (hKs : ∀ q ∈ ps, q.2.length ≤ 1048576) :
    Calls Try.prog 87 #[.agg #[.int .i64 2, .slice pa pn pc, .slice va vn vc, .slice ka kn kc]] w (ItemPost (!wrongB p && decide (1 ≤ pn) && decide (kn = 1) && decide (((ps.map (·.2))[0]?.getD []).length = 32)) (lsB [joinR (tagL p false), (ps.map (·.2))[0]?.getD []]) w) := by
  have ct := fun x h => ntag_any pa pn pc p false hpn x h (by omega)
  have hTl := joinR_len p false
  obtain ⟨T, hT⟩ : ∃ T, T = joinR (tagL p false) := ⟨_, rfl⟩
  obtain ⟨E, hE⟩ : ∃ E, E = joinE (tagL p false) := ⟨_, rfl⟩
  rw [← hT] at hTl ⊢
  simp only [← hT, ← hE] at ct
  obtain ⟨ok, hokk⟩ : ∃ ok, ok = (!wrongB p && decide (1 ≤ pn) && decide (kn = 1) && decide (((ps.map (·.2))[0]?.getD []).length = 32)) := ⟨_, rfl⟩
  rw [← hokk]
  obtain ⟨B, hB⟩ : ∃ B, B = lsB [T, (ps.map (·.2))[0]?.getD []] := ⟨_, rfl⟩
  rw [← hB]
  have hlT : T.length ≤ 1048580 := by omega
  obtain ⟨tn, htn⟩ : ∃ tn, tn = T.length := ⟨_, rfl⟩
  have Htn := Lib.hid htn
  have Ct := Lib.hid ct
  have Hokk := Lib.hid hokk
  have HlT := Lib.hid hlT
  have Hkn := Lib.hid hkn
  have HB := Lib.hid hB
  clear ct hT htn hTl hE hokk hlT hkn hB
  have hs1 : Blk 70 ((w.alloc (.cells #[.int .i64 2, .slice pa pn pc, .slice va vn vc, .slice ka kn kc] 70)).alloc (.cells #[.bool false, .slice none 0 0, .slice none 0 0] 37)) w.heap.size [.int .i64 2, .slice pa pn pc, .slice va vn vc, .slice ka kn kc] := (Blk.new w 70 _).alloc _
  have hz1 : Blk 37 ((w.alloc (.cells #[.int .i64 2, .slice pa pn pc, .slice va vn vc, .slice ka kn kc] 70)).alloc (.cells #[.bool false, .slice none 0 0, .slice none 0 0] 37)) (w.heap.size + 1) [.bool false, .slice none 0 0, .slice none 0 0] := by
    have := Blk.new (w.alloc (.cells #[.int .i64 2, .slice pa pn pc, .slice va vn vc, .slice ka kn kc] 70)) 37 [.bool false, .slice none 0 0, .slice none 0 0]
    simpa using this
  have hbel1 : Below w.heap.size w ((w.alloc (.cells #[.int .i64 2, .slice pa pn pc, .slice va vn vc, .slice ka kn kc] 70)).alloc (.cells #[.bool false, .slice none 0 0, .slice none 0 0] 37)) := ((Below.refl _ _).alloc (Nat.le_refl _) _).alloc (by simp) _
  obtain ⟨w1, hw1⟩ : ∃ w1, w1 = (w.alloc (.cells #[.int .i64 2, .slice pa pn pc, .slice va vn vc, .slice ka kn kc] 70)).alloc (.cells #[.bool false, .slice none 0 0, .slice none 0 0] 37) := ⟨_, rfl⟩
  rw [← hw1] at hs1 hz1 hbel1
  have hp1 := hp.below hbel1
  have Hw1 := Lib.hid hw1
  have Hpn := Lib.hid hpn
  clear hw1
  go_enter Try.func87, Try.ntmps87
  go_wp2_with fail
  rw [← Hw1.out]
  have c0 := (hs1.cell 0).trans (show _ = some (Value.int .i64 2) from rfl)
  have c1 := (hs1.cell 1).trans (show _ = some (Value.slice pa pn pc) from rfl)
  have c2 := (hs1.cell 2).trans (show _ = some (Value.slice va vn vc) from rfl)
  have c3 := (hs1.cell 3).trans (show _ = some (Value.slice ka kn kc) from rfl)
  go_loopw [4, 20] (fun t4 ix wr => ∃ k : Nat, k ≤ pn ∧ ix = .int .i64 (k : Int) ∧ t4 = .bool (!wrongB (p.take k)) ∧ wr = w1) (fun _ ix _ => pn - (intOf ix).toNat)
  case atStart => exact ⟨0, by omega, rfl, by simp [wrongB], rfl⟩
  case round =>
    obtain ⟨k, hk', rfl, rfl, rfl⟩ := hrel
    by_cases hlt : k < pn
    · have hki : (k : Int) < (pn : Int) := by omega
      obtain ⟨b, off, rfl, hc⟩ := Bytes.at hp1 k (by rw [Hpn.out]; exact hlt)
      have hstep := wrong_step p k (by rw [Hpn.out]; exact hlt)
      obtain ⟨x, hx⟩ : ∃ x, x = p[k]'(by rw [Hpn.out]; exact hlt) := ⟨_, rfl⟩
      rw [← hx] at hc hstep
      obtain ⟨b0, hb0⟩ : ∃ b0, b0 = (!wrongB (p.take k)) := ⟨_, rfl⟩
      obtain ⟨b1, hb1⟩ : ∃ b1, b1 = (!wrongB (p.take (k + 1))) := ⟨_, rfl⟩
      rw [← hb0, ← hb1] at hstep
      rw [← hb0]
      have Hb1 := Lib.hid hb1
      have hxd : decide ((x.toNat : Int) < 16) = decide (x.toNat < 16) := by
        rw [Bool.eq_iff_iff]; simp only [decide_eq_true_eq]; omega
      obtain ⟨bx, hbx⟩ : ∃ bx, bx = decide (x.toNat < 16) := ⟨_, rfl⟩
      rw [← hbx] at hxd hstep
      have Hstep := Lib.hid hstep
      clear hstep hb0 hb1 hx hbx
      cases b0
      all_goals
        go_wp2
        go_roundw
        case rel => exact ⟨k + 1, by omega, by go_num, by rw [← Hb1.out, Hstep.out]; rfl, by first | trivial | rfl⟩
        case measure => simp [intOf]; omega
    · obtain rfl : pn = k := by omega
      have htk : p.take pn = p := List.take_of_length_le (by rw [Hpn.out]; omega)
      rw [htk]
      clear htk hp1
      obtain ⟨bo, hbo⟩ : ∃ bo, bo = (!wrongB p) := ⟨_, rfl⟩
      rw [← hbo]
      have Hbo := Lib.hid hbo
      clear hbo
      have h3 : bo = false ∨ (bo = true ∧ pn = 0) ∨ (bo = true ∧ 0 < pn ∧ kn ≠ 1) ∨ (bo = true ∧ 0 < pn ∧ kn = 1) := by cases bo <;> simp; omega
      rcases h3 with rfl | ⟨rfl, hp0⟩ | ⟨rfl, hp0, hk1⟩ | ⟨rfl, hp0, hk1⟩
      · clear hk hKs
        go_wp2_with ((with_reducible show wpList _ _ _ (⟨none, Op.store _ _ (Operand.tmp 172), _, _, _, _⟩ :: _) _ _); refine wpList_storeA (o := ⟨none, _, _, _, _, _⟩) (by rfl) 37 (.tmp 2) (.tmp 172) (by rfl) (w.heap.size + 1) [.bool false, .slice none 0 0, .slice none 0 0] (by rfl) (by rfl) aggItem hz1 (by rfl) (by rfl) (by intro u hu; simp at hu; rcases hu with rfl | rfl <;> rfl) (Below.refl _ _) (Nat.le_refl _) ?_; intro w5 hh5 _ hg5; have hbel5 := hbel1.grown hg5 hbel1.size (fun j hj => by cases hj; omega))
        have hokf : ok = false := by rw [Hokk.out, ← Hbo.out]; simp
        subst hokf
        exact bodyPost_ret (results_blk_tmp rfl _ _ (w.heap.size + 1) aggItem hh5 rfl rfl rfl) rfl ⟨false, none, 0, 0, [], none, 0, 0, [], rfl, fun h => by simp at h, hbel5⟩
      · have hi0 : decide ((1 : Int) ≤ (pn : Int)) = false := by rw [decide_eq_false_iff_not]; omega
        have hi2 : ¬ 1 ≤ pn := by omega
        have Hp0 := Lib.hid hp0
        clear hp0 hk hKs
        go_wp2_with ((with_reducible show wpList _ _ _ (⟨none, Op.store _ _ (Operand.tmp 172), _, _, _, _⟩ :: _) _ _); refine wpList_storeA (o := ⟨none, _, _, _, _, _⟩) (by rfl) 37 (.tmp 2) (.tmp 172) (by rfl) (w.heap.size + 1) [.bool false, .slice none 0 0, .slice none 0 0] (by rfl) (by rfl) aggItem hz1 (by rfl) (by rfl) (by intro u hu; simp at hu; rcases hu with rfl | rfl <;> rfl) (Below.refl _ _) (Nat.le_refl _) ?_; intro w5 hh5 _ hg5; have hbel5 := hbel1.grown hg5 hbel1.size (fun j hj => by cases hj; omega))
        have hokf : ok = false := by rw [Hokk.out, Hp0.out]; simp
        subst hokf
        exact bodyPost_ret (results_blk_tmp rfl _ _ (w.heap.size + 1) aggItem hh5 rfl rfl rfl) rfl ⟨false, none, 0, 0, [], none, 0, 0, [], rfl, fun h => by simp at h, hbel5⟩
      · have hi0 : (1 : Int) ≤ (pn : Int) := by omega
        have hke : ((kn : Int) == 1) = false := by rw [beq_eq_false_iff_ne]; omega
        have Hk1 := Lib.hid hk1
        clear hk1 hk hKs
        go_wp2_with ((with_reducible show wpList _ _ _ (⟨none, Op.store _ _ (Operand.tmp 172), _, _, _, _⟩ :: _) _ _); refine wpList_storeA (o := ⟨none, _, _, _, _, _⟩) (by rfl) 37 (.tmp 2) (.tmp 172) (by rfl) (w.heap.size + 1) [.bool false, .slice none 0 0, .slice none 0 0] (by rfl) (by rfl) aggItem hz1 (by rfl) (by rfl) (by intro u hu; simp at hu; rcases hu with rfl | rfl <;> rfl) (Below.refl _ _) (Nat.le_refl _) ?_; intro w5 hh5 _ hg5; have hbel5 := hbel1.grown hg5 hbel1.size (fun j hj => by cases hj; omega))
        have hokf : ok = false := by rw [Hokk.out]; simp [Hk1.out]
        subst hokf
        exact bodyPost_ret (results_blk_tmp rfl _ _ (w.heap.size + 1) aggItem hh5 rfl rfl rfl) rfl ⟨false, none, 0, 0, [], none, 0, 0, [], rfl, fun h => by simp at h, hbel5⟩
      · have hi0 : (1 : Int) ≤ (pn : Int) := by omega
        obtain ⟨q, hq⟩ : ∃ q, ps = [q] := List.length_eq_one_iff.1 (Hkn.out.trans hk1)
        subst hq
        subst hk1
        obtain ⟨kb, koff, q', rfl, hq', hkc, hkq⟩ := Texts.at hk 0 (by simp)
        obtain rfl : q = q' := by simpa using hq'
        obtain ⟨qv, ql⟩ := q
        simp only at hkc hkq
        obtain ⟨qa, qc, rfl, _, hqm⟩ := hkq.form
        have hql : ql.length ≤ 1048576 := hKs (.slice qa ql.length qc, ql) (by simp)
        obtain ⟨qn, hqn⟩ : ∃ qn, qn = ql.length := ⟨_, rfl⟩
        rw [← hqn] at hkc hkq hql
        rw [Nat.add_zero] at hkc
        have hlt0 := World.block_lt_of_cell? w _ hkc
        have hkc1 := (hbel1.cell (p := ⟨kb, koff, none⟩) hlt0).trans hkc
        have hgq : ∀ qv : Value, ((List.map (fun p : Value × List UInt8 => p.2) [(qv, ql)])[0]?.getD []) = ql := fun _ => rfl
        have hB0 := HB.out
        have hok0 := Hokk.out
        rw [hgq, ← Hbo.out, ← hqn] at hok0
        rw [hgq] at hB0
        have Hqn := Lib.hid hqn
        have HB0 := Lib.hid hB0
        by_cases h32 : qn = 32
        · have hok1 : ok = true := by rw [hok0]; simp [h32, show 1 ≤ pn from hp0]
          have Hok1 := Lib.hid hok1
          have hqe : ((qn : Int) == 32) = true := by rw [beq_iff_eq]; omega
          clear hk hKs hok0 hok1 hgq hB0 hqn h32 hp0
          go_wp2_with (go_at_call 108; refine (Ct.out _ (hp.below hbel1)).mono ?_; rintro e w2 ⟨tv, rfl, ht2, b2⟩; have hs2 := hs1.kept b2; have hz2 := hz1.kept b2; have hbel2 := Below.then hbel1 b2; obtain ⟨ga, gc, rfl, _⟩ := ht2.form' tn Htn.out.symm)
          have hv2 := hkq.below hbel2
          have d1 := fun x => ptext_any ga tn gc x
          have d2 := fun x => ptext_any qa qn qc x
          have D1 := Lib.hid d1
          have D2 := Lib.hid d2
          clear d1 d2
          have k3 := fun u : Ext w2 => u.cell ((hs2.cell 3).trans (show _ = some (Value.slice (some ⟨kb, koff, none⟩) 1 kc) from rfl))
          have k4 := fun u : Ext w2 => u.cell ((hbel2.cell (p := ⟨kb, koff, none⟩) hlt0).trans hkc)
          refine wp_region_typed w2 9 (by kernel_rfl) (by kernel_rfl) (Below.refl _ _) ?_; simp only [List.take_succ_cons, List.take_zero, List.take_nil]
          (refine wpX_step (by rfl) (fun K hK => ?_); go_simp; first | (refine hK _ ?_; clear hK K) | (apply Exists.intro; refine ⟨fun _ => ?_, hK _ ?_⟩; fail; clear hK K))
          (refine wpX_step (by rfl) (fun K hK => ?_); go_simp; first | (refine hK _ ?_; clear hK K) | (apply Exists.intro; refine ⟨fun _ => ?_, hK _ ?_⟩; exact D1.out _; clear hK K))
          iterate 4 (refine wpX_step (by rfl) (fun K hK => ?_); go_simp; first | (refine hK _ ?_; clear hK K) | (apply Exists.intro; refine ⟨fun _ => ?_, hK _ ?_⟩; fail; clear hK K))
          (refine wpX_step (by rfl) (fun K hK => ?_); go_simp; first | (refine hK _ ?_; clear hK K) | (apply Exists.intro; refine ⟨fun _ => ?_, hK _ ?_⟩; exact D2.out _; clear hK K))
          refine wpX_rel 107 (PairB w2.heap.size (.slice ga tn gc) (.slice qa qn qc) T ql) rfl (of_decide_eq_true rfl) (PairB.mono _ _ _ _ _) (fun w3 hw3 => ?_) ?_
          · simp only [relOf, List.filter_nil, forallRel]
            refine ⟨rfl, ?_⟩
            go_simp
            exact ⟨(Below.refl _ _).alloc (Nat.le_refl _) _, w3.heap.size, rfl, hw3.size, Row.built icells_len w3 37 [txt (.slice ga tn gc) T, txt (.slice qa qn qc) ql] 2 rfl (by unfold maxLen; omega)⟩
          refine wpX_rel 108 (ListTT w2.heap.size (.slice ga tn gc) (.slice qa qn qc) T ql) rfl (of_decide_eq_true rfl) (ListTT.mono _ _ _ _ _) (fun w3 hw3 => ?_) ?_
          · change forallRel w3 [(107, _)] _ _
            rintro v33 ⟨g, rfl, hg0, hr⟩
            simp only [forallRel]
            refine ⟨rfl, ?_⟩
            go_simp
            refine (plist_any _ 2 2 w3).mono ?_
            rintro e w4 ⟨rfl, b4⟩
            exact ⟨_, rfl, ⟨g, rfl, hg0, RowOf.kept hr b4⟩, b4⟩
          refine wpX_nil ?_
          intro u2 hb2 vA _ vB hB76
          change wpList _ _ _ [_, _] _ _
          obtain ⟨g, rfl, hg0, hr⟩ := hB76
          have hz3 := hz2.kept hb2
          have hbel3 := Below.then hbel2 hb2
          have ht3 := ht2.below hb2
          clear k3 k4
          go_wp2_with ((with_reducible show wpList _ _ _ (⟨none, Op.store _ _ _, _, _, _, _⟩ :: _) _ _); refine wpList_storeA (o := ⟨none, _, _, _, _, _⟩) (by rfl) 37 (.tmp 2) (.tmp 108) (by rfl) (w.heap.size + 1) [.bool true, .slice none 0 0, .slice (some ⟨g, 0, none⟩) 2 2] (by rfl) (by rfl) aggItem hz3 (by rfl) (by rfl) (by intro u hu; simp at hu; rcases hu with rfl | rfl | rfl <;> rfl) (Below.refl _ _) (Nat.le_refl _) ?_; intro w5 hh5 _ hg5; have hbel5 := hbel3.grown hg5 hbel3.size (fun j hj => by cases hj; omega))
          have ht5 := Bytes.off ht3 hz3 (by intro u hu k; simp at hu; rcases hu with rfl | rfl | rfl <;> simp) hg5
          have hv5 := hkq.below hbel5
          have hr5 := RowOf.grownNe hr hg5 (by have := hz2.lt; omega)
          have hokt : ok = true := Hok1.out
          subst hokt
          refine bodyPost_ret (results_blk_tmp rfl _ _ (w.heap.size + 1) aggItem hh5 rfl rfl rfl) rfl ⟨true, none, 0, 0, [], some ⟨g, 0, none⟩, 2, 2, [txt (.slice ga tn gc) T, txt (.slice qa qn qc) ql], rfl, fun _ => ⟨?_, ?_, ?_⟩, hbel5⟩
          · exact IsItm.lst hr5 (txts_is (ps := [(.slice ga tn gc, T), (.slice qa qn qc, ql)]) (by intro p hp; simp at hp; rcases hp with rfl | rfl; exact ht5; exact hv5))
          · rw [HB0.out]; exact encI_lst_txts _ [(.slice ga tn gc, T), (.slice qa qn qc, ql)]
          · refine Nat.le_trans (Nat.le_of_eq (bulk_lst _ (txts [(.slice ga tn gc, T), (.slice qa qn qc, ql)]))) ?_
            rw [bulkL_txts]
            have := HlT.out
            have := Hqn.out
            simp; omega

        · have hok1 : ok = false := by rw [hok0]; simp [h32]
          have Hok1 := Lib.hid hok1
          have hqe : ((qn : Int) == 32) = false := by rw [beq_eq_false_iff_ne]; omega
          clear hk hKs hok0 hok1 hgq hB0 hqn h32 hp0
          go_wp2_with ((with_reducible show wpList _ _ _ (⟨none, Op.store _ _ (Operand.tmp 172), _, _, _, _⟩ :: _) _ _); refine wpList_storeA (o := ⟨none, _, _, _, _, _⟩) (by rfl) 37 (.tmp 2) (.tmp 172) (by rfl) (w.heap.size + 1) [.bool false, .slice none 0 0, .slice none 0 0] (by rfl) (by rfl) aggItem hz1 (by rfl) (by rfl) (by intro u hu; simp at hu; rcases hu with rfl | rfl <;> rfl) (Below.refl _ _) (Nat.le_refl _) ?_; intro w5 hh5 _ hg5; have hbel5 := hbel1.grown hg5 hbel1.size (fun j hj => by cases hj; omega))
          have hokf : ok = false := Hok1.out
          subst hokf
          exact bodyPost_ret (results_blk_tmp rfl _ _ (w.heap.size + 1) aggItem hh5 rfl rfl rfl) rfl ⟨false, none, 0, 0, [], none, 0, 0, [], rfl, fun h => by simp at h, hbel5⟩
end Go.Proofs.Ytfedjbodcebdnaa
