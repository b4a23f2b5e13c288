/- root.item of a road; of nothing; of no kind. -/
import Derived.Test.YtfedjbodcebdnaaRoot2
set_option linter.unusedSimpArgs false
set_option linter.unusedVariables false
namespace Go.Proofs.Ytfedjbodcebdnaa
open Go.RowKit
def ListTT (B : Nat) (v1 v2 : Value) (T V : List UInt8) : Ty := fun v w => ∃ g : Nat, v = .agg #[.bool true, .slice none 0 0, .slice (some ⟨g, 0, none⟩) 2 2] ∧ (B ≤ g ∧ RowOf icells 3 w (.slice (some ⟨g, 0, none⟩) 2 2) [txt v1 T, txt v2 V])
theorem ListTT.mono (B : Nat) (v1 v2 : Value) (T V : List UInt8) : Mono (ListTT B v1 v2 T V) := fun _ _ _ ⟨g, h1, h0, h2⟩ hb => ⟨g, h1, h0, RowOf.kept h2 hb⟩
def PairB (B : Nat) (v1 v2 : Value) (T V : List UInt8) : Ty := fun v w => ∃ g : Nat, v = .slice (some ⟨g, 0, none⟩) 2 2 ∧ (B ≤ g ∧ RowOf icells 3 w v [txt v1 T, txt v2 V])
theorem PairB.mono (B : Nat) (v1 v2 : Value) (T V : List UInt8) : Mono (PairB B v1 v2 T V) := fun _ _ _ ⟨g, h1, h0, h2⟩ hb => ⟨g, h1, h0, RowOf.kept h2 hb⟩
set_option maxHeartbeats 1500000 in
set_option maxRecDepth 100000 in
theorem item_road (pa va ka : Option Addr) (pn pc vn vc kn kc : Nat) (p : List UInt8) (ps : List (Value × List UInt8)) (hpn : p.length = pn) (hkn : ps.length = kn) (w : World) (hp : Bytes w (.slice pa pn pc) p) (hk : Texts w (.slice ka kn kc) ps) (hP : pn ≤ 1048576) (hK : kn ≤ 1048576) (hKs : ∀ q ∈ ps, q.2.length ≤ 1048576) :
    Calls Try.prog 86 #[.agg #[.int .i64 2, .slice pa pn pc, .slice va vn vc, .slice ka kn kc]] w (ItemPost (!wrongB p && decide (1 ≤ pn) && decide (kn = 1) && decide (((ps.map (·.2))[0]?.getD []).length = 32)) (lsB [joinR (tagL p false), (ps.map (·.2))[0]?.getD []]) w) := by
  have hs1 : Blk 70 ((w.alloc (.cells #[.int .i64 2, .slice pa pn pc, .slice va vn vc, .slice ka kn kc] 70)).alloc (.cells #[.bool false, .slice none 0 0, .slice none 0 0] 37)) w.heap.size [.int .i64 2, .slice pa pn pc, .slice va vn vc, .slice ka kn kc] := (Blk.new w 70 _).alloc _
  have hz1 : Blk 37 ((w.alloc (.cells #[.int .i64 2, .slice pa pn pc, .slice va vn vc, .slice ka kn kc] 70)).alloc (.cells #[.bool false, .slice none 0 0, .slice none 0 0] 37)) (w.heap.size + 1) [.bool false, .slice none 0 0, .slice none 0 0] := by
    have := Blk.new (w.alloc (.cells #[.int .i64 2, .slice pa pn pc, .slice va vn vc, .slice ka kn kc] 70)) 37 [.bool false, .slice none 0 0, .slice none 0 0]
    simpa using this
  have hbel1 : Below w.heap.size w ((w.alloc (.cells #[.int .i64 2, .slice pa pn pc, .slice va vn vc, .slice ka kn kc] 70)).alloc (.cells #[.bool false, .slice none 0 0, .slice none 0 0] 37)) := ((Below.refl _ _).alloc (Nat.le_refl _) _).alloc (by simp) _
  have ct := fun x h => tag_any pa pn pc p false hpn x h (by omega)
  have hTl := joinR_len p false
  obtain ⟨T, hT⟩ : ∃ T, T = joinR (tagL p false) := ⟨_, rfl⟩
  rw [← hT] at hTl ⊢
  simp only [← hT] at ct
  obtain ⟨B, hB⟩ : ∃ B, B = lsB [T, (ps.map (·.2))[0]?.getD []] := ⟨_, rfl⟩
  rw [← hB]
  obtain ⟨ok, hokk⟩ : ∃ ok, ok = (!wrongB p && decide (1 ≤ pn) && decide (kn = 1) && decide (((ps.map (·.2))[0]?.getD []).length = 32)) := ⟨_, rfl⟩
  rw [← hokk]
  have hlT : T.length ≤ 1048580 := by omega
  obtain ⟨tn, htn⟩ : ∃ tn, tn = T.length := ⟨_, rfl⟩
  have hw := joinE_two (tagL p false)
  rw [tagL_ok] at hw
  have Htn := Lib.hid htn
  have Hokk := Lib.hid hokk
  have HlT := Lib.hid hlT
  have HB := Lib.hid hB
  have Hkn := Lib.hid hkn
  clear hT htn hTl hokk hlT hB hkn
  have hcase : (joinE (tagL p false) = 1 ∧ (!wrongB p) = false) ∨ ((joinE (tagL p false) = 0 ∧ (!wrongB p) = true) ∧ (pn = 0 ∨ (0 < pn ∧ kn ≠ 1) ∨ (0 < pn ∧ kn = 1))) := by
    rcases hw with ⟨h1, h2⟩ | ⟨h1, h2⟩
    · right; exact ⟨⟨h2, h1⟩, by omega⟩
    · left; exact ⟨h2, h1⟩
  rcases hcase with ⟨hE, hwr⟩ | ⟨⟨hE, hwr⟩, hp0 | ⟨hp0, hk1⟩ | ⟨hp0, hk1⟩⟩
  · rw [hE] at ct
    have Ct := Lib.hid ct
    clear ct
    have Hwr := Lib.hid hwr
    clear hE hwr hk hKs
    go_enter Try.func86, Try.ntmps86
    go_wp2_with (first
      | (go_at_call 105; refine (Ct.out _ (hp.below hbel1)).mono ?_; rintro e w2 ⟨tv, rfl, ht2, b2⟩; have hs2 := hs1.kept b2; have kcell := (hs2.cell 0).trans (show _ = some (Value.int .i64 2) from rfl); have kpath := (hs2.cell 1).trans (show _ = some (Value.slice pa pn pc) from rfl); have kkids := (hs2.cell 3).trans (show _ = some (Value.slice ka kn kc) from rfl); have hz2 := hz1.kept b2; have hbel2 := Below.then hbel1 b2; obtain ⟨ga, gc, rfl, _⟩ := ht2.form' tn Htn.out.symm)
      | ((with_reducible show wpList _ _ _ (⟨none, Op.store _ _ _, _, _, _, _⟩ :: _) _ _); refine wpList_storeA (o := ⟨none, _, _, _, _, _⟩) (by rfl) 37 (.tmp 2) (.tmp 67) (by rfl) (w.heap.size + 1) [.bool false, .slice none 0 0, .slice none 0 0] (by rfl) (by rfl) aggItem hz2 (by rfl) (by rfl) (by intro u hu; simp at hu; rcases hu with rfl | rfl <;> rfl) (Below.refl _ _) (Nat.le_refl _) ?_; intro w5 hh5 _ hg5; have hbel5 := hbel2.grown hg5 hbel2.size (fun j hj => by cases hj; omega)))
    have hokt : ok = false := by rw [Hokk.out]; rw [Hwr.out]; simp
    subst hokt
    exact bodyPost_ret (results_blk_tmp rfl _ _ (w.heap.size + 1) aggItem hh5 rfl rfl rfl) rfl ⟨false, none, 0, 0, [], none, 0, 0, [], rfl, fun h => by simp at h, hbel5⟩
  · rw [hE] at ct
    have Ct := Lib.hid ct
    clear ct
    have Hwr := Lib.hid hwr
    have Hp0 := Lib.hid hp0
    have hpe : ((pn : Int) == 0) = true := by rw [beq_iff_eq]; omega
    clear hE hwr hp0 hk hKs
    go_enter Try.func86, Try.ntmps86
    go_wp2_with (first
      | (go_at_call 105; refine (Ct.out _ (hp.below hbel1)).mono ?_; rintro e w2 ⟨tv, rfl, ht2, b2⟩; have hs2 := hs1.kept b2; have kcell := (hs2.cell 0).trans (show _ = some (Value.int .i64 2) from rfl); have kpath := (hs2.cell 1).trans (show _ = some (Value.slice pa pn pc) from rfl); have kkids := (hs2.cell 3).trans (show _ = some (Value.slice ka kn kc) from rfl); have hz2 := hz1.kept b2; have hbel2 := Below.then hbel1 b2; obtain ⟨ga, gc, rfl, _⟩ := ht2.form' tn Htn.out.symm)
      | ((with_reducible show wpList _ _ _ (⟨none, Op.store _ _ _, _, _, _, _⟩ :: _) _ _); refine wpList_storeA (o := ⟨none, _, _, _, _, _⟩) (by rfl) 37 (.tmp 2) (.tmp 67) (by rfl) (w.heap.size + 1) [.bool false, .slice none 0 0, .slice none 0 0] (by rfl) (by rfl) aggItem hz2 (by rfl) (by rfl) (by intro u hu; simp at hu; rcases hu with rfl | rfl <;> rfl) (Below.refl _ _) (Nat.le_refl _) ?_; intro w5 hh5 _ hg5; have hbel5 := hbel2.grown hg5 hbel2.size (fun j hj => by cases hj; omega)))
    have hokt : ok = false := by rw [Hokk.out]; rw [Hp0.out]; simp
    subst hokt
    exact bodyPost_ret (results_blk_tmp rfl _ _ (w.heap.size + 1) aggItem hh5 rfl rfl rfl) rfl ⟨false, none, 0, 0, [], none, 0, 0, [], rfl, fun h => by simp at h, hbel5⟩
  · rw [hE] at ct
    have Ct := Lib.hid ct
    clear ct
    have hpe : ((pn : Int) == 0) = false := by rw [beq_eq_false_iff_ne]; omega
    have hke : ((kn : Int) != 1) = true := by rw [bne_iff_ne]; omega
    have Hk1 := Lib.hid hk1
    clear hE hwr hk hKs
    go_enter Try.func86, Try.ntmps86
    go_wp2_with (first
      | (go_at_call 105; refine (Ct.out _ (hp.below hbel1)).mono ?_; rintro e w2 ⟨tv, rfl, ht2, b2⟩; have hs2 := hs1.kept b2; have kcell := (hs2.cell 0).trans (show _ = some (Value.int .i64 2) from rfl); have kpath := (hs2.cell 1).trans (show _ = some (Value.slice pa pn pc) from rfl); have kkids := (hs2.cell 3).trans (show _ = some (Value.slice ka kn kc) from rfl); have hz2 := hz1.kept b2; have hbel2 := Below.then hbel1 b2; obtain ⟨ga, gc, rfl, _⟩ := ht2.form' tn Htn.out.symm)
      | ((with_reducible show wpList _ _ _ (⟨none, Op.store _ _ _, _, _, _, _⟩ :: _) _ _); refine wpList_storeA (o := ⟨none, _, _, _, _, _⟩) (by rfl) 37 (.tmp 2) (.tmp 67) (by rfl) (w.heap.size + 1) [.bool false, .slice none 0 0, .slice none 0 0] (by rfl) (by rfl) aggItem hz2 (by rfl) (by rfl) (by intro u hu; simp at hu; rcases hu with rfl | rfl <;> rfl) (Below.refl _ _) (Nat.le_refl _) ?_; intro w5 hh5 _ hg5; have hbel5 := hbel2.grown hg5 hbel2.size (fun j hj => by cases hj; omega)))
    have hokt : ok = false := by rw [Hokk.out]; simp [Hk1.out]
    subst hokt
    exact bodyPost_ret (results_blk_tmp rfl _ _ (w.heap.size + 1) aggItem hh5 rfl rfl rfl) rfl ⟨false, none, 0, 0, [], none, 0, 0, [], rfl, fun h => by simp at h, hbel5⟩
  · rw [hE] at ct
    have Ct := Lib.hid ct
    clear ct
    have hpe : ((pn : Int) == 0) = false := by rw [beq_eq_false_iff_ne]; omega
    obtain ⟨q, hq⟩ : ∃ q, ps = [q] := List.length_eq_one_iff.1 (Hkn.out.trans hk1)
    subst hq
    subst hk1
    obtain ⟨kb, koff, q', rfl, hq', hkc, hkq⟩ := Texts.at hk 0 (by simp)
    obtain rfl : q = q' := by simpa using hq'
    obtain ⟨qv, ql⟩ := q
    simp only at hkc hkq
    obtain ⟨qa, qc, rfl, _, hqm⟩ := hkq.form
    have hql : ql.length ≤ 1048576 := hKs (.slice qa ql.length qc, ql) (by simp)
    obtain ⟨qn, hqn⟩ : ∃ qn, qn = ql.length := ⟨_, rfl⟩
    rw [← hqn] at hkc hkq hql
    rw [Nat.add_zero] at hkc
    have hlt := World.block_lt_of_cell? w _ hkc
    have cs := fun x => rsum_any qa qn qc false x (by omega)
    have hgq : ∀ qv : Value, ((List.map (fun p : Value × List UInt8 => p.2) [(qv, ql)])[0]?.getD []) = ql := fun _ => rfl
    have hB0 := HB.out
    have hok0 := Hokk.out
    rw [hgq, hwr] at hok0
    rw [hgq] at hB0
    have Hqn := Lib.hid hqn
    by_cases h32 : qn = 32
    · have hso : sumOk qn false = true := by unfold sumOk; simp [h32]
      rw [hso] at cs
      have Cs := Lib.hid cs
      have hokt : ok = true := by rw [hok0, ← Hqn.out]; simp [h32, show 1 ≤ pn from hp0]
      subst hokt
      have HB0 := Lib.hid hB0
      clear hE hwr hk hKs cs hso h32 hok0 hgq hB0 hqn hp0
      go_enter Try.func86, Try.ntmps86
      go_wp2_with (first
        | (go_at_call 105; refine (Ct.out _ (hp.below hbel1)).mono ?_; rintro e w2 ⟨tv, rfl, ht2, b2⟩; have hs2 := hs1.kept b2; have kcell := (hs2.cell 0).trans (show _ = some (Value.int .i64 2) from rfl); have kpath := (hs2.cell 1).trans (show _ = some (Value.slice pa pn pc) from rfl); have kkids := (hs2.cell 3).trans (show _ = some (Value.slice (some ⟨kb, koff, none⟩) 1 kc) from rfl); have hz2 := hz1.kept b2; have hbel2 := Below.then hbel1 b2; have hkc2 := (hbel2.cell (p := ⟨kb, koff, none⟩) hlt).trans hkc; obtain ⟨ga, gc, rfl, _⟩ := ht2.form' tn Htn.out.symm)
        | (go_at_call 106; (with_reducible refine (Cs.out _).mono ?_); rintro e w3 ⟨rfl, rfl⟩))
      have c1 := fun x => text_any ga tn gc x
      have c2 := fun x => text_any qa qn qc x
      have C1 := Lib.hid c1
      have C2 := Lib.hid c2
      clear c1 c2
      have k3 := fun u : Ext w2 => u.cell kkids
      have k4 := fun u : Ext w2 => u.cell hkc2
      have hv2 := hkq.below hbel2
      clear kcell kpath kkids
      refine wp_region_typed w2 9 (by kernel_rfl) (by kernel_rfl) (Below.refl _ _) ?_; simp only [List.take_succ_cons, List.take_zero, List.take_nil]
      (refine wpX_step (by rfl) (fun K hK => ?_); go_simp; first | (refine hK _ ?_; clear hK K) | (apply Exists.intro; refine ⟨fun _ => ?_, hK _ ?_⟩; fail; clear hK K))
      (refine wpX_step (by rfl) (fun K hK => ?_); go_simp; first | (refine hK _ ?_; clear hK K) | (apply Exists.intro; refine ⟨fun _ => ?_, hK _ ?_⟩; exact C1.out _; clear hK K))
      iterate 4 (refine wpX_step (by rfl) (fun K hK => ?_); go_simp; first | (refine hK _ ?_; clear hK K) | (apply Exists.intro; refine ⟨fun _ => ?_, hK _ ?_⟩; fail; clear hK K))
      (refine wpX_step (by rfl) (fun K hK => ?_); go_simp; first | (refine hK _ ?_; clear hK K) | (apply Exists.intro; refine ⟨fun _ => ?_, hK _ ?_⟩; exact C2.out _; clear hK K))
      refine wpX_rel 75 (PairB w2.heap.size (.slice ga tn gc) (.slice qa qn qc) T ql) rfl (of_decide_eq_true rfl) (PairB.mono _ _ _ _ _) (fun w3 hw3 => ?_) ?_
      · simp only [relOf, List.filter_nil, forallRel]
        refine ⟨rfl, ?_⟩
        go_simp
        exact ⟨(Below.refl _ _).alloc (Nat.le_refl _) _, w3.heap.size, rfl, hw3.size, Row.built icells_len w3 37 [txt (.slice ga tn gc) T, txt (.slice qa qn qc) ql] 2 rfl (by unfold maxLen; omega)⟩
      refine wpX_rel 76 (ListTT w2.heap.size (.slice ga tn gc) (.slice qa qn qc) T ql) rfl (of_decide_eq_true rfl) (ListTT.mono _ _ _ _ _) (fun w3 hw3 => ?_) ?_
      · change forallRel w3 [(75, _)] _ _
        rintro v33 ⟨g, rfl, hg0, hr⟩
        simp only [forallRel]
        refine ⟨rfl, ?_⟩
        go_simp
        refine (list_any _ 2 2 w3).mono ?_
        rintro e w4 ⟨rfl, b4⟩
        exact ⟨_, rfl, ⟨g, rfl, hg0, RowOf.kept hr b4⟩, b4⟩
      refine wpX_nil ?_
      intro u2 hb2 v75 _ v76 h76
      change wpList _ _ _ [_, _] _ _
      obtain ⟨g, rfl, hg0, hr⟩ := h76
      have hz3 := hz2.kept hb2
      have hbel3 := Below.then hbel2 hb2
      have ht3 := ht2.below hb2
      clear k3 k4
      go_wp2_with ((with_reducible show wpList _ _ _ (⟨none, Op.store _ _ _, _, _, _, _⟩ :: _) _ _); refine wpList_storeA (o := ⟨none, _, _, _, _, _⟩) (by rfl) 37 (.tmp 2) (.tmp 76) (by rfl) (w.heap.size + 1) [.bool true, .slice none 0 0, .slice (some ⟨g, 0, none⟩) 2 2] (by rfl) (by rfl) aggItem hz3 (by rfl) (by rfl) (by intro u hu; simp at hu; rcases hu with rfl | rfl | rfl <;> rfl) (Below.refl _ _) (Nat.le_refl _) ?_; intro w5 hh5 _ hg5; have hbel5 := hbel3.grown hg5 hbel3.size (fun j hj => by cases hj; omega))
      have ht5 := Bytes.off ht3 hz3 (by intro u hu k; simp at hu; rcases hu with rfl | rfl | rfl <;> simp) hg5
      have hv5 := hkq.below hbel5
      have hr5 := RowOf.grownNe hr hg5 (by have := hz2.lt; omega)
      refine bodyPost_ret (results_blk_tmp rfl _ _ (w.heap.size + 1) aggItem hh5 rfl rfl rfl) rfl ⟨true, none, 0, 0, [], some ⟨g, 0, none⟩, 2, 2, [txt (.slice ga tn gc) T, txt (.slice qa qn qc) ql], rfl, fun _ => ⟨?_, ?_, ?_⟩, hbel5⟩
      · exact IsItm.lst hr5 (txts_is (ps := [(.slice ga tn gc, T), (.slice qa qn qc, ql)]) (by intro p hp; simp at hp; rcases hp with rfl | rfl; exact ht5; exact hv5))
      · rw [HB0.out]; exact encI_lst_txts _ [(.slice ga tn gc, T), (.slice qa qn qc, ql)]
      · refine Nat.le_trans (Nat.le_of_eq (bulk_lst _ (txts [(.slice ga tn gc, T), (.slice qa qn qc, ql)]))) ?_
        rw [bulkL_txts]
        have := HlT.out
        have := Hqn.out
        simp; omega
    · have hso : sumOk qn false = false := by unfold sumOk; simp [h32]
      rw [hso] at cs
      have Cs := Lib.hid cs
      have hok1 : ok = false := by rw [hok0, ← Hqn.out]; simp [h32]
      have Hok1 := Lib.hid hok1
      clear hE hwr hk hKs cs hso h32 hok0 hgq hB0 hqn hok1 hp0
      go_enter Try.func86, Try.ntmps86
      go_wp2_with (first
        | (go_at_call 105; refine (Ct.out _ (hp.below hbel1)).mono ?_; rintro e w2 ⟨tv, rfl, ht2, b2⟩; have hs2 := hs1.kept b2; have kcell := (hs2.cell 0).trans (show _ = some (Value.int .i64 2) from rfl); have kpath := (hs2.cell 1).trans (show _ = some (Value.slice pa pn pc) from rfl); have kkids := (hs2.cell 3).trans (show _ = some (Value.slice (some ⟨kb, koff, none⟩) 1 kc) from rfl); have hz2 := hz1.kept b2; have hbel2 := Below.then hbel1 b2; have hkc2 := (hbel2.cell (p := ⟨kb, koff, none⟩) hlt).trans hkc; obtain ⟨ga, gc, rfl, _⟩ := ht2.form' tn Htn.out.symm)
        | ((with_reducible show wpList _ _ _ (⟨none, Op.store _ _ _, _, _, _, _⟩ :: _) _ _); refine wpList_storeA (o := ⟨none, _, _, _, _, _⟩) (by rfl) 37 (.tmp 2) (.tmp 67) (by rfl) (w.heap.size + 1) [.bool false, .slice none 0 0, .slice none 0 0] (by rfl) (by rfl) aggItem hz2 (by rfl) (by rfl) (by intro u hu; simp at hu; rcases hu with rfl | rfl <;> rfl) (Below.refl _ _) (Nat.le_refl _) ?_; intro w5 hh5 _ hg5; have hbel5 := hbel2.grown hg5 hbel2.size (fun j hj => by cases hj; omega))
        | (go_at_call 106; (with_reducible refine (Cs.out _).mono ?_); rintro e w3 ⟨rfl, rfl⟩))
      have hokt : ok = false := by exact Hok1.out
      subst hokt
      exact bodyPost_ret (results_blk_tmp rfl _ _ (w.heap.size + 1) aggItem hh5 rfl rfl rfl) rfl ⟨false, none, 0, 0, [], none, 0, 0, [], rfl, fun h => by simp at h, hbel5⟩
set_option maxHeartbeats 1000000 in
set_option maxRecDepth 100000 in
theorem item_none (pa va ka : Option Addr) (pn pc vn vc kn kc : Nat) (p : List UInt8) (hpn : p.length = pn) (w : World) (hp : Bytes w (.slice pa pn pc) p) (hP : pn ≤ 1048576) :
    Calls Try.prog 86 #[.agg #[.int .i64 0, .slice pa pn pc, .slice va vn vc, .slice ka kn kc]] w (ItemPost true (textB []) w) := by
  have hs1 : Blk 70 ((w.alloc (.cells #[.int .i64 0, .slice pa pn pc, .slice va vn vc, .slice ka kn kc] 70)).alloc (.cells #[.bool false, .slice none 0 0, .slice none 0 0] 37)) w.heap.size [.int .i64 0, .slice pa pn pc, .slice va vn vc, .slice ka kn kc] := (Blk.new w 70 _).alloc _
  have hz1 : Blk 37 ((w.alloc (.cells #[.int .i64 0, .slice pa pn pc, .slice va vn vc, .slice ka kn kc] 70)).alloc (.cells #[.bool false, .slice none 0 0, .slice none 0 0] 37)) (w.heap.size + 1) [.bool false, .slice none 0 0, .slice none 0 0] := by
    have := Blk.new (w.alloc (.cells #[.int .i64 0, .slice pa pn pc, .slice va vn vc, .slice ka kn kc] 70)) 37 [.bool false, .slice none 0 0, .slice none 0 0]
    simpa using this
  have hbel1 : Below w.heap.size w ((w.alloc (.cells #[.int .i64 0, .slice pa pn pc, .slice va vn vc, .slice ka kn kc] 70)).alloc (.cells #[.bool false, .slice none 0 0, .slice none 0 0] 37)) := ((Below.refl _ _).alloc (Nat.le_refl _) _).alloc (by simp) _
  have ct := fun x h => tag_any pa pn pc p false hpn x h (by omega)
  obtain ⟨T, hT⟩ : ∃ T, T = joinR (tagL p false) := ⟨_, rfl⟩
  obtain ⟨E, hE⟩ : ∃ E, E = joinE (tagL p false) := ⟨_, rfl⟩
  simp only [← hT, ← hE] at ct
  have Ct := Lib.hid ct
  clear ct hT hE hpn
  go_enter Try.func86, Try.ntmps86
  go_wp2_with (first
    | (go_at_call 105; refine (Ct.out _ (hp.below hbel1)).mono ?_; rintro e w2 ⟨tv, rfl, ht2, b2⟩; have kcell := ((hs1.kept b2).cell 0).trans (show _ = some (Value.int .i64 0) from rfl); have hz2 := hz1.kept b2; have hbel2 := Below.then hbel1 b2; obtain ⟨ga, gc, rfl, _⟩ := ht2.form)
    | (go_at_call 80; (with_reducible refine (text_any _ _ _ _).mono ?_); rintro e w3 ⟨rfl, b3⟩; have hz3 := hz2.kept b3; have hbel3 := Below.then hbel2 b3)
    | ((with_reducible show wpList _ _ _ (⟨none, Op.store _ _ _, _, _, _, _⟩ :: _) _ _); refine wpList_storeA (o := ⟨none, _, _, _, _, _⟩) (by rfl) 37 (.tmp 2) (.tmp 19) (by rfl) (w.heap.size + 1) [.bool false, .slice none 0 0, .slice none 0 0] (by rfl) (by rfl) aggItem hz3 (by rfl) (by rfl) (by intro u hu; simp at hu; rcases hu with rfl | rfl <;> rfl) (Below.refl _ _) (Nat.le_refl _) ?_; intro w5 hh5 _ hg5; have hbel5 := hbel3.grown hg5 hbel3.size (fun j hj => by cases hj; omega)))
  exact bodyPost_ret (results_blk_tmp rfl _ _ (w.heap.size + 1) aggItem hh5 rfl rfl rfl) rfl ⟨false, none, 0, 0, [], none, 0, 0, [], rfl, fun _ => ⟨IsItm.txt (RowOf.nil b8 1 w5), encI_txt _ _, by rw [show bulkI (.mk false (.slice none 0 0) [] (.slice none 0 0) []) = bulkI (txt (.slice none 0 0) []) from rfl, bulk_txt]; simp⟩, hbel5⟩
end Go.Proofs.Ytfedjbodcebdnaa
