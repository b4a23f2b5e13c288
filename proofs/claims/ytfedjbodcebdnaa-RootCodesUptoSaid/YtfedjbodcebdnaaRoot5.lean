/- root.item, root.Code. -/
import Derived.Test.YtfedjbodcebdnaaRoot3
import Derived.Test.YtfedjbodcebdnaaRoot4
set_option linter.unusedSimpArgs false
set_option linter.unusedVariables false
namespace Go.Proofs.Ytfedjbodcebdnaa
open Go.RowKit
set_option maxHeartbeats 1000000 in
set_option maxRecDepth 100000 in
theorem item_fork (pa va ka : Option Addr) (pn pc vn vc kn kc : Nat) (p v : List UInt8) (ps : List (Value × List UInt8)) (hpn : p.length = pn) (hvn : v.length = vn) (hkn : ps.length = kn) (w : World) (hp : Bytes w (.slice pa pn pc) p) (hv : Bytes w (.slice va vn vc) v) (hk : Texts w (.slice ka kn kc) ps) (hP : pn ≤ 1048576) (hV : vn ≤ 1048576) (hKs : ∀ q ∈ ps, q.2.length ≤ 1048576) :
    Calls Try.prog 86 #[.agg #[.int .i64 3, .slice pa pn pc, .slice va vn vc, .slice ka kn kc]] w (ItemPost (decide (kn = 16) && decide (vn ≤ 1024) && ((ps.map (·.2)).all fun t => sumOk t.length true) && decide (2 ≤ manyB v (ps.map (·.2)))) (lsB (ps.map (·.2) ++ [v])) w) := by
  have hs1 : Blk 70 ((w.alloc (.cells #[.int .i64 3, .slice pa pn pc, .slice va vn vc, .slice ka kn kc] 70)).alloc (.cells #[.bool false, .slice none 0 0, .slice none 0 0] 37)) w.heap.size [.int .i64 3, .slice pa pn pc, .slice va vn vc, .slice ka kn kc] := (Blk.new w 70 _).alloc _
  have hz1 : Blk 37 ((w.alloc (.cells #[.int .i64 3, .slice pa pn pc, .slice va vn vc, .slice ka kn kc] 70)).alloc (.cells #[.bool false, .slice none 0 0, .slice none 0 0] 37)) (w.heap.size + 1) [.bool false, .slice none 0 0, .slice none 0 0] := by
    have := Blk.new (w.alloc (.cells #[.int .i64 3, .slice pa pn pc, .slice va vn vc, .slice ka kn kc] 70)) 37 [.bool false, .slice none 0 0, .slice none 0 0]
    simpa using this
  have hbel1 : Below w.heap.size w ((w.alloc (.cells #[.int .i64 3, .slice pa pn pc, .slice va vn vc, .slice ka kn kc] 70)).alloc (.cells #[.bool false, .slice none 0 0, .slice none 0 0] 37)) := ((Below.refl _ _).alloc (Nat.le_refl _) _).alloc (by simp) _
  have ct := fun x h => tag_any pa pn pc p false hpn x h (by omega)
  obtain ⟨T, hT⟩ : ∃ T, T = joinR (tagL p false) := ⟨_, rfl⟩
  obtain ⟨E, hE⟩ : ∃ E, E = joinE (tagL p false) := ⟨_, rfl⟩
  simp only [← hT, ← hE] at ct
  have cf := fun x hb => fork_any (.slice pa pn pc) ⟨pa, pn, pc, rfl⟩ va ka vn vc kn kc v ps hvn hkn x (hv.below hb) (hk.below hb) hV hKs
  obtain ⟨ok, hok⟩ : ∃ ok, ok = (decide (kn = 16) && decide (vn ≤ 1024) && ((ps.map (·.2)).all fun t => sumOk t.length true) && decide (2 ≤ manyB v (ps.map (·.2)))) := ⟨_, rfl⟩
  obtain ⟨B, hB⟩ : ∃ B, B = lsB (ps.map (·.2) ++ [v]) := ⟨_, rfl⟩
  simp only [← hok, ← hB] at cf
  rw [← hok, ← hB]
  have Ct := Lib.hid ct
  have Cf := Lib.hid cf
  clear ct cf hT hE hpn hvn hkn hok hB hKs
  go_enter Try.func86, Try.ntmps86
  go_wp2_with (first
    | (go_at_call 105; refine (Ct.out _ (hp.below hbel1)).mono ?_; rintro e w2 ⟨tv, rfl, ht2, b2⟩; have hs2 := hs1.kept b2; have kcell := (hs2.cell 0).trans (show _ = some (Value.int .i64 3) from rfl); have hz2 := hz1.kept b2; have hbel2 := Below.then hbel1 b2; obtain ⟨ga, gc, rfl, _⟩ := ht2.form)
    | (refine wpList_loadA (o := ⟨some 79, _, _, _, _, _⟩) (by rfl) 70 (.tmp 1) (by rfl) w.heap.size (by rfl) aggShape hs2 (by rfl) ?_)
    | (go_at_call 107; refine (Cf.out _ hbel2).mono ?_; rintro e w3 ⟨il, ta, tn, tc, t, ka', kn', kc', ks, rfl, hI, b3⟩; have hz3 := hz2.kept b3; have hbel3 := Below.then hbel2 b3)
    | ((with_reducible show wpList _ _ _ (⟨none, Op.store _ _ _, _, _, _, _⟩ :: _) _ _); refine wpList_storeA (o := ⟨none, _, _, _, _, _⟩) (by rfl) 37 (.tmp 2) (.tmp 81) (by rfl) (w.heap.size + 1) [.bool il, .slice ta tn tc, .slice ka' kn' kc'] (by rfl) (by rfl) aggItem hz3 (by rfl) (by rfl) (by intro u hu; simp at hu; rcases hu with rfl | rfl | rfl <;> rfl) (Below.refl _ _) (Nat.le_refl _) ?_; intro w5 hh5 _ hg5; have hbel5 := hbel3.grown hg5 hbel3.size (fun j hj => by cases hj; omega)))
  have hg0 : w.heap.size + 1 < w2.heap.size := hz2.lt
  refine bodyPost_ret (results_blk_tmp rfl _ _ (w.heap.size + 1) aggItem hh5 rfl rfl rfl) rfl ⟨il, ta, tn, tc, t, ka', kn', kc', ks, rfl, fun hok => ⟨?_, (hI hok).2.1, (hI hok).2.2⟩, hbel5⟩
  exact (hI hok).1 (w.heap.size + 1) w5 [.bool false, .slice none 0 0, .slice none 0 0] hz3 (by intro u hu k; simp at hu; rcases hu with rfl | rfl | rfl <;> simp) hg0 hg5
set_option maxHeartbeats 1000000 in
set_option maxRecDepth 100000 in
theorem item_else (kd : Int) (h0 : kd ≠ 0) (h1 : kd ≠ 1) (h2 : kd ≠ 2) (h3 : kd ≠ 3) (pa va ka : Option Addr) (pn pc vn vc kn kc : Nat) (p : List UInt8) (hpn : p.length = pn) (w : World) (hp : Bytes w (.slice pa pn pc) p) (hP : pn ≤ 1048576) :
    Calls Try.prog 86 #[.agg #[.int .i64 kd, .slice pa pn pc, .slice va vn vc, .slice ka kn kc]] w (ItemPost false [] w) := by
  have hs1 : Blk 70 ((w.alloc (.cells #[.int .i64 kd, .slice pa pn pc, .slice va vn vc, .slice ka kn kc] 70)).alloc (.cells #[.bool false, .slice none 0 0, .slice none 0 0] 37)) w.heap.size [.int .i64 kd, .slice pa pn pc, .slice va vn vc, .slice ka kn kc] := (Blk.new w 70 _).alloc _
  have hz1 : Blk 37 ((w.alloc (.cells #[.int .i64 kd, .slice pa pn pc, .slice va vn vc, .slice ka kn kc] 70)).alloc (.cells #[.bool false, .slice none 0 0, .slice none 0 0] 37)) (w.heap.size + 1) [.bool false, .slice none 0 0, .slice none 0 0] := by
    have := Blk.new (w.alloc (.cells #[.int .i64 kd, .slice pa pn pc, .slice va vn vc, .slice ka kn kc] 70)) 37 [.bool false, .slice none 0 0, .slice none 0 0]
    simpa using this
  have hbel1 : Below w.heap.size w ((w.alloc (.cells #[.int .i64 kd, .slice pa pn pc, .slice va vn vc, .slice ka kn kc] 70)).alloc (.cells #[.bool false, .slice none 0 0, .slice none 0 0] 37)) := ((Below.refl _ _).alloc (Nat.le_refl _) _).alloc (by simp) _
  have ct := fun x h => tag_any pa pn pc p false hpn x h (by omega)
  obtain ⟨T, hT⟩ : ∃ T, T = joinR (tagL p false) := ⟨_, rfl⟩
  obtain ⟨E, hE⟩ : ∃ E, E = joinE (tagL p false) := ⟨_, rfl⟩
  simp only [← hT, ← hE] at ct
  have Ct := Lib.hid ct
  have e0 : (kd == 0) = false := by rw [beq_eq_false_iff_ne]; exact h0
  have e1 : (kd == 1) = false := by rw [beq_eq_false_iff_ne]; exact h1
  have e2 : (kd == 2) = false := by rw [beq_eq_false_iff_ne]; exact h2
  have e3 : (kd == 3) = false := by rw [beq_eq_false_iff_ne]; exact h3
  clear ct hT hE hpn h0 h1 h2 h3
  go_enter Try.func86, Try.ntmps86
  go_wp2_with (first
    | (go_at_call 105; refine (Ct.out _ (hp.below hbel1)).mono ?_; rintro e w2 ⟨tv, rfl, ht2, b2⟩; have kcell := ((hs1.kept b2).cell 0).trans (show _ = some (Value.int .i64 kd) from rfl); have hz2 := hz1.kept b2; have hbel2 := Below.then hbel1 b2; obtain ⟨ga, gc, rfl, _⟩ := ht2.form)
    | ((with_reducible show wpList _ _ _ (⟨none, Op.store _ _ _, _, _, _, _⟩ :: _) _ _); refine wpList_storeA (o := ⟨none, _, _, _, _, _⟩) (by rfl) 37 (.tmp 2) (.tmp 83) (by rfl) (w.heap.size + 1) [.bool false, .slice none 0 0, .slice none 0 0] (by rfl) (by rfl) aggItem hz2 (by rfl) (by rfl) (by intro u hu; simp at hu; rcases hu with rfl | rfl <;> rfl) (Below.refl _ _) (Nat.le_refl _) ?_; intro w5 hh5 _ hg5; have hbel5 := hbel2.grown hg5 hbel2.size (fun j hj => by cases hj; omega)))
  exact bodyPost_ret (results_blk_tmp rfl _ _ (w.heap.size + 1) aggItem hh5 rfl rfl rfl) rfl ⟨false, none, 0, 0, [], none, 0, 0, [], rfl, fun h => by simp at h, hbel5⟩
/-- root.item of any shape -/
theorem item_any (kd : Int) (pa va ka : Option Addr) (pn pc vn vc kn kc : Nat) (p v : List UInt8) (ps : List (Value × List UInt8)) (hpn : p.length = pn) (hvn : v.length = vn) (hkn : ps.length = kn) (w : World) (hp : Bytes w (.slice pa pn pc) p) (hv : Bytes w (.slice va vn vc) v) (hk : Texts w (.slice ka kn kc) ps) (hP : pn ≤ 1048576) (hV : vn ≤ 1048576) (hK : kn ≤ 1048576) (hKs : ∀ q ∈ ps, q.2.length ≤ 1048576) :
    Calls Try.prog 86 #[.agg #[.int .i64 kd, .slice pa pn pc, .slice va vn vc, .slice ka kn kc]] w (ItemPost (shOk kd p v (ps.map (·.2))) (shB kd p v (ps.map (·.2))) w) := by
  unfold shOk shB
  rw [List.length_map, hpn, hvn, hkn]
  by_cases h0 : kd = 0
  · subst h0; rw [if_pos rfl, if_pos rfl]
    exact item_none pa va ka pn pc vn vc kn kc p hpn w hp hP
  rw [if_neg h0, if_neg h0]
  by_cases h1 : kd = 1
  · subst h1; rw [if_pos rfl, if_pos rfl]
    exact item_leaf pa va ka pn pc vn vc kn kc p v hpn hvn w hp hv hP hV
  rw [if_neg h1, if_neg h1]
  by_cases h2 : kd = 2
  · subst h2; rw [if_pos rfl, if_pos rfl]
    exact item_road pa va ka pn pc vn vc kn kc p ps hpn hkn w hp hk hP hK hKs
  rw [if_neg h2, if_neg h2]
  by_cases h3 : kd = 3
  · subst h3; rw [if_pos rfl]
    exact item_fork pa va ka pn pc vn vc kn kc p v ps hpn hvn hkn w hp hv hk hP hV hKs
  rw [if_neg h3]
  refine (item_else kd h0 h1 h2 h3 pa va ka pn pc vn vc kn kc p hpn w hp hP).mono ?_
  rintro e w' ⟨l, ta, tn, tc, t, ka', kn', kc', ks, rfl, _, hb⟩
  exact ⟨l, ta, tn, tc, t, ka', kn', kc', ks, rfl, fun h => by simp at h, hb⟩
end Go.Proofs.Ytfedjbodcebdnaa
