/- root.item of a leaf. -/
import Derived.Test.YtfedjbodcebdnaaRoot1
import Derived.Test.YtfedjbodcebdnaaHeld
set_option linter.unusedSimpArgs false
set_option linter.unusedVariables false
namespace Go.Proofs.Ytfedjbodcebdnaa
open Go.RowKit
theorem aggShape : Agg Try.prog 70 4 := ⟨_, Try.underlying70, rfl, by kernel_rfl⟩
theorem joinE_two (l : List UInt8) : (joinOk l = true ∧ joinE l = 0) ∨ (joinOk l = false ∧ joinE l = 1) := by
  unfold joinE
  cases h : joinOk l with
  | true => left; simp
  | false => right; simp
theorem joinR_len (p : List UInt8) (leaf : Bool) : (joinR (tagL p leaf)).length ≤ p.length + 2 := by
  unfold joinR
  split
  · have h1 := joinL_le (tagL p leaf)
    have h2 := tagL_len p leaf
    omega
  · simp
set_option maxHeartbeats 4000000 in
set_option maxRecDepth 100000 in
theorem item_leaf (pa va ka : Option Addr) (pn pc vn vc kn kc : Nat) (p v : List UInt8) (hpn : p.length = pn) (hvn : v.length = vn) (w : World) (hp : Bytes w (.slice pa pn pc) p) (hv : Bytes w (.slice va vn vc) v) (hP : pn ≤ 1048576) (hV : vn ≤ 1048576) :
    Calls Try.prog 86 #[.agg #[.int .i64 1, .slice pa pn pc, .slice va vn vc, .slice ka kn kc]] w (ItemPost (!wrongB p && decide (1 ≤ vn) && decide (vn ≤ 1024)) (lsB [joinR (tagL p true), v]) w) := by
  have hs1 : Blk 70 ((w.alloc (.cells #[.int .i64 1, .slice pa pn pc, .slice va vn vc, .slice ka kn kc] 70)).alloc (.cells #[.bool false, .slice none 0 0, .slice none 0 0] 37)) w.heap.size [.int .i64 1, .slice pa pn pc, .slice va vn vc, .slice ka kn kc] := (Blk.new w 70 _).alloc _
  have hz1 : Blk 37 ((w.alloc (.cells #[.int .i64 1, .slice pa pn pc, .slice va vn vc, .slice ka kn kc] 70)).alloc (.cells #[.bool false, .slice none 0 0, .slice none 0 0] 37)) (w.heap.size + 1) [.bool false, .slice none 0 0, .slice none 0 0] := by
    have := Blk.new (w.alloc (.cells #[.int .i64 1, .slice pa pn pc, .slice va vn vc, .slice ka kn kc] 70)) 37 [.bool false, .slice none 0 0, .slice none 0 0]
    simpa using this
  have hbel1 : Below w.heap.size w ((w.alloc (.cells #[.int .i64 1, .slice pa pn pc, .slice va vn vc, .slice ka kn kc] 70)).alloc (.cells #[.bool false, .slice none 0 0, .slice none 0 0] 37)) := ((Below.refl _ _).alloc (Nat.le_refl _) _).alloc (by simp) _
  have ct := fun x h => tag_any pa pn pc p true hpn x h (by omega)
  have hTl := joinR_len p true
  rcases joinE_two (tagL p true) with ⟨hok, hE⟩ | ⟨hok, hE⟩
  · rw [tagL_ok] at hok
    rw [hE] at ct
    have h3 : vn = 0 ∨ (0 < vn ∧ ¬ vn ≤ 1024) ∨ (0 < vn ∧ vn ≤ 1024) := by omega
    obtain ⟨T, hT⟩ : ∃ T, T = joinR (tagL p true) := ⟨_, rfl⟩
    rw [← hT] at hTl ⊢
    simp only [← hT] at ct
    obtain ⟨ok, hokk⟩ : ∃ ok, ok = (!wrongB p && decide (1 ≤ vn) && decide (vn ≤ 1024)) := ⟨_, rfl⟩
    rw [← hokk]
    have hlT : T.length ≤ 1048580 := by omega
    obtain ⟨tn, htn⟩ : ∃ tn, tn = T.length := ⟨_, rfl⟩
    have Htn := Lib.hid htn
    have Ct := Lib.hid ct
    have Hokk := Lib.hid hokk
    have Hok := Lib.hid hok
    have HlT := Lib.hid hlT
    have Hvn := Lib.hid hvn
    clear ct hT htn hTl hok hE hokk hlT hvn
    rcases h3 with hv0 | ⟨hv0, hv1⟩ | ⟨hv0, hv1⟩
    · have hi0 : decide ((0 : Int) < (vn : Int)) = false := by rw [decide_eq_false_iff_not]; omega
      have hi2 : ¬ 0 < vn := by omega
      have Hv0 := Lib.hid hv0
      clear hv0
      go_enter Try.func86, Try.ntmps86
      go_wp2_with (go_at_call 105; refine (Ct.out _ (hp.below hbel1)).mono ?_; rintro e w2 ⟨tv, rfl, ht2, b2⟩; have hs2 := hs1.kept b2; have kcell := (hs2.cell 0).trans (show _ = some (Value.int .i64 1) from rfl); have hz2 := hz1.kept b2; have hbel2 := Below.then hbel1 b2; obtain ⟨ga, gc, rfl, _⟩ := ht2.form' tn Htn.out.symm)
      have hv2 := hv.below hbel2
      have c1 := fun x => text_any ga tn gc x
      have c2 := fun x => text_any va vn vc x
      have C1 := Lib.hid c1
      have C2 := Lib.hid c2
      have hk2 : CellAt ⟨w.heap.size, 2, none⟩ (.slice va vn vc) w2 := (hs2.cell 2).trans rfl
      have k2 : ∀ u : In (CellAt ⟨w.heap.size, 2, none⟩ (.slice va vn vc)), u.val.cell? ⟨w.heap.size, 2, none⟩ = some (.slice va vn vc) := fun u => u.held
      clear c1 c2 hs1 hz1 hbel1 b2 kcell
      refine wp_region_h (CellAt ⟨w.heap.size, 2, none⟩ (.slice va vn vc)) (by kernel_rfl) ?_; intro u0 hu0; simp only [List.length_cons, List.length_nil, Nat.reduceAdd, List.replicate_succ, List.replicate_zero]
      have hb0 : Below w2.heap.size w2 u0 := by rw [hu0]; exact (Below.refl _ _).drew
      have hS0 := hk2.below hb0
      clear hu0 hk2
      (refine wpH_take 0 (by rfl) (by kernel_rfl) (by intro _ _ _ h; first | exact h | (cases h.1)) (by intro _ _ _ _ h; first | exact h | (cases h.1)) (by assumption) (fun K hK => ?_); simp only [List.setIfInBounds_toArray, List.set_cons_zero, List.set_cons_succ] at hK; go_simp; first | (refine hK _ ?_; clear hK K) | (apply Exists.intro; refine ⟨fun _ => rfl, hK _ ?_⟩; clear hK K)); (refine wpH_take 2 (by rfl) (by kernel_rfl) (by intro _ _ _ h; first | exact h | (cases h.1)) (by intro _ _ _ _ h; first | exact h | (cases h.1)) (by assumption) (fun K hK => ?_); simp only [List.setIfInBounds_toArray, List.set_cons_zero, List.set_cons_succ] at hK; go_simp; first | (refine hK _ ?_; clear hK K) | (apply Exists.intro; refine ⟨fun _ => rfl, hK _ ?_⟩; clear hK K)); (refine wpH_take 3 (by rfl) (by kernel_rfl) (by intro _ _ _ h; first | exact h | (cases h.1)) (by intro _ _ _ _ h; first | exact h | (cases h.1)) (by assumption) (fun K hK => ?_); simp only [List.setIfInBounds_toArray, List.set_cons_zero, List.set_cons_succ] at hK; go_simp; first | (refine hK _ ?_; clear hK K) | (apply Exists.intro; refine ⟨fun _ => rfl, hK _ ?_⟩; clear hK K)); (refine wpH_take 7 (by rfl) (by kernel_rfl) (by intro _ _ _ h; first | exact h | (cases h.1)) (by intro _ _ _ _ h; first | exact h | (cases h.1)) (by assumption) (fun K hK => ?_); simp only [List.setIfInBounds_toArray, List.set_cons_zero, List.set_cons_succ] at hK; go_simp; first | (refine hK _ ?_; clear hK K) | (apply Exists.intro; refine ⟨fun _ => rfl, hK _ ?_⟩; clear hK K)); (refine wpH_take 8 (by rfl) (by kernel_rfl) (by intro _ _ _ h; first | exact h | (cases h.1)) (by intro _ _ _ _ h; first | exact h | (cases h.1)) (by assumption) (fun K hK => ?_); simp only [List.setIfInBounds_toArray, List.set_cons_zero, List.set_cons_succ] at hK; go_simp; first | (refine hK _ ?_; clear hK K) | (apply Exists.intro; refine ⟨fun _ => rfl, hK _ ?_⟩; clear hK K))
      (refine wpH_only 1 (by rfl) (by kernel_rfl) (fun K hK => ?_); simp only [List.setIfInBounds_toArray, List.set_cons_zero, List.set_cons_succ] at hK; go_simp)
      (with_reducible refine (C1.out _).mono ?_)
      rintro e u1 ⟨rfl, b1⟩
      have hS1 := hS0.below b1
      refine hK _ _ hS1 ?_; clear hK K
      (refine wpH_only 4 (by rfl) (by kernel_rfl) (fun K hK => ?_); simp only [List.setIfInBounds_toArray, List.set_cons_zero, List.set_cons_succ] at hK; go_simp)
      (with_reducible refine (C2.out _).mono ?_)
      rintro e u2 ⟨rfl, b2⟩
      have hS2 := hS1.below b2
      refine hK _ _ hS2 ?_; clear hK K
      have b02 := Below.then (Below.then hb0 b1) b2
      have ht3 := ht2.below b02
      have hv3 := hv2.below b02
      have hr3 := Row.built icells_len u2 37 [txt (.slice ga tn gc) T, txt (.slice va vn vc) v] 2 rfl (by unfold maxLen; omega)
      (refine wpH_only 5 (by rfl) (by kernel_rfl) (fun K hK => ?_); simp only [List.setIfInBounds_toArray, List.set_cons_zero, List.set_cons_succ] at hK; go_simp)
      have b3 : Below u2.heap.size u2 (u2.alloc (.cells #[.bool false, .slice ga tn gc, .slice none 0 0, .bool false, .slice va vn vc, .slice none 0 0] 37)) := (Below.refl _ _).alloc (Nat.le_refl _) _
      have hS3 := hS2.below b3
      refine hK _ _ hS3 ?_; clear hK K
      (refine wpH_only 6 (by rfl) (by kernel_rfl) (fun K hK => ?_); simp only [List.setIfInBounds_toArray, List.set_cons_zero, List.set_cons_succ] at hK; go_simp)
      (with_reducible refine (list_any _ _ _ _).mono ?_)
      rintro e u4 ⟨rfl, b4⟩
      have b34 := Below.then b3 b4
      have hS4 := hS3.below b4
      refine hK _ _ hS4 ?_; clear hK K
      have b04 := Below.then b02 b34
      have ht4 := ht3.below b34
      have hv4 := hv3.below b34
      have hr4 := hr3.kept b4
      have hz4 := hz2.kept b04
      have hbel4 := Below.then hbel2 b04
      (refine wpH_take 9 (by rfl) (by kernel_rfl) (by intro _ _ _ h; first | exact h | (cases h.1)) (by intro _ _ _ _ h; first | exact h | (cases h.1)) (by assumption) (fun K hK => ?_); simp only [List.setIfInBounds_toArray, List.set_cons_zero, List.set_cons_succ] at hK; go_simp; first | (refine hK _ ?_; clear hK K) | (apply Exists.intro; refine ⟨fun _ => rfl, hK _ ?_⟩; clear hK K)); (refine wpH_take 10 (by rfl) (by kernel_rfl) (by intro _ _ _ h; first | exact h | (cases h.1)) (by intro _ _ _ _ h; first | exact h | (cases h.1)) (by assumption) (fun K hK => ?_); simp only [List.setIfInBounds_toArray, List.set_cons_zero, List.set_cons_succ] at hK; go_simp; first | (refine hK _ ?_; clear hK K) | (apply Exists.intro; refine ⟨fun _ => rfl, hK _ ?_⟩; clear hK K)); (refine wpH_take 11 (by rfl) (by kernel_rfl) (by intro _ _ _ h; first | exact h | (cases h.1)) (by intro _ _ _ _ h; first | exact h | (cases h.1)) (by assumption) (fun K hK => ?_); simp only [List.setIfInBounds_toArray, List.set_cons_zero, List.set_cons_succ] at hK; go_simp; first | (refine hK _ ?_; clear hK K) | (apply Exists.intro; refine ⟨fun _ => rfl, hK _ ?_⟩; clear hK K)); (refine wpH_take 12 (by rfl) (by kernel_rfl) (by intro _ _ _ h; first | exact h | (cases h.1)) (by intro _ _ _ _ h; first | exact h | (cases h.1)) (by assumption) (fun K hK => ?_); simp only [List.setIfInBounds_toArray, List.set_cons_zero, List.set_cons_succ] at hK; go_simp; first | (refine hK _ ?_; clear hK K) | (apply Exists.intro; refine ⟨fun _ => rfl, hK _ ?_⟩; clear hK K)); (refine wpH_take 13 (by rfl) (by kernel_rfl) (by intro _ _ _ h; first | exact h | (cases h.1)) (by intro _ _ _ _ h; first | exact h | (cases h.1)) (by assumption) (fun K hK => ?_); simp only [List.setIfInBounds_toArray, List.set_cons_zero, List.set_cons_succ] at hK; go_simp; first | (refine hK _ ?_; clear hK K) | (apply Exists.intro; refine ⟨fun _ => rfl, hK _ ?_⟩; clear hK K)); (refine wpH_take 14 (by rfl) (by kernel_rfl) (by intro _ _ _ h; first | exact h | (cases h.1)) (by intro _ _ _ _ h; first | exact h | (cases h.1)) (by assumption) (fun K hK => ?_); simp only [List.setIfInBounds_toArray, List.set_cons_zero, List.set_cons_succ] at hK; go_simp; first | (refine hK _ ?_; clear hK K) | (apply Exists.intro; refine ⟨fun _ => rfl, hK _ ?_⟩; clear hK K)); (refine wpH_take 15 (by rfl) (by kernel_rfl) (by intro _ _ _ h; first | exact h | (cases h.1)) (by intro _ _ _ _ h; first | exact h | (cases h.1)) (by assumption) (fun K hK => ?_); simp only [List.setIfInBounds_toArray, List.set_cons_zero, List.set_cons_succ] at hK; go_simp; first | (refine hK _ ?_; clear hK K) | (apply Exists.intro; refine ⟨fun _ => rfl, hK _ ?_⟩; clear hK K)); (refine wpH_take 16 (by rfl) (by kernel_rfl) (by intro _ _ _ h; first | exact h | (cases h.1)) (by intro _ _ _ _ h; first | exact h | (cases h.1)) (by assumption) (fun K hK => ?_); simp only [List.setIfInBounds_toArray, List.set_cons_zero, List.set_cons_succ] at hK; go_simp; first | (refine hK _ ?_; clear hK K) | (apply Exists.intro; refine ⟨fun _ => rfl, hK _ ?_⟩; clear hK K)); (refine wpH_take 17 (by rfl) (by kernel_rfl) (by intro _ _ _ h; first | exact h | (cases h.1)) (by intro _ _ _ _ h; first | exact h | (cases h.1)) (by assumption) (fun K hK => ?_); simp only [List.setIfInBounds_toArray, List.set_cons_zero, List.set_cons_succ] at hK; go_simp; first | (refine hK _ ?_; clear hK K) | (apply Exists.intro; refine ⟨fun _ => rfl, hK _ ?_⟩; clear hK K)); (refine wpH_take 18 (by rfl) (by kernel_rfl) (by intro _ _ _ h; first | exact h | (cases h.1)) (by intro _ _ _ _ h; first | exact h | (cases h.1)) (by assumption) (fun K hK => ?_); simp only [List.setIfInBounds_toArray, List.set_cons_zero, List.set_cons_succ] at hK; go_simp; first | (refine hK _ ?_; clear hK K) | (apply Exists.intro; refine ⟨fun _ => rfl, hK _ ?_⟩; clear hK K)); (refine wpH_take 19 (by rfl) (by kernel_rfl) (by intro _ _ _ h; first | exact h | (cases h.1)) (by intro _ _ _ _ h; first | exact h | (cases h.1)) (by assumption) (fun K hK => ?_); simp only [List.setIfInBounds_toArray, List.set_cons_zero, List.set_cons_succ] at hK; go_simp; first | (refine hK _ ?_; clear hK K) | (apply Exists.intro; refine ⟨fun _ => rfl, hK _ ?_⟩; clear hK K)); (refine wpH_take 20 (by rfl) (by kernel_rfl) (by intro _ _ _ h; first | exact h | (cases h.1)) (by intro _ _ _ _ h; first | exact h | (cases h.1)) (by assumption) (fun K hK => ?_); simp only [List.setIfInBounds_toArray, List.set_cons_zero, List.set_cons_succ] at hK; go_simp; first | (refine hK _ ?_; clear hK K) | (apply Exists.intro; refine ⟨fun _ => rfl, hK _ ?_⟩; clear hK K))
      refine wpH_only 21 (by rfl) (by kernel_rfl) (fun K hK => ?_)
      refine step_storeA (by rfl) 37 (.tmp 2) (.tmp 28) (by rfl) (w.heap.size + 1) [.bool true, .slice none 0 0, .slice (some ⟨u2.heap.size, 0, none⟩) 2 2] (by rfl) (by rfl) aggItem hz4 (by rfl) (by rfl) (by intro u hu; simp at hu; rcases hu with rfl | rfl | rfl <;> rfl) (fun u5 o5 c5 r5 => ?_)
      have hS5 := hS4.grown r5 (by simp)
      refine hK _ _ hS5 ?_; clear hK K
      have hbel5 := hbel4.grown r5 hbel4.size (fun j hj => by cases hj; omega)
      (refine wpH_take 22 (by rfl) (by kernel_rfl) (by intro _ _ _ h; first | exact h | (cases h.1)) (by intro _ _ _ _ h; first | exact h | (cases h.1)) (by assumption) (fun K hK => ?_); simp only [List.setIfInBounds_toArray, List.set_cons_zero, List.set_cons_succ] at hK; go_simp; first | (refine hK _ ?_; clear hK K) | (apply Exists.intro; refine ⟨fun _ => rfl, hK _ ?_⟩; clear hK K))
      refine wpH_done (by kernel_rfl) ?_
      clear k2
      go_wp2
      have hokt : ok = false := by rw [Hokk.out, Hv0.out]; simp
      subst hokt
      exact bodyPost_ret (results_blk_tmp rfl _ _ (w.heap.size + 1) aggItem o5 rfl rfl rfl) rfl ⟨true, none, 0, 0, [], some ⟨u2.heap.size, 0, none⟩, 2, 2, [], rfl, fun h => by simp at h, hbel5⟩
    · have hi0 : (0 : Int) < (vn : Int) := by omega
      have hi1 : decide ((vn : Int) ≤ 1024) = false := by rw [decide_eq_false_iff_not]; omega
      go_enter Try.func86, Try.ntmps86
      go_wp2_with (go_at_call 105; refine (Ct.out _ (hp.below hbel1)).mono ?_; rintro e w2 ⟨tv, rfl, ht2, b2⟩; have hs2 := hs1.kept b2; have kcell := (hs2.cell 0).trans (show _ = some (Value.int .i64 1) from rfl); have hz2 := hz1.kept b2; have hbel2 := Below.then hbel1 b2; obtain ⟨ga, gc, rfl, _⟩ := ht2.form' tn Htn.out.symm)
      have hv2 := hv.below hbel2
      have c1 := fun x => text_any ga tn gc x
      have c2 := fun x => text_any va vn vc x
      have C1 := Lib.hid c1
      have C2 := Lib.hid c2
      have hk2 : CellAt ⟨w.heap.size, 2, none⟩ (.slice va vn vc) w2 := (hs2.cell 2).trans rfl
      have k2 : ∀ u : In (CellAt ⟨w.heap.size, 2, none⟩ (.slice va vn vc)), u.val.cell? ⟨w.heap.size, 2, none⟩ = some (.slice va vn vc) := fun u => u.held
      clear c1 c2 hs1 hz1 hbel1 b2 kcell
      refine wp_region_h (CellAt ⟨w.heap.size, 2, none⟩ (.slice va vn vc)) (by kernel_rfl) ?_; intro u0 hu0; simp only [List.length_cons, List.length_nil, Nat.reduceAdd, List.replicate_succ, List.replicate_zero]
      have hb0 : Below w2.heap.size w2 u0 := by rw [hu0]; exact (Below.refl _ _).drew
      have hS0 := hk2.below hb0
      clear hu0 hk2
      (refine wpH_take 0 (by rfl) (by kernel_rfl) (by intro _ _ _ h; first | exact h | (cases h.1)) (by intro _ _ _ _ h; first | exact h | (cases h.1)) (by assumption) (fun K hK => ?_); simp only [List.setIfInBounds_toArray, List.set_cons_zero, List.set_cons_succ] at hK; go_simp; first | (refine hK _ ?_; clear hK K) | (apply Exists.intro; refine ⟨fun _ => rfl, hK _ ?_⟩; clear hK K)); (refine wpH_take 2 (by rfl) (by kernel_rfl) (by intro _ _ _ h; first | exact h | (cases h.1)) (by intro _ _ _ _ h; first | exact h | (cases h.1)) (by assumption) (fun K hK => ?_); simp only [List.setIfInBounds_toArray, List.set_cons_zero, List.set_cons_succ] at hK; go_simp; first | (refine hK _ ?_; clear hK K) | (apply Exists.intro; refine ⟨fun _ => rfl, hK _ ?_⟩; clear hK K)); (refine wpH_take 3 (by rfl) (by kernel_rfl) (by intro _ _ _ h; first | exact h | (cases h.1)) (by intro _ _ _ _ h; first | exact h | (cases h.1)) (by assumption) (fun K hK => ?_); simp only [List.setIfInBounds_toArray, List.set_cons_zero, List.set_cons_succ] at hK; go_simp; first | (refine hK _ ?_; clear hK K) | (apply Exists.intro; refine ⟨fun _ => rfl, hK _ ?_⟩; clear hK K)); (refine wpH_take 7 (by rfl) (by kernel_rfl) (by intro _ _ _ h; first | exact h | (cases h.1)) (by intro _ _ _ _ h; first | exact h | (cases h.1)) (by assumption) (fun K hK => ?_); simp only [List.setIfInBounds_toArray, List.set_cons_zero, List.set_cons_succ] at hK; go_simp; first | (refine hK _ ?_; clear hK K) | (apply Exists.intro; refine ⟨fun _ => rfl, hK _ ?_⟩; clear hK K)); (refine wpH_take 8 (by rfl) (by kernel_rfl) (by intro _ _ _ h; first | exact h | (cases h.1)) (by intro _ _ _ _ h; first | exact h | (cases h.1)) (by assumption) (fun K hK => ?_); simp only [List.setIfInBounds_toArray, List.set_cons_zero, List.set_cons_succ] at hK; go_simp; first | (refine hK _ ?_; clear hK K) | (apply Exists.intro; refine ⟨fun _ => rfl, hK _ ?_⟩; clear hK K))
      (refine wpH_only 1 (by rfl) (by kernel_rfl) (fun K hK => ?_); simp only [List.setIfInBounds_toArray, List.set_cons_zero, List.set_cons_succ] at hK; go_simp)
      (with_reducible refine (C1.out _).mono ?_)
      rintro e u1 ⟨rfl, b1⟩
      have hS1 := hS0.below b1
      refine hK _ _ hS1 ?_; clear hK K
      (refine wpH_only 4 (by rfl) (by kernel_rfl) (fun K hK => ?_); simp only [List.setIfInBounds_toArray, List.set_cons_zero, List.set_cons_succ] at hK; go_simp)
      (with_reducible refine (C2.out _).mono ?_)
      rintro e u2 ⟨rfl, b2⟩
      have hS2 := hS1.below b2
      refine hK _ _ hS2 ?_; clear hK K
      have b02 := Below.then (Below.then hb0 b1) b2
      have ht3 := ht2.below b02
      have hv3 := hv2.below b02
      have hr3 := Row.built icells_len u2 37 [txt (.slice ga tn gc) T, txt (.slice va vn vc) v] 2 rfl (by unfold maxLen; omega)
      (refine wpH_only 5 (by rfl) (by kernel_rfl) (fun K hK => ?_); simp only [List.setIfInBounds_toArray, List.set_cons_zero, List.set_cons_succ] at hK; go_simp)
      have b3 : Below u2.heap.size u2 (u2.alloc (.cells #[.bool false, .slice ga tn gc, .slice none 0 0, .bool false, .slice va vn vc, .slice none 0 0] 37)) := (Below.refl _ _).alloc (Nat.le_refl _) _
      have hS3 := hS2.below b3
      refine hK _ _ hS3 ?_; clear hK K
      (refine wpH_only 6 (by rfl) (by kernel_rfl) (fun K hK => ?_); simp only [List.setIfInBounds_toArray, List.set_cons_zero, List.set_cons_succ] at hK; go_simp)
      (with_reducible refine (list_any _ _ _ _).mono ?_)
      rintro e u4 ⟨rfl, b4⟩
      have b34 := Below.then b3 b4
      have hS4 := hS3.below b4
      refine hK _ _ hS4 ?_; clear hK K
      have b04 := Below.then b02 b34
      have ht4 := ht3.below b34
      have hv4 := hv3.below b34
      have hr4 := hr3.kept b4
      have hz4 := hz2.kept b04
      have hbel4 := Below.then hbel2 b04
      (refine wpH_take 9 (by rfl) (by kernel_rfl) (by intro _ _ _ h; first | exact h | (cases h.1)) (by intro _ _ _ _ h; first | exact h | (cases h.1)) (by assumption) (fun K hK => ?_); simp only [List.setIfInBounds_toArray, List.set_cons_zero, List.set_cons_succ] at hK; go_simp; first | (refine hK _ ?_; clear hK K) | (apply Exists.intro; refine ⟨fun _ => rfl, hK _ ?_⟩; clear hK K)); (refine wpH_take 10 (by rfl) (by kernel_rfl) (by intro _ _ _ h; first | exact h | (cases h.1)) (by intro _ _ _ _ h; first | exact h | (cases h.1)) (by assumption) (fun K hK => ?_); simp only [List.setIfInBounds_toArray, List.set_cons_zero, List.set_cons_succ] at hK; go_simp; first | (refine hK _ ?_; clear hK K) | (apply Exists.intro; refine ⟨fun _ => rfl, hK _ ?_⟩; clear hK K)); (refine wpH_take 11 (by rfl) (by kernel_rfl) (by intro _ _ _ h; first | exact h | (cases h.1)) (by intro _ _ _ _ h; first | exact h | (cases h.1)) (by assumption) (fun K hK => ?_); simp only [List.setIfInBounds_toArray, List.set_cons_zero, List.set_cons_succ] at hK; go_simp; first | (refine hK _ ?_; clear hK K) | (apply Exists.intro; refine ⟨fun _ => rfl, hK _ ?_⟩; clear hK K)); (refine wpH_take 12 (by rfl) (by kernel_rfl) (by intro _ _ _ h; first | exact h | (cases h.1)) (by intro _ _ _ _ h; first | exact h | (cases h.1)) (by assumption) (fun K hK => ?_); simp only [List.setIfInBounds_toArray, List.set_cons_zero, List.set_cons_succ] at hK; go_simp; first | (refine hK _ ?_; clear hK K) | (apply Exists.intro; refine ⟨fun _ => rfl, hK _ ?_⟩; clear hK K)); (refine wpH_take 13 (by rfl) (by kernel_rfl) (by intro _ _ _ h; first | exact h | (cases h.1)) (by intro _ _ _ _ h; first | exact h | (cases h.1)) (by assumption) (fun K hK => ?_); simp only [List.setIfInBounds_toArray, List.set_cons_zero, List.set_cons_succ] at hK; go_simp; first | (refine hK _ ?_; clear hK K) | (apply Exists.intro; refine ⟨fun _ => rfl, hK _ ?_⟩; clear hK K)); (refine wpH_take 14 (by rfl) (by kernel_rfl) (by intro _ _ _ h; first | exact h | (cases h.1)) (by intro _ _ _ _ h; first | exact h | (cases h.1)) (by assumption) (fun K hK => ?_); simp only [List.setIfInBounds_toArray, List.set_cons_zero, List.set_cons_succ] at hK; go_simp; first | (refine hK _ ?_; clear hK K) | (apply Exists.intro; refine ⟨fun _ => rfl, hK _ ?_⟩; clear hK K)); (refine wpH_take 15 (by rfl) (by kernel_rfl) (by intro _ _ _ h; first | exact h | (cases h.1)) (by intro _ _ _ _ h; first | exact h | (cases h.1)) (by assumption) (fun K hK => ?_); simp only [List.setIfInBounds_toArray, List.set_cons_zero, List.set_cons_succ] at hK; go_simp; first | (refine hK _ ?_; clear hK K) | (apply Exists.intro; refine ⟨fun _ => rfl, hK _ ?_⟩; clear hK K)); (refine wpH_take 16 (by rfl) (by kernel_rfl) (by intro _ _ _ h; first | exact h | (cases h.1)) (by intro _ _ _ _ h; first | exact h | (cases h.1)) (by assumption) (fun K hK => ?_); simp only [List.setIfInBounds_toArray, List.set_cons_zero, List.set_cons_succ] at hK; go_simp; first | (refine hK _ ?_; clear hK K) | (apply Exists.intro; refine ⟨fun _ => rfl, hK _ ?_⟩; clear hK K)); (refine wpH_take 17 (by rfl) (by kernel_rfl) (by intro _ _ _ h; first | exact h | (cases h.1)) (by intro _ _ _ _ h; first | exact h | (cases h.1)) (by assumption) (fun K hK => ?_); simp only [List.setIfInBounds_toArray, List.set_cons_zero, List.set_cons_succ] at hK; go_simp; first | (refine hK _ ?_; clear hK K) | (apply Exists.intro; refine ⟨fun _ => rfl, hK _ ?_⟩; clear hK K)); (refine wpH_take 18 (by rfl) (by kernel_rfl) (by intro _ _ _ h; first | exact h | (cases h.1)) (by intro _ _ _ _ h; first | exact h | (cases h.1)) (by assumption) (fun K hK => ?_); simp only [List.setIfInBounds_toArray, List.set_cons_zero, List.set_cons_succ] at hK; go_simp; first | (refine hK _ ?_; clear hK K) | (apply Exists.intro; refine ⟨fun _ => rfl, hK _ ?_⟩; clear hK K)); (refine wpH_take 19 (by rfl) (by kernel_rfl) (by intro _ _ _ h; first | exact h | (cases h.1)) (by intro _ _ _ _ h; first | exact h | (cases h.1)) (by assumption) (fun K hK => ?_); simp only [List.setIfInBounds_toArray, List.set_cons_zero, List.set_cons_succ] at hK; go_simp; first | (refine hK _ ?_; clear hK K) | (apply Exists.intro; refine ⟨fun _ => rfl, hK _ ?_⟩; clear hK K)); (refine wpH_take 20 (by rfl) (by kernel_rfl) (by intro _ _ _ h; first | exact h | (cases h.1)) (by intro _ _ _ _ h; first | exact h | (cases h.1)) (by assumption) (fun K hK => ?_); simp only [List.setIfInBounds_toArray, List.set_cons_zero, List.set_cons_succ] at hK; go_simp; first | (refine hK _ ?_; clear hK K) | (apply Exists.intro; refine ⟨fun _ => rfl, hK _ ?_⟩; clear hK K))
      refine wpH_only 21 (by rfl) (by kernel_rfl) (fun K hK => ?_)
      refine step_storeA (by rfl) 37 (.tmp 2) (.tmp 28) (by rfl) (w.heap.size + 1) [.bool true, .slice none 0 0, .slice (some ⟨u2.heap.size, 0, none⟩) 2 2] (by rfl) (by rfl) aggItem hz4 (by rfl) (by rfl) (by intro u hu; simp at hu; rcases hu with rfl | rfl | rfl <;> rfl) (fun u5 o5 c5 r5 => ?_)
      have hS5 := hS4.grown r5 (by simp)
      refine hK _ _ hS5 ?_; clear hK K
      have hbel5 := hbel4.grown r5 hbel4.size (fun j hj => by cases hj; omega)
      (refine wpH_take 22 (by rfl) (by kernel_rfl) (by intro _ _ _ h; first | exact h | (cases h.1)) (by intro _ _ _ _ h; first | exact h | (cases h.1)) (by assumption) (fun K hK => ?_); simp only [List.setIfInBounds_toArray, List.set_cons_zero, List.set_cons_succ] at hK; go_simp; first | (refine hK _ ?_; clear hK K) | (apply Exists.intro; refine ⟨fun _ => rfl, hK _ ?_⟩; clear hK K))
      refine wpH_done (by kernel_rfl) ?_
      clear k2
      go_wp2
      have hokt : ok = false := by rw [Hokk.out]; simp [hv1]
      subst hokt
      exact bodyPost_ret (results_blk_tmp rfl _ _ (w.heap.size + 1) aggItem o5 rfl rfl rfl) rfl ⟨true, none, 0, 0, [], some ⟨u2.heap.size, 0, none⟩, 2, 2, [], rfl, fun h => by simp at h, hbel5⟩
    · have hi0 : (0 : Int) < (vn : Int) := by omega
      have hi1 : (vn : Int) ≤ 1024 := by omega
      go_enter Try.func86, Try.ntmps86
      go_wp2_with (go_at_call 105; refine (Ct.out _ (hp.below hbel1)).mono ?_; rintro e w2 ⟨tv, rfl, ht2, b2⟩; have hs2 := hs1.kept b2; have kcell := (hs2.cell 0).trans (show _ = some (Value.int .i64 1) from rfl); have hz2 := hz1.kept b2; have hbel2 := Below.then hbel1 b2; obtain ⟨ga, gc, rfl, _⟩ := ht2.form' tn Htn.out.symm)
      have hv2 := hv.below hbel2
      have c1 := fun x => text_any ga tn gc x
      have c2 := fun x => text_any va vn vc x
      have C1 := Lib.hid c1
      have C2 := Lib.hid c2
      have hk2 : CellAt ⟨w.heap.size, 2, none⟩ (.slice va vn vc) w2 := (hs2.cell 2).trans rfl
      have k2 : ∀ u : In (CellAt ⟨w.heap.size, 2, none⟩ (.slice va vn vc)), u.val.cell? ⟨w.heap.size, 2, none⟩ = some (.slice va vn vc) := fun u => u.held
      clear c1 c2 hs1 hz1 hbel1 b2 kcell
      refine wp_region_h (CellAt ⟨w.heap.size, 2, none⟩ (.slice va vn vc)) (by kernel_rfl) ?_; intro u0 hu0; simp only [List.length_cons, List.length_nil, Nat.reduceAdd, List.replicate_succ, List.replicate_zero]
      have hb0 : Below w2.heap.size w2 u0 := by rw [hu0]; exact (Below.refl _ _).drew
      have hS0 := hk2.below hb0
      clear hu0 hk2
      (refine wpH_take 0 (by rfl) (by kernel_rfl) (by intro _ _ _ h; first | exact h | (cases h.1)) (by intro _ _ _ _ h; first | exact h | (cases h.1)) (by assumption) (fun K hK => ?_); simp only [List.setIfInBounds_toArray, List.set_cons_zero, List.set_cons_succ] at hK; go_simp; first | (refine hK _ ?_; clear hK K) | (apply Exists.intro; refine ⟨fun _ => rfl, hK _ ?_⟩; clear hK K)); (refine wpH_take 2 (by rfl) (by kernel_rfl) (by intro _ _ _ h; first | exact h | (cases h.1)) (by intro _ _ _ _ h; first | exact h | (cases h.1)) (by assumption) (fun K hK => ?_); simp only [List.setIfInBounds_toArray, List.set_cons_zero, List.set_cons_succ] at hK; go_simp; first | (refine hK _ ?_; clear hK K) | (apply Exists.intro; refine ⟨fun _ => rfl, hK _ ?_⟩; clear hK K)); (refine wpH_take 3 (by rfl) (by kernel_rfl) (by intro _ _ _ h; first | exact h | (cases h.1)) (by intro _ _ _ _ h; first | exact h | (cases h.1)) (by assumption) (fun K hK => ?_); simp only [List.setIfInBounds_toArray, List.set_cons_zero, List.set_cons_succ] at hK; go_simp; first | (refine hK _ ?_; clear hK K) | (apply Exists.intro; refine ⟨fun _ => rfl, hK _ ?_⟩; clear hK K)); (refine wpH_take 7 (by rfl) (by kernel_rfl) (by intro _ _ _ h; first | exact h | (cases h.1)) (by intro _ _ _ _ h; first | exact h | (cases h.1)) (by assumption) (fun K hK => ?_); simp only [List.setIfInBounds_toArray, List.set_cons_zero, List.set_cons_succ] at hK; go_simp; first | (refine hK _ ?_; clear hK K) | (apply Exists.intro; refine ⟨fun _ => rfl, hK _ ?_⟩; clear hK K)); (refine wpH_take 8 (by rfl) (by kernel_rfl) (by intro _ _ _ h; first | exact h | (cases h.1)) (by intro _ _ _ _ h; first | exact h | (cases h.1)) (by assumption) (fun K hK => ?_); simp only [List.setIfInBounds_toArray, List.set_cons_zero, List.set_cons_succ] at hK; go_simp; first | (refine hK _ ?_; clear hK K) | (apply Exists.intro; refine ⟨fun _ => rfl, hK _ ?_⟩; clear hK K))
      (refine wpH_only 1 (by rfl) (by kernel_rfl) (fun K hK => ?_); simp only [List.setIfInBounds_toArray, List.set_cons_zero, List.set_cons_succ] at hK; go_simp)
      (with_reducible refine (C1.out _).mono ?_)
      rintro e u1 ⟨rfl, b1⟩
      have hS1 := hS0.below b1
      refine hK _ _ hS1 ?_; clear hK K
      (refine wpH_only 4 (by rfl) (by kernel_rfl) (fun K hK => ?_); simp only [List.setIfInBounds_toArray, List.set_cons_zero, List.set_cons_succ] at hK; go_simp)
      (with_reducible refine (C2.out _).mono ?_)
      rintro e u2 ⟨rfl, b2⟩
      have hS2 := hS1.below b2
      refine hK _ _ hS2 ?_; clear hK K
      have b02 := Below.then (Below.then hb0 b1) b2
      have ht3 := ht2.below b02
      have hv3 := hv2.below b02
      have hr3 := Row.built icells_len u2 37 [txt (.slice ga tn gc) T, txt (.slice va vn vc) v] 2 rfl (by unfold maxLen; omega)
      (refine wpH_only 5 (by rfl) (by kernel_rfl) (fun K hK => ?_); simp only [List.setIfInBounds_toArray, List.set_cons_zero, List.set_cons_succ] at hK; go_simp)
      have b3 : Below u2.heap.size u2 (u2.alloc (.cells #[.bool false, .slice ga tn gc, .slice none 0 0, .bool false, .slice va vn vc, .slice none 0 0] 37)) := (Below.refl _ _).alloc (Nat.le_refl _) _
      have hS3 := hS2.below b3
      refine hK _ _ hS3 ?_; clear hK K
      (refine wpH_only 6 (by rfl) (by kernel_rfl) (fun K hK => ?_); simp only [List.setIfInBounds_toArray, List.set_cons_zero, List.set_cons_succ] at hK; go_simp)
      (with_reducible refine (list_any _ _ _ _).mono ?_)
      rintro e u4 ⟨rfl, b4⟩
      have b34 := Below.then b3 b4
      have hS4 := hS3.below b4
      refine hK _ _ hS4 ?_; clear hK K
      have b04 := Below.then b02 b34
      have ht4 := ht3.below b34
      have hv4 := hv3.below b34
      have hr4 := hr3.kept b4
      have hz4 := hz2.kept b04
      have hbel4 := Below.then hbel2 b04
      (refine wpH_take 9 (by rfl) (by kernel_rfl) (by intro _ _ _ h; first | exact h | (cases h.1)) (by intro _ _ _ _ h; first | exact h | (cases h.1)) (by assumption) (fun K hK => ?_); simp only [List.setIfInBounds_toArray, List.set_cons_zero, List.set_cons_succ] at hK; go_simp; first | (refine hK _ ?_; clear hK K) | (apply Exists.intro; refine ⟨fun _ => rfl, hK _ ?_⟩; clear hK K)); (refine wpH_take 10 (by rfl) (by kernel_rfl) (by intro _ _ _ h; first | exact h | (cases h.1)) (by intro _ _ _ _ h; first | exact h | (cases h.1)) (by assumption) (fun K hK => ?_); simp only [List.setIfInBounds_toArray, List.set_cons_zero, List.set_cons_succ] at hK; go_simp; first | (refine hK _ ?_; clear hK K) | (apply Exists.intro; refine ⟨fun _ => rfl, hK _ ?_⟩; clear hK K)); (refine wpH_take 11 (by rfl) (by kernel_rfl) (by intro _ _ _ h; first | exact h | (cases h.1)) (by intro _ _ _ _ h; first | exact h | (cases h.1)) (by assumption) (fun K hK => ?_); simp only [List.setIfInBounds_toArray, List.set_cons_zero, List.set_cons_succ] at hK; go_simp; first | (refine hK _ ?_; clear hK K) | (apply Exists.intro; refine ⟨fun _ => rfl, hK _ ?_⟩; clear hK K)); (refine wpH_take 12 (by rfl) (by kernel_rfl) (by intro _ _ _ h; first | exact h | (cases h.1)) (by intro _ _ _ _ h; first | exact h | (cases h.1)) (by assumption) (fun K hK => ?_); simp only [List.setIfInBounds_toArray, List.set_cons_zero, List.set_cons_succ] at hK; go_simp; first | (refine hK _ ?_; clear hK K) | (apply Exists.intro; refine ⟨fun _ => rfl, hK _ ?_⟩; clear hK K)); (refine wpH_take 13 (by rfl) (by kernel_rfl) (by intro _ _ _ h; first | exact h | (cases h.1)) (by intro _ _ _ _ h; first | exact h | (cases h.1)) (by assumption) (fun K hK => ?_); simp only [List.setIfInBounds_toArray, List.set_cons_zero, List.set_cons_succ] at hK; go_simp; first | (refine hK _ ?_; clear hK K) | (apply Exists.intro; refine ⟨fun _ => rfl, hK _ ?_⟩; clear hK K)); (refine wpH_take 14 (by rfl) (by kernel_rfl) (by intro _ _ _ h; first | exact h | (cases h.1)) (by intro _ _ _ _ h; first | exact h | (cases h.1)) (by assumption) (fun K hK => ?_); simp only [List.setIfInBounds_toArray, List.set_cons_zero, List.set_cons_succ] at hK; go_simp; first | (refine hK _ ?_; clear hK K) | (apply Exists.intro; refine ⟨fun _ => rfl, hK _ ?_⟩; clear hK K)); (refine wpH_take 15 (by rfl) (by kernel_rfl) (by intro _ _ _ h; first | exact h | (cases h.1)) (by intro _ _ _ _ h; first | exact h | (cases h.1)) (by assumption) (fun K hK => ?_); simp only [List.setIfInBounds_toArray, List.set_cons_zero, List.set_cons_succ] at hK; go_simp; first | (refine hK _ ?_; clear hK K) | (apply Exists.intro; refine ⟨fun _ => rfl, hK _ ?_⟩; clear hK K)); (refine wpH_take 16 (by rfl) (by kernel_rfl) (by intro _ _ _ h; first | exact h | (cases h.1)) (by intro _ _ _ _ h; first | exact h | (cases h.1)) (by assumption) (fun K hK => ?_); simp only [List.setIfInBounds_toArray, List.set_cons_zero, List.set_cons_succ] at hK; go_simp; first | (refine hK _ ?_; clear hK K) | (apply Exists.intro; refine ⟨fun _ => rfl, hK _ ?_⟩; clear hK K)); (refine wpH_take 17 (by rfl) (by kernel_rfl) (by intro _ _ _ h; first | exact h | (cases h.1)) (by intro _ _ _ _ h; first | exact h | (cases h.1)) (by assumption) (fun K hK => ?_); simp only [List.setIfInBounds_toArray, List.set_cons_zero, List.set_cons_succ] at hK; go_simp; first | (refine hK _ ?_; clear hK K) | (apply Exists.intro; refine ⟨fun _ => rfl, hK _ ?_⟩; clear hK K)); (refine wpH_take 18 (by rfl) (by kernel_rfl) (by intro _ _ _ h; first | exact h | (cases h.1)) (by intro _ _ _ _ h; first | exact h | (cases h.1)) (by assumption) (fun K hK => ?_); simp only [List.setIfInBounds_toArray, List.set_cons_zero, List.set_cons_succ] at hK; go_simp; first | (refine hK _ ?_; clear hK K) | (apply Exists.intro; refine ⟨fun _ => rfl, hK _ ?_⟩; clear hK K)); (refine wpH_take 19 (by rfl) (by kernel_rfl) (by intro _ _ _ h; first | exact h | (cases h.1)) (by intro _ _ _ _ h; first | exact h | (cases h.1)) (by assumption) (fun K hK => ?_); simp only [List.setIfInBounds_toArray, List.set_cons_zero, List.set_cons_succ] at hK; go_simp; first | (refine hK _ ?_; clear hK K) | (apply Exists.intro; refine ⟨fun _ => rfl, hK _ ?_⟩; clear hK K)); (refine wpH_take 20 (by rfl) (by kernel_rfl) (by intro _ _ _ h; first | exact h | (cases h.1)) (by intro _ _ _ _ h; first | exact h | (cases h.1)) (by assumption) (fun K hK => ?_); simp only [List.setIfInBounds_toArray, List.set_cons_zero, List.set_cons_succ] at hK; go_simp; first | (refine hK _ ?_; clear hK K) | (apply Exists.intro; refine ⟨fun _ => rfl, hK _ ?_⟩; clear hK K))
      refine wpH_only 21 (by rfl) (by kernel_rfl) (fun K hK => ?_)
      refine step_storeA (by rfl) 37 (.tmp 2) (.tmp 28) (by rfl) (w.heap.size + 1) [.bool true, .slice none 0 0, .slice (some ⟨u2.heap.size, 0, none⟩) 2 2] (by rfl) (by rfl) aggItem hz4 (by rfl) (by rfl) (by intro u hu; simp at hu; rcases hu with rfl | rfl | rfl <;> rfl) (fun u5 o5 c5 r5 => ?_)
      have hS5 := hS4.grown r5 (by simp)
      refine hK _ _ hS5 ?_; clear hK K
      have hbel5 := hbel4.grown r5 hbel4.size (fun j hj => by cases hj; omega)
      (refine wpH_take 22 (by rfl) (by kernel_rfl) (by intro _ _ _ h; first | exact h | (cases h.1)) (by intro _ _ _ _ h; first | exact h | (cases h.1)) (by assumption) (fun K hK => ?_); simp only [List.setIfInBounds_toArray, List.set_cons_zero, List.set_cons_succ] at hK; go_simp; first | (refine hK _ ?_; clear hK K) | (apply Exists.intro; refine ⟨fun _ => rfl, hK _ ?_⟩; clear hK K))
      refine wpH_done (by kernel_rfl) ?_
      clear k2
      go_wp2
      have hokt : ok = true := by rw [Hokk.out, Hok.out]; simp [show 1 ≤ vn from hv0, hv1]
      subst hokt
      have ht5 := Bytes.off ht4 hz4 (by intro u hu k; simp at hu; rcases hu with rfl | rfl | rfl <;> simp) r5
      have hv5 := hv.below hbel5
      have hr5 := RowOf.grownNe hr4 r5 (by have := hz2.lt; have := b02.size; omega)
      refine bodyPost_ret (results_blk_tmp rfl _ _ (w.heap.size + 1) aggItem o5 rfl rfl rfl) rfl ⟨true, none, 0, 0, [], some ⟨u2.heap.size, 0, none⟩, 2, 2, [txt (.slice ga tn gc) T, txt (.slice va vn vc) v], rfl, fun _ => ⟨?_, ?_, ?_⟩, hbel5⟩
      · exact IsItm.lst hr5 (txts_is (ps := [(.slice ga tn gc, T), (.slice va vn vc, v)]) (by intro p hp; simp at hp; rcases hp with rfl | rfl; exact ht5; exact hv5))
      · exact encI_lst_txts _ [(.slice ga tn gc, T), (.slice va vn vc, v)]
      · refine Nat.le_trans (Nat.le_of_eq (bulk_lst _ (txts [(.slice ga tn gc, T), (.slice va vn vc, v)]))) ?_
        rw [bulkL_txts]
        have := HlT.out
        have := Hvn.out
        simp; omega
  · rw [tagL_ok] at hok
    rw [hE] at ct
    obtain ⟨T, hT⟩ : ∃ T, T = joinR (tagL p true) := ⟨_, rfl⟩
    rw [← hT] at hTl ⊢
    simp only [← hT] at ct
    obtain ⟨ok, hokk⟩ : ∃ ok, ok = (!wrongB p && decide (1 ≤ vn) && decide (vn ≤ 1024)) := ⟨_, rfl⟩
    rw [← hokk]
    have hlT : T.length ≤ 1048580 := by omega
    obtain ⟨tn, htn⟩ : ∃ tn, tn = T.length := ⟨_, rfl⟩
    have Htn := Lib.hid htn
    have Ct := Lib.hid ct
    have Hokk := Lib.hid hokk
    have Hok := Lib.hid hok
    have HlT := Lib.hid hlT
    have Hvn := Lib.hid hvn
    clear ct hT htn hTl hok hE hokk hlT hvn
    · skip
      go_enter Try.func86, Try.ntmps86
      go_wp2_with (go_at_call 105; refine (Ct.out _ (hp.below hbel1)).mono ?_; rintro e w2 ⟨tv, rfl, ht2, b2⟩; have hs2 := hs1.kept b2; have kcell := (hs2.cell 0).trans (show _ = some (Value.int .i64 1) from rfl); have hz2 := hz1.kept b2; have hbel2 := Below.then hbel1 b2; obtain ⟨ga, gc, rfl, _⟩ := ht2.form' tn Htn.out.symm)
      have hv2 := hv.below hbel2
      have c1 := fun x => text_any ga tn gc x
      have c2 := fun x => text_any va vn vc x
      have C1 := Lib.hid c1
      have C2 := Lib.hid c2
      have hk2 : CellAt ⟨w.heap.size, 2, none⟩ (.slice va vn vc) w2 := (hs2.cell 2).trans rfl
      have k2 : ∀ u : In (CellAt ⟨w.heap.size, 2, none⟩ (.slice va vn vc)), u.val.cell? ⟨w.heap.size, 2, none⟩ = some (.slice va vn vc) := fun u => u.held
      clear c1 c2 hs1 hz1 hbel1 b2 kcell
      refine wp_region_h (CellAt ⟨w.heap.size, 2, none⟩ (.slice va vn vc)) (by kernel_rfl) ?_; intro u0 hu0; simp only [List.length_cons, List.length_nil, Nat.reduceAdd, List.replicate_succ, List.replicate_zero]
      have hb0 : Below w2.heap.size w2 u0 := by rw [hu0]; exact (Below.refl _ _).drew
      have hS0 := hk2.below hb0
      clear hu0 hk2
      (refine wpH_take 0 (by rfl) (by kernel_rfl) (by intro _ _ _ h; first | exact h | (cases h.1)) (by intro _ _ _ _ h; first | exact h | (cases h.1)) (by assumption) (fun K hK => ?_); simp only [List.setIfInBounds_toArray, List.set_cons_zero, List.set_cons_succ] at hK; go_simp; first | (refine hK _ ?_; clear hK K) | (apply Exists.intro; refine ⟨fun _ => rfl, hK _ ?_⟩; clear hK K)); (refine wpH_take 2 (by rfl) (by kernel_rfl) (by intro _ _ _ h; first | exact h | (cases h.1)) (by intro _ _ _ _ h; first | exact h | (cases h.1)) (by assumption) (fun K hK => ?_); simp only [List.setIfInBounds_toArray, List.set_cons_zero, List.set_cons_succ] at hK; go_simp; first | (refine hK _ ?_; clear hK K) | (apply Exists.intro; refine ⟨fun _ => rfl, hK _ ?_⟩; clear hK K)); (refine wpH_take 3 (by rfl) (by kernel_rfl) (by intro _ _ _ h; first | exact h | (cases h.1)) (by intro _ _ _ _ h; first | exact h | (cases h.1)) (by assumption) (fun K hK => ?_); simp only [List.setIfInBounds_toArray, List.set_cons_zero, List.set_cons_succ] at hK; go_simp; first | (refine hK _ ?_; clear hK K) | (apply Exists.intro; refine ⟨fun _ => rfl, hK _ ?_⟩; clear hK K)); (refine wpH_take 7 (by rfl) (by kernel_rfl) (by intro _ _ _ h; first | exact h | (cases h.1)) (by intro _ _ _ _ h; first | exact h | (cases h.1)) (by assumption) (fun K hK => ?_); simp only [List.setIfInBounds_toArray, List.set_cons_zero, List.set_cons_succ] at hK; go_simp; first | (refine hK _ ?_; clear hK K) | (apply Exists.intro; refine ⟨fun _ => rfl, hK _ ?_⟩; clear hK K)); (refine wpH_take 8 (by rfl) (by kernel_rfl) (by intro _ _ _ h; first | exact h | (cases h.1)) (by intro _ _ _ _ h; first | exact h | (cases h.1)) (by assumption) (fun K hK => ?_); simp only [List.setIfInBounds_toArray, List.set_cons_zero, List.set_cons_succ] at hK; go_simp; first | (refine hK _ ?_; clear hK K) | (apply Exists.intro; refine ⟨fun _ => rfl, hK _ ?_⟩; clear hK K))
      (refine wpH_only 1 (by rfl) (by kernel_rfl) (fun K hK => ?_); simp only [List.setIfInBounds_toArray, List.set_cons_zero, List.set_cons_succ] at hK; go_simp)
      (with_reducible refine (C1.out _).mono ?_)
      rintro e u1 ⟨rfl, b1⟩
      have hS1 := hS0.below b1
      refine hK _ _ hS1 ?_; clear hK K
      (refine wpH_only 4 (by rfl) (by kernel_rfl) (fun K hK => ?_); simp only [List.setIfInBounds_toArray, List.set_cons_zero, List.set_cons_succ] at hK; go_simp)
      (with_reducible refine (C2.out _).mono ?_)
      rintro e u2 ⟨rfl, b2⟩
      have hS2 := hS1.below b2
      refine hK _ _ hS2 ?_; clear hK K
      have b02 := Below.then (Below.then hb0 b1) b2
      have ht3 := ht2.below b02
      have hv3 := hv2.below b02
      have hr3 := Row.built icells_len u2 37 [txt (.slice ga tn gc) T, txt (.slice va vn vc) v] 2 rfl (by unfold maxLen; omega)
      (refine wpH_only 5 (by rfl) (by kernel_rfl) (fun K hK => ?_); simp only [List.setIfInBounds_toArray, List.set_cons_zero, List.set_cons_succ] at hK; go_simp)
      have b3 : Below u2.heap.size u2 (u2.alloc (.cells #[.bool false, .slice ga tn gc, .slice none 0 0, .bool false, .slice va vn vc, .slice none 0 0] 37)) := (Below.refl _ _).alloc (Nat.le_refl _) _
      have hS3 := hS2.below b3
      refine hK _ _ hS3 ?_; clear hK K
      (refine wpH_only 6 (by rfl) (by kernel_rfl) (fun K hK => ?_); simp only [List.setIfInBounds_toArray, List.set_cons_zero, List.set_cons_succ] at hK; go_simp)
      (with_reducible refine (list_any _ _ _ _).mono ?_)
      rintro e u4 ⟨rfl, b4⟩
      have b34 := Below.then b3 b4
      have hS4 := hS3.below b4
      refine hK _ _ hS4 ?_; clear hK K
      have b04 := Below.then b02 b34
      have ht4 := ht3.below b34
      have hv4 := hv3.below b34
      have hr4 := hr3.kept b4
      have hz4 := hz2.kept b04
      have hbel4 := Below.then hbel2 b04
      (refine wpH_take 9 (by rfl) (by kernel_rfl) (by intro _ _ _ h; first | exact h | (cases h.1)) (by intro _ _ _ _ h; first | exact h | (cases h.1)) (by assumption) (fun K hK => ?_); simp only [List.setIfInBounds_toArray, List.set_cons_zero, List.set_cons_succ] at hK; go_simp; first | (refine hK _ ?_; clear hK K) | (apply Exists.intro; refine ⟨fun _ => rfl, hK _ ?_⟩; clear hK K)); (refine wpH_take 10 (by rfl) (by kernel_rfl) (by intro _ _ _ h; first | exact h | (cases h.1)) (by intro _ _ _ _ h; first | exact h | (cases h.1)) (by assumption) (fun K hK => ?_); simp only [List.setIfInBounds_toArray, List.set_cons_zero, List.set_cons_succ] at hK; go_simp; first | (refine hK _ ?_; clear hK K) | (apply Exists.intro; refine ⟨fun _ => rfl, hK _ ?_⟩; clear hK K)); (refine wpH_take 11 (by rfl) (by kernel_rfl) (by intro _ _ _ h; first | exact h | (cases h.1)) (by intro _ _ _ _ h; first | exact h | (cases h.1)) (by assumption) (fun K hK => ?_); simp only [List.setIfInBounds_toArray, List.set_cons_zero, List.set_cons_succ] at hK; go_simp; first | (refine hK _ ?_; clear hK K) | (apply Exists.intro; refine ⟨fun _ => rfl, hK _ ?_⟩; clear hK K)); (refine wpH_take 12 (by rfl) (by kernel_rfl) (by intro _ _ _ h; first | exact h | (cases h.1)) (by intro _ _ _ _ h; first | exact h | (cases h.1)) (by assumption) (fun K hK => ?_); simp only [List.setIfInBounds_toArray, List.set_cons_zero, List.set_cons_succ] at hK; go_simp; first | (refine hK _ ?_; clear hK K) | (apply Exists.intro; refine ⟨fun _ => rfl, hK _ ?_⟩; clear hK K)); (refine wpH_take 13 (by rfl) (by kernel_rfl) (by intro _ _ _ h; first | exact h | (cases h.1)) (by intro _ _ _ _ h; first | exact h | (cases h.1)) (by assumption) (fun K hK => ?_); simp only [List.setIfInBounds_toArray, List.set_cons_zero, List.set_cons_succ] at hK; go_simp; first | (refine hK _ ?_; clear hK K) | (apply Exists.intro; refine ⟨fun _ => rfl, hK _ ?_⟩; clear hK K)); (refine wpH_take 14 (by rfl) (by kernel_rfl) (by intro _ _ _ h; first | exact h | (cases h.1)) (by intro _ _ _ _ h; first | exact h | (cases h.1)) (by assumption) (fun K hK => ?_); simp only [List.setIfInBounds_toArray, List.set_cons_zero, List.set_cons_succ] at hK; go_simp; first | (refine hK _ ?_; clear hK K) | (apply Exists.intro; refine ⟨fun _ => rfl, hK _ ?_⟩; clear hK K)); (refine wpH_take 15 (by rfl) (by kernel_rfl) (by intro _ _ _ h; first | exact h | (cases h.1)) (by intro _ _ _ _ h; first | exact h | (cases h.1)) (by assumption) (fun K hK => ?_); simp only [List.setIfInBounds_toArray, List.set_cons_zero, List.set_cons_succ] at hK; go_simp; first | (refine hK _ ?_; clear hK K) | (apply Exists.intro; refine ⟨fun _ => rfl, hK _ ?_⟩; clear hK K)); (refine wpH_take 16 (by rfl) (by kernel_rfl) (by intro _ _ _ h; first | exact h | (cases h.1)) (by intro _ _ _ _ h; first | exact h | (cases h.1)) (by assumption) (fun K hK => ?_); simp only [List.setIfInBounds_toArray, List.set_cons_zero, List.set_cons_succ] at hK; go_simp; first | (refine hK _ ?_; clear hK K) | (apply Exists.intro; refine ⟨fun _ => rfl, hK _ ?_⟩; clear hK K)); (refine wpH_take 17 (by rfl) (by kernel_rfl) (by intro _ _ _ h; first | exact h | (cases h.1)) (by intro _ _ _ _ h; first | exact h | (cases h.1)) (by assumption) (fun K hK => ?_); simp only [List.setIfInBounds_toArray, List.set_cons_zero, List.set_cons_succ] at hK; go_simp; first | (refine hK _ ?_; clear hK K) | (apply Exists.intro; refine ⟨fun _ => rfl, hK _ ?_⟩; clear hK K)); (refine wpH_take 18 (by rfl) (by kernel_rfl) (by intro _ _ _ h; first | exact h | (cases h.1)) (by intro _ _ _ _ h; first | exact h | (cases h.1)) (by assumption) (fun K hK => ?_); simp only [List.setIfInBounds_toArray, List.set_cons_zero, List.set_cons_succ] at hK; go_simp; first | (refine hK _ ?_; clear hK K) | (apply Exists.intro; refine ⟨fun _ => rfl, hK _ ?_⟩; clear hK K)); (refine wpH_take 19 (by rfl) (by kernel_rfl) (by intro _ _ _ h; first | exact h | (cases h.1)) (by intro _ _ _ _ h; first | exact h | (cases h.1)) (by assumption) (fun K hK => ?_); simp only [List.setIfInBounds_toArray, List.set_cons_zero, List.set_cons_succ] at hK; go_simp; first | (refine hK _ ?_; clear hK K) | (apply Exists.intro; refine ⟨fun _ => rfl, hK _ ?_⟩; clear hK K)); (refine wpH_take 20 (by rfl) (by kernel_rfl) (by intro _ _ _ h; first | exact h | (cases h.1)) (by intro _ _ _ _ h; first | exact h | (cases h.1)) (by assumption) (fun K hK => ?_); simp only [List.setIfInBounds_toArray, List.set_cons_zero, List.set_cons_succ] at hK; go_simp; first | (refine hK _ ?_; clear hK K) | (apply Exists.intro; refine ⟨fun _ => rfl, hK _ ?_⟩; clear hK K))
      refine wpH_only 21 (by rfl) (by kernel_rfl) (fun K hK => ?_)
      refine step_storeA (by rfl) 37 (.tmp 2) (.tmp 28) (by rfl) (w.heap.size + 1) [.bool true, .slice none 0 0, .slice (some ⟨u2.heap.size, 0, none⟩) 2 2] (by rfl) (by rfl) aggItem hz4 (by rfl) (by rfl) (by intro u hu; simp at hu; rcases hu with rfl | rfl | rfl <;> rfl) (fun u5 o5 c5 r5 => ?_)
      have hS5 := hS4.grown r5 (by simp)
      refine hK _ _ hS5 ?_; clear hK K
      have hbel5 := hbel4.grown r5 hbel4.size (fun j hj => by cases hj; omega)
      (refine wpH_take 22 (by rfl) (by kernel_rfl) (by intro _ _ _ h; first | exact h | (cases h.1)) (by intro _ _ _ _ h; first | exact h | (cases h.1)) (by assumption) (fun K hK => ?_); simp only [List.setIfInBounds_toArray, List.set_cons_zero, List.set_cons_succ] at hK; go_simp; first | (refine hK _ ?_; clear hK K) | (apply Exists.intro; refine ⟨fun _ => rfl, hK _ ?_⟩; clear hK K))
      refine wpH_done (by kernel_rfl) ?_
      clear k2
      go_wp2
      have hokt : ok = false := by rw [Hokk.out]; rw [Hok.out]; simp
      subst hokt
      exact bodyPost_ret (results_blk_tmp rfl _ _ (w.heap.size + 1) aggItem o5 rfl rfl rfl) rfl ⟨true, none, 0, 0, [], some ⟨u2.heap.size, 0, none⟩, 2, 2, [], rfl, fun h => by simp at h, hbel5⟩
end Go.Proofs.Ytfedjbodcebdnaa
