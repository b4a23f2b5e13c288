/- The reference's IMake. -/
import Derived.Test.YtnhbfnegpjkojaaMk5
set_option linter.unusedSimpArgs false
set_option linter.unusedVariables false
namespace Go.Proofs.Ytnhbfnegpjkojaa
open Go.RowKit
set_option maxHeartbeats 4000000 in
set_option maxRecDepth 100000 in
theorem imake_any (t0 : Nd) (ka : Option Addr) (kn kc : Nat) (key : List UInt8) (hkn : key.length = kn) (w : World) (hI : IsNd w t0) (hb : bulkN t0 ≤ 1048576) (hk : Bytes w (.slice ka kn kc) key) :
    Calls Try.prog 51 #[.agg (ndcells t0).toArray, .slice ka kn kc] w (MkP (mkE t0 key) (mkL t0 key) w) := by
  obtain ⟨w1, hw1⟩ : ∃ w1, w1 = w.alloc (.cells (ndcells t0).toArray 25) := ⟨_, rfl⟩
  have z1 : Blk 25 w1 w.heap.size (ndcells t0) := by rw [hw1]; exact Blk.new w _ _
  have hbel : Below w.heap.size w w1 := by rw [hw1]; exact (Below.refl _ _).alloc (Nat.le_refl _) _
  have c1 := gright_any t0 w1 (hI.kept hbel) hb
  rw [gright_rgt t0] at c1
  obtain ⟨R, hR⟩ : ∃ R, R = rgt 0 t0 := ⟨_, rfl⟩
  obtain ⟨E, hE⟩ : ∃ E, E = mkE t0 key := ⟨_, rfl⟩
  obtain ⟨L, hL⟩ : ∃ L, L = mkL t0 key := ⟨_, rfl⟩
  have cg := fun (hr : rgt 0 t0 = true) u (hu : Below w.heap.size w u) (hl : key.length ≤ 32) => gd_any (SizeOf.sizeOf t0) t0 (Nat.le_refl _) (bulkN t0) 0 (halvesL key) u (hI.kept hu) hb (Nat.le_refl _) hb hr (halves_lt key) (by rw [halves_len]; omega)
  obtain ⟨K, hK⟩ : ∃ K, K = ndcells t0 := ⟨_, rfl⟩
  have hKl : K.length = 4 := by rw [hK]; exact ndcells_len t0
  rw [← hE, ← hL]
  unfold mkE at hE
  unfold mkL at hL
  rw [hkn] at hE hL
  simp only [← hR, ← hK] at c1 z1 hw1 hE hL cg ⊢
  have C1 := Lib.hid c1
  have Hw1 := Lib.hid hw1
  have HKl := Lib.hid hKl
  have r1 := z1.all0
  cases R with
  | false =>
    obtain rfl : E = 1 := by rw [hE]; rfl
    have hL' : L = [] := by rw [hL]; rfl
    clear hL
    subst hL'
    clear c1 hR hK hKl hw1 hI hb hk hE cg
    go_enter Try.func51, Try.ntmps51
    go_wp2_with (first
      | ((with_reducible show wpList _ _ _ (⟨some 6, _, _, _, _, _⟩ :: _) _ _); refine wpList_loadW (o := ⟨some 6, _, _, _, _, _⟩) 25 (.tmp 2) (by rfl) w.heap.size 0 (by rfl) aggNode HKl.out (by rw [← Hw1.out]; exact r1) (by rfl) ?_)
      | (go_at_call 54; rw [← Hw1.out]; (with_reducible refine C1.out.mono ?_); rintro e w2 ⟨rfl, b2⟩; have bb2 := Below.then hbel b2))
    go_ret2
    exact ⟨_, [], rfl, RowOf.nil tcell 1 _, fun q hq => absurd hq (by simp), rfl, bb2⟩
  | true =>
    by_cases h32 : kn ≤ 32
    · obtain rfl : E = 0 := by rw [hE]; simp [h32]
      have hL' : L = dn (bulkN t0) t0 (halvesL key) := by rw [hL]; simp [h32]
      have hki : ((32 : Int) < (kn : Int)) = False := eq_false (by omega)
      obtain ⟨H, hH⟩ : ∃ H, H = halvesL key := ⟨_, rfl⟩
      have ch : ∀ u, Below w.heap.size w u → Calls Try.prog 113 #[.slice ka kn kc] u fun e w' => ∃ v, e = .returned v ∧ OwnOf b8 1 5 w' u.heap.size v H ∧ Below u.heap.size u w' := fun u hu => by
        have h2 := hk.below hu
        rw [← hkn] at h2 ⊢
        rw [hH]; exact nhalves_any ka kc key u h2 (by omega)
      have Cg : Hid (∀ u, Below w.heap.size w u → Calls Try.prog 112 #[.agg K.toArray, .string ⟨H.toArray⟩] u (GdPost L u)) := Lib.hid fun u hu => by rw [hL', hH]; exact cg rfl u hu (by omega)
      have Ch := Lib.hid ch
      have HzL : Hid (∀ u, Below w1.heap.size w1 u → Blk 25 u w.heap.size K) := Lib.hid fun u hu => z1.kept hu
      clear c1 hR hKl hw1 hI hb hk hE hL hL' hH ch hkn h32 hK cg
      go_enter Try.func51, Try.ntmps51
      go_wp2_with (first
        | ((with_reducible show wpList _ _ _ (⟨some 6, _, _, _, _, _⟩ :: _) _ _); refine wpList_loadW (o := ⟨some 6, _, _, _, _, _⟩) 25 (.tmp 2) (by rfl) w.heap.size 0 (by rfl) aggNode HKl.out (by rw [← Hw1.out]; exact r1) (by rfl) ?_)
        | (go_at_call 54; rw [← Hw1.out]; (with_reducible refine C1.out.mono ?_); rintro e w2 ⟨rfl, b2⟩; have bb2 := Below.then hbel b2))
      refine wp_region_h ((fun u => Below w2.heap.size w2 u)) (by kernel_rfl) ?_; intro u0 hu0; simp only [List.length_cons, List.length_nil, Nat.reduceAdd, List.replicate_succ, List.replicate_zero]
      have hS0 : Below w2.heap.size w2 u0 := (by rw [hu0]; exact (Below.refl _ _).drew)
      clear hu0
      (refine wpH_take 0 (by rfl) (by kernel_rfl) (by intro _ _ _ h; first | exact h | (cases h.1)) (by intro _ _ _ _ h; first | exact h | (cases h.1)) (by assumption) (fun K hK => ?_); simp only [List.setIfInBounds_toArray, List.set_cons_zero, List.set_cons_succ] at hK; refine take_loadA (by rfl) 25 (.tmp 2) (by rfl) w.heap.size (by rfl) aggNode (fun u hu => HzL.out u (Below.then b2 hu)) HKl.out (hK _ ?_); clear hK K; try simp only [Act.put, List.getElem_toArray, List.getElem_cons_zero, List.getElem_cons_succ, List.setIfInBounds_toArray, List.set_cons_zero, List.set_cons_succ])
      (refine wpH_take 1 (by rfl) (by kernel_rfl) (by intro _ _ _ h; first | exact h | (cases h.1)) (by intro _ _ _ _ h; first | exact h | (cases h.1)) (by assumption) (fun K hK => ?_); simp only [List.setIfInBounds_toArray, List.set_cons_zero, List.set_cons_succ] at hK; go_simp; first | (refine hK _ ?_; clear hK K) | (apply Exists.intro; refine ⟨fun _ => rfl, hK _ ?_⟩; clear hK K))
      (refine wpH_only 2 (by rfl) (by kernel_rfl) (fun K hK => ?_); simp only [List.setIfInBounds_toArray, List.set_cons_zero, List.set_cons_succ] at hK; go_simp)
      refine (Ch.out u0 (Below.then bb2 hS0)).mono ?_
      rintro e u1 ⟨v14, rfl, o14, b14⟩
      obtain ⟨a14, c14, rfl, _⟩ := o14.form
      have hS1 := Below.then hS0 b14
      refine hK _ _ hS1 ?_; clear hK K
      try simp only [Act.put, List.getElem_toArray, List.getElem_cons_zero, List.getElem_cons_succ, List.setIfInBounds_toArray, List.set_cons_zero, List.set_cons_succ]
      have s1 := run_str (P := Try.prog) (src := 22) (dst := 9) elU8.ht (by kernel_rfl) (by kernel_rfl) o14.row
      (refine wpH_only 3 (by rfl) (by kernel_rfl) (fun K hK => ?_); simp only [List.setIfInBounds_toArray, List.set_cons_zero, List.set_cons_succ] at hK; go_simp)
      refine hK _ _ hS1 ?_; clear hK K
      try simp only [Act.put, List.getElem_toArray, List.getElem_cons_zero, List.getElem_cons_succ, List.setIfInBounds_toArray, List.set_cons_zero, List.set_cons_succ]
      clear s1
      (refine wpH_only 4 (by rfl) (by kernel_rfl) (fun K hK => ?_); simp only [List.setIfInBounds_toArray, List.set_cons_zero, List.set_cons_succ] at hK; go_simp)
      refine (Cg.out u1 (Below.then bb2 hS1)).mono ?_
      rintro e u2 ⟨v16, ps16, rfl, r16, t16, m16, b16⟩
      have hS2 := Below.then hS1 b16
      refine hK _ _ hS2 ?_; clear hK K
      try simp only [Act.put, List.getElem_toArray, List.getElem_cons_zero, List.getElem_cons_succ, List.setIfInBounds_toArray, List.set_cons_zero, List.set_cons_succ]
      (refine wpH_take 5 (by rfl) (by kernel_rfl) (by intro _ _ _ h; first | exact h | (cases h.1)) (by intro _ _ _ _ h; first | exact h | (cases h.1)) (by assumption) (fun K hK => ?_); simp only [List.setIfInBounds_toArray, List.set_cons_zero, List.set_cons_succ] at hK; go_simp; first | (refine hK _ ?_; clear hK K) | (apply Exists.intro; refine ⟨fun _ => rfl, hK _ ?_⟩; clear hK K)); (refine wpH_take 6 (by rfl) (by kernel_rfl) (by intro _ _ _ h; first | exact h | (cases h.1)) (by intro _ _ _ _ h; first | exact h | (cases h.1)) (by assumption) (fun K hK => ?_); simp only [List.setIfInBounds_toArray, List.set_cons_zero, List.set_cons_succ] at hK; go_simp; first | (refine hK _ ?_; clear hK K) | (apply Exists.intro; refine ⟨fun _ => rfl, hK _ ?_⟩; clear hK K))
      refine wpH_done (by kernel_rfl) ?_
      go_wp2_with fail
      go_ret2
      exact ⟨v16, ps16, rfl, r16, fun x hx => (t16 x hx).1, m16, Below.then bb2 hS2⟩
    · obtain rfl : E = 3 := by rw [hE]; simp [h32]
      have hL' : L = [] := by rw [hL]; simp [h32]
      have hki : (32 : Int) < (kn : Int) := by omega
      clear hL
      subst hL'
      clear c1 hR hK hKl hw1 hI hb hk hE cg
      go_enter Try.func51, Try.ntmps51
      go_wp2_with (first
        | ((with_reducible show wpList _ _ _ (⟨some 6, _, _, _, _, _⟩ :: _) _ _); refine wpList_loadW (o := ⟨some 6, _, _, _, _, _⟩) 25 (.tmp 2) (by rfl) w.heap.size 0 (by rfl) aggNode HKl.out (by rw [← Hw1.out]; exact r1) (by rfl) ?_)
        | (go_at_call 54; rw [← Hw1.out]; (with_reducible refine C1.out.mono ?_); rintro e w2 ⟨rfl, b2⟩; have bb2 := Below.then hbel b2))
      go_ret2
      exact ⟨_, [], rfl, RowOf.nil tcell 1 _, fun q hq => absurd hq (by simp), rfl, bb2⟩
end Go.Proofs.Ytnhbfnegpjkojaa
