/- The rest of sums: the reference's addRest, WAddMod. -/
import Derived.Test.YtgmdbleeagfhpaaWord23
set_option linter.unusedSimpArgs false
set_option linter.unusedVariables false
namespace Go.Proofs.Ytgmdbleeagfhpaa
open Go.RowKit
theorem ne_zero (M : Nat) (hM : M < W256) (w1 : World) : (binOp .neq 24 (.agg (wcs M).toArray) (.agg #[.int .u64 0, .int .u64 0, .int .u64 0, .int .u64 0])).run Try.prog w1 = .ok (.bool (!decide (M = 0))) w1 := by
  have := run_neA (P := Try.prog) w1 Try.underlying24 Try.underlying22 (by kernel_rfl) (limI M) (limI 0) rfl rfl
  rw [limI_eq M 0 hM (by unfold W256; omega)] at this
  have h2 : Value.agg ((limI 0).map (Value.int .u64)).toArray = .agg #[.int .u64 0, .int .u64 0, .int .u64 0, .int .u64 0] := by
    have := z4_zero
    unfold wcs at this
    rw [this]; rfl
  rw [h2] at this; exact this
/-- Three words and a result. -/
structure Fr33 (w : World) (N M P R : Nat) (u : World) : Prop where
  a : Blk 24 u w.heap.size (wcs N)
  b : Blk 24 u (w.heap.size + 1) (wcs M)
  c : Blk 24 u (w.heap.size + 2) (wcs P)
  r : Blk 24 u (w.heap.size + 3) (wcs R)
  bel : Below w.heap.size w u
theorem Fr33.drew {w u : World} {N M P R : Nat} (h : Fr33 w N M P R u) : Fr33 w N M P R u.drew := ⟨h.a.drew, h.b.drew, h.c.drew, h.r.drew, h.bel.drew⟩
theorem Fr33.alloc {w u : World} {N M P R : Nat} (h : Fr33 w N M P R u) (hs : w.heap.size ≤ u.heap.size) (o : Obj) : Fr33 w N M P R (u.alloc o) := ⟨h.a.alloc o, h.b.alloc o, h.c.alloc o, h.r.alloc o, h.bel.alloc hs o⟩
theorem Fr33.kept {w u u' : World} {N M P R : Nat} (h : Fr33 w N M P R u) (hb : Below u.heap.size u u') : Fr33 w N M P R u' := ⟨h.a.kept hb, h.b.kept hb, h.c.kept hb, h.r.kept hb, h.bel.trans (hb.mono h.bel.size)⟩
theorem Fr33.put {w u u' : World} {N M P R R' : Nat} (h : Fr33 w N M P R u) (ho : Blk 24 u' (w.heap.size + 3) (wcs R')) (hb : Below (w.heap.size + 3) u u') (hr : u.grownBy u' (some (w.heap.size + 3))) : Fr33 w N M P R' u' :=
  ⟨h.a.grown hr (by simp), h.b.grown hr (by simp), h.c.grown hr (by simp), ho, h.bel.trans (hb.mono (by omega))⟩
theorem Fr33.far {w u u' : World} {N M P R g : Nat} (h : Fr33 w N M P R u) (hr : u.grownBy u' (some g)) (hb : Below g u u') (hg : w.heap.size + 4 ≤ g) : Fr33 w N M P R u' :=
  ⟨h.a.grown hr (by simp; omega), h.b.grown hr (by simp; omega), h.c.grown hr (by simp; omega), h.r.grown hr (by simp; omega), h.bel.trans (hb.mono (by omega))⟩
theorem Fr33.size {w u : World} {N M P R : Nat} (h : Fr33 w N M P R u) : w.heap.size + 4 ≤ u.heap.size := by have := h.r.lt; omega
theorem box33 (w : World) (N M P : Nat) : Fr33 w N M P 0 ((((w.alloc (.cells (wcs N).toArray 24)).alloc (.cells (wcs M).toArray 24)).alloc (.cells (wcs P).toArray 24)).alloc (.cells z4.toArray 24)) := by
  obtain ⟨h1, h2, h3⟩ := box2 w N M
  refine ⟨(h1.alloc _).alloc _, (h2.alloc _).alloc _, ?_, ?_, ((h3.alloc (by simp; omega) _).alloc (by simp; omega) _)⟩
  · have := Blk.new ((w.alloc (.cells (wcs N).toArray 24)).alloc (.cells (wcs M).toArray 24)) 24 (wcs P)
    simpa using this.alloc (.cells z4.toArray 24)
  · have := Blk.new (((w.alloc (.cells (wcs N).toArray 24)).alloc (.cells (wcs M).toArray 24)).alloc (.cells (wcs P).toArray 24)) 24 z4
    rw [z4_zero]; simpa using this
theorem rest_add (a b m : Nat) (ha : a < m) (hb : b < m) (hm : m < W256) : (b = 0 → addN a b = (a + b) % m) ∧ (a < subN m b → addN a b = (a + b) % m) ∧ (b ≠ 0 → ¬ a < subN m b → subN a (subN m b) = (a + b) % m) ∧ subN m b < W256 := by
  have h1 : subN m b = m - b := by unfold subN; rw [show m + W256 - b = (m - b) + W256 from by omega, Nat.add_mod_right, Nat.mod_eq_of_lt (by omega)]
  rw [h1]
  refine ⟨fun h => ?_, fun h => ?_, fun h h2 => ?_, by omega⟩
  · subst h; unfold addN; rw [Nat.add_zero, Nat.mod_eq_of_lt (by omega), Nat.mod_eq_of_lt ha]
  · unfold addN; rw [Nat.mod_eq_of_lt (by omega), Nat.mod_eq_of_lt (by omega)]
  · unfold subN
    rw [show a + W256 - (m - b) = (a + b - m) + W256 from by omega, Nat.add_mod_right, Nat.mod_eq_of_lt (by omega), Nat.mod_eq_sub_mod (by omega), Nat.mod_eq_of_lt (by omega)]
set_option maxHeartbeats 1000000 in
set_option maxRecDepth 100000 in
theorem addRest_any (N M P : Nat) (hN : N < P) (hM : M < P) (hP : P < W256) (w : World) :
    Calls Try.prog 73 #[wv N, wv M, wv P] w fun e w' => e = .returned (wv ((N + M) % P)) ∧ Below w.heap.size w w' := by
  obtain ⟨r1, r2, r3, r4⟩ := rest_add N M P hN hM hP
  have hF := box33 w N M P
  obtain ⟨w1, hw1⟩ : ∃ w1, w1 = (((w.alloc (.cells (wcs N).toArray 24)).alloc (.cells (wcs M).toArray 24)).alloc (.cells (wcs P).toArray 24)).alloc (.cells z4.toArray 24) := ⟨_, rfl⟩
  rw [← hw1] at hF
  have Hw1 := Lib.hid hw1
  show Calls Try.prog 73 #[.agg (wcs N).toArray, .agg (wcs M).toArray, .agg (wcs P).toArray] w _
  obtain ⟨L, hL⟩ : ∃ L, L = subN P M := ⟨_, rfl⟩
  have cL := fun w => wsub_l P M hP (by omega) w
  rw [← hL] at r2 r3 r4 cL
  obtain ⟨X, hX⟩ : ∃ X, X = (N + M) % P := ⟨_, rfl⟩
  rw [← hX] at r1 r2 r3 ⊢
  have hNW : N < W256 := by omega
  have hMW : M < W256 := by omega
  have hq := ne_zero M hMW
  have CL := Lib.hid cL
  clear cL hL hX hw1
  have key : ∀ (w5 : World), Fr33 w N M P 0 w5 → True := fun _ _ => trivial
  by_cases hM0 : M = 0
  · rw [decide_eq_true hM0] at hq
    have HX := Lib.hid (r1 hM0)
    clear r1 r2 r3 hM0 key
    go_enter Try.func73, Try.ntmps73
    go_wp2_with (first
      | (rw [show (((w.alloc (.cells (wcs N).toArray 24)).alloc (.cells (wcs M).toArray 24)).alloc (.cells (wcs P).toArray 24)).alloc (.cells #[.int .u64 0, .int .u64 0, .int .u64 0, .int .u64 0] 24) = w1 from by rw [Hw1.out]; rfl])
      | (refine wpList_loadA (o := ⟨some 8, _, _, _, _, _⟩) (by rfl) 24 (.tmp 5) (by rfl) (w.heap.size + 2) (by rfl) aggWord hF.c (wcs_len _) ?_)
      | (refine wpList_loadA (o := ⟨some 9, _, _, _, _, _⟩) (by rfl) 24 (.tmp 4) (by rfl) (w.heap.size + 1) (by rfl) aggWord hF.b (wcs_len _) ?_)
      | (go_at_call 91; (with_reducible refine (CL.out _).mono ?_); rintro e w2 ⟨rfl, b2⟩; have hF2 := hF.kept b2; have hs2 := hF2.size)
      | (refine wpList_storeA (by rfl) 24 (.tmp 7) (.tmp 10) (by rfl) (w2.heap.size) (wcs (L)) (by rfl) (by rfl) aggWord (Blk.new w2 24 z4) (wcs_len _) (by first | exact wcs_len _ | rfl) (wcs_one _) (Below.refl _ _) (Nat.le_refl _) ?_; intro w3 o3 b3 g3; have hF3 := (hF2.alloc (by omega) (.cells z4.toArray 24)).far g3 b3 (by omega))
      | (refine wpList_loadA (o := ⟨some 11, _, _, _, _, _⟩) (by rfl) 24 (.tmp 4) (by rfl) (w.heap.size + 1) (by rfl) aggWord hF3.b (wcs_len _) ?_)
      | (refine wpList_loadA (o := ⟨some 23, _, _, _, _, _⟩) (by rfl) 24 (.tmp 3) (by rfl) (w.heap.size) (by rfl) aggWord hF3.a (wcs_len _) ?_)
      | (refine wpList_loadA (o := ⟨some 24, _, _, _, _, _⟩) (by rfl) 24 (.tmp 4) (by rfl) (w.heap.size + 1) (by rfl) aggWord hF3.b (wcs_len _) ?_)
      | (go_at_call 115; (with_reducible refine (wadd_l N M _).mono ?_); rintro e w6 ⟨rfl, b6⟩; rw [HX.out]; have hF6 := hF3.kept b6)
      | (refine wpList_storeA (by rfl) 24 (.tmp 6) (.tmp 25) (by rfl) (w.heap.size + 3) (wcs (X)) (by rfl) (by rfl) aggWord hF6.r (wcs_len _) (by first | exact wcs_len _ | rfl) (wcs_one _) (Below.refl _ _) (Nat.le_refl _) ?_; intro w7 o7 b7 g7; have hF7 := hF6.put o7 b7 g7))
    exact bodyPost_ret (results_blk rfl _ _ (w.heap.size + 3) aggWord hF7.r (wcs_len _) rfl) rfl ⟨rfl, hF7.bel⟩
  · rw [decide_eq_false hM0] at hq
    by_cases hlt : N < L
    · have HX := Lib.hid (r2 hlt)
      have HD := Lib.hid (decide_eq_true hlt)
      clear r1 r2 r3 hM0 key hlt
      go_enter Try.func73, Try.ntmps73
      go_wp2_with (first
        | (rw [show (((w.alloc (.cells (wcs N).toArray 24)).alloc (.cells (wcs M).toArray 24)).alloc (.cells (wcs P).toArray 24)).alloc (.cells #[.int .u64 0, .int .u64 0, .int .u64 0, .int .u64 0] 24) = w1 from by rw [Hw1.out]; rfl])
        | (refine wpList_loadA (o := ⟨some 8, _, _, _, _, _⟩) (by rfl) 24 (.tmp 5) (by rfl) (w.heap.size + 2) (by rfl) aggWord hF.c (wcs_len _) ?_)
        | (refine wpList_loadA (o := ⟨some 9, _, _, _, _, _⟩) (by rfl) 24 (.tmp 4) (by rfl) (w.heap.size + 1) (by rfl) aggWord hF.b (wcs_len _) ?_)
        | (go_at_call 91; (with_reducible refine (CL.out _).mono ?_); rintro e w2 ⟨rfl, b2⟩; have hF2 := hF.kept b2; have hs2 := hF2.size)
        | (refine wpList_storeA (by rfl) 24 (.tmp 7) (.tmp 10) (by rfl) (w2.heap.size) (wcs (L)) (by rfl) (by rfl) aggWord (Blk.new w2 24 z4) (wcs_len _) (by first | exact wcs_len _ | rfl) (wcs_one _) (Below.refl _ _) (Nat.le_refl _) ?_; intro w3 o3 b3 g3; have hF3 := (hF2.alloc (by omega) (.cells z4.toArray 24)).far g3 b3 (by omega); have k0 := hF3.a.wat 0 (by omega); have k1 := hF3.a.wat 1 (by omega); have k2 := hF3.a.wat 2 (by omega); have k3 := hF3.a.wat 3 (by omega); have m0 := o3.wat 0 (by omega); have m1 := o3.wat 1 (by omega); have m2 := o3.wat 2 (by omega); have m3 := o3.wat 3 (by omega))
        | (refine wpList_loadA (o := ⟨some 11, _, _, _, _, _⟩) (by rfl) 24 (.tmp 4) (by rfl) (w.heap.size + 1) (by rfl) aggWord hF3.b (wcs_len _) ?_)
        | (go_at_call 83; refine (less_any N L hNW r4 _).mono ?_; rw [HD.out]; rintro e w4 ⟨rfl, b4⟩; have hF4 := hF3.kept b4)
        | (refine wpList_loadA (o := ⟨some 23, _, _, _, _, _⟩) (by rfl) 24 (.tmp 3) (by rfl) (w.heap.size) (by rfl) aggWord hF4.a (wcs_len _) ?_)
        | (refine wpList_loadA (o := ⟨some 24, _, _, _, _, _⟩) (by rfl) 24 (.tmp 4) (by rfl) (w.heap.size + 1) (by rfl) aggWord hF4.b (wcs_len _) ?_)
        | (go_at_call 115; (with_reducible refine (wadd_l N M _).mono ?_); rintro e w6 ⟨rfl, b6⟩; rw [HX.out]; have hF6 := hF4.kept b6)
        | (refine wpList_storeA (by rfl) 24 (.tmp 6) (.tmp 25) (by rfl) (w.heap.size + 3) (wcs (X)) (by rfl) (by rfl) aggWord hF6.r (wcs_len _) (by first | exact wcs_len _ | rfl) (wcs_one _) (Below.refl _ _) (Nat.le_refl _) ?_; intro w7 o7 b7 g7; have hF7 := hF6.put o7 b7 g7))
      exact bodyPost_ret (results_blk rfl _ _ (w.heap.size + 3) aggWord hF7.r (wcs_len _) rfl) rfl ⟨rfl, hF7.bel⟩
    · have HX := Lib.hid (r3 hM0 hlt)
      have HD := Lib.hid (decide_eq_false hlt)
      clear r1 r2 r3 hM0 key hlt
      go_enter Try.func73, Try.ntmps73
      go_wp2_with (first
        | (rw [show (((w.alloc (.cells (wcs N).toArray 24)).alloc (.cells (wcs M).toArray 24)).alloc (.cells (wcs P).toArray 24)).alloc (.cells #[.int .u64 0, .int .u64 0, .int .u64 0, .int .u64 0] 24) = w1 from by rw [Hw1.out]; rfl])
        | (refine wpList_loadA (o := ⟨some 8, _, _, _, _, _⟩) (by rfl) 24 (.tmp 5) (by rfl) (w.heap.size + 2) (by rfl) aggWord hF.c (wcs_len _) ?_)
        | (refine wpList_loadA (o := ⟨some 9, _, _, _, _, _⟩) (by rfl) 24 (.tmp 4) (by rfl) (w.heap.size + 1) (by rfl) aggWord hF.b (wcs_len _) ?_)
        | (go_at_call 91; (with_reducible refine (CL.out _).mono ?_); rintro e w2 ⟨rfl, b2⟩; have hF2 := hF.kept b2; have hs2 := hF2.size)
        | (refine wpList_storeA (by rfl) 24 (.tmp 7) (.tmp 10) (by rfl) (w2.heap.size) (wcs (L)) (by rfl) (by rfl) aggWord (Blk.new w2 24 z4) (wcs_len _) (by first | exact wcs_len _ | rfl) (wcs_one _) (Below.refl _ _) (Nat.le_refl _) ?_; intro w3 o3 b3 g3; have hF3 := (hF2.alloc (by omega) (.cells z4.toArray 24)).far g3 b3 (by omega); have k0 := hF3.a.wat 0 (by omega); have k1 := hF3.a.wat 1 (by omega); have k2 := hF3.a.wat 2 (by omega); have k3 := hF3.a.wat 3 (by omega); have m0 := o3.wat 0 (by omega); have m1 := o3.wat 1 (by omega); have m2 := o3.wat 2 (by omega); have m3 := o3.wat 3 (by omega))
        | (refine wpList_loadA (o := ⟨some 11, _, _, _, _, _⟩) (by rfl) 24 (.tmp 4) (by rfl) (w.heap.size + 1) (by rfl) aggWord hF3.b (wcs_len _) ?_)
        | (go_at_call 83; refine (less_any N L hNW r4 _).mono ?_; rw [HD.out]; rintro e w4 ⟨rfl, b4⟩; have hF4 := hF3.kept b4; have o4 := o3.kept b4)
        | (refine wpList_loadA (o := ⟨some 20, _, _, _, _, _⟩) (by rfl) 24 (.tmp 3) (by rfl) (w.heap.size) (by rfl) aggWord hF4.a (wcs_len _) ?_)
        | (refine wpList_loadA (o := ⟨some 21, _, _, _, _, _⟩) (by rfl) 24 (.tmp 7) (by rfl) (w2.heap.size) (by rfl) aggWord o4 (wcs_len _) ?_)
        | (go_at_call 91; (with_reducible refine (wsub_l N L hNW r4 _).mono ?_); rintro e w6 ⟨rfl, b6⟩; rw [HX.out]; have hF6 := hF4.kept b6)
        | (refine wpList_storeA (by rfl) 24 (.tmp 6) (.tmp 22) (by rfl) (w.heap.size + 3) (wcs (X)) (by rfl) (by rfl) aggWord hF6.r (wcs_len _) (by first | exact wcs_len _ | rfl) (wcs_one _) (Below.refl _ _) (Nat.le_refl _) ?_; intro w7 o7 b7 g7; have hF7 := hF6.put o7 b7 g7))
      exact bodyPost_ret (results_blk rfl _ _ (w.heap.size + 3) aggWord hF7.r (wcs_len _) rfl) rfl ⟨rfl, hF7.bel⟩
theorem addRest_l (N M P : Nat) (hN : N < P) (hM : M < P) (hP : P < W256) (w : World) :
    Calls Try.prog 73 #[.agg (wcs N).toArray, .agg (wcs M).toArray, .agg (wcs P).toArray] w fun e w' => e = .returned (.agg (wcs ((N + M) % P)).toArray) ∧ Below w.heap.size w w' := addRest_any N M P hN hM hP w
theorem wdivmod_l (N M : Nat) (hN : N < W256) (hM : M < W256) (w : World) : Calls Try.prog 68 #[.agg (wcs N).toArray, .agg (wcs M).toArray] w fun e w' => e = .returned (.tuple #[.agg (wcs (N / M)).toArray, .agg (wcs (modN N M)).toArray]) ∧ Below w.heap.size w w' := wdivmod_any N M hN hM w
end Go.Proofs.Ytgmdbleeagfhpaa
