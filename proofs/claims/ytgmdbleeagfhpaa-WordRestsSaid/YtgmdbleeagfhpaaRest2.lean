/- The reference's WAddMod and WMulMod. Printed by gen_rest2.py. -/
import Derived.Test.YtgmdbleeagfhpaaRest1
set_option linter.unusedSimpArgs false
set_option linter.unusedVariables false
namespace Go.Proofs.Ytgmdbleeagfhpaa
open Go.RowKit
structure FrM (w : World) (N M P gx x g o : Nat) (u : World) : Prop where
  f : Fr33 w N M P 0 u
  x : Blk 24 u gx (wcs x)
  o : Blk 24 u g (wcs o)
theorem FrM.kept {w u u' : World} {N M P gx x g o : Nat} (h : FrM w N M P gx x g o u) (hb : Below u.heap.size u u') : FrM w N M P gx x g o u' := ⟨h.f.kept hb, h.x.kept hb, h.o.kept hb⟩
theorem FrM.put {w u u' : World} {N M P gx x g o o' : Nat} (h : FrM w N M P gx x g o u) (hx : gx < g) (hg : w.heap.size + 4 ≤ g) (ho : Blk 24 u' g (wcs o')) (hb : Below g u u') (hr : u.grownBy u' (some g)) : FrM w N M P gx x g o' u' :=
  ⟨h.f.far hr hb hg, h.x.grown hr (by simp; omega), ho⟩
theorem rest_dbl (N K P : Nat) : (N * K % P + N * K % P) % P = N * (2 * K) % P := by
  rw [← Nat.add_mod, show N * (2 * K) = N * K + N * K from by rw [← Nat.mul_assoc, Nat.mul_comm N 2, Nat.mul_assoc]; omega]
theorem rest_one (N K P : Nat) : (N * K % P + N % P) % P = N * (K + 1) % P := by
  rw [← Nat.add_mod, Nat.mul_add, Nat.mul_one]
theorem modN_pos {N P : Nat} (h : 0 < P) : modN N P = N % P := if_neg (by omega)
set_option maxHeartbeats 1000000 in
set_option maxRecDepth 100000 in
theorem waddmod_any (N M P : Nat) (hN : N < W256) (hM : M < W256) (hP : P < W256) (w : World) :
    Calls Try.prog 20 #[wv N, wv M, wv P] w fun e w' => e = .returned (wv (modN (N + M) P)) ∧ Below w.heap.size w w' := by
  have hF := box33 w N M P
  obtain ⟨w1, hw1⟩ : ∃ w1, w1 = (((w.alloc (.cells (wcs N).toArray 24)).alloc (.cells (wcs M).toArray 24)).alloc (.cells (wcs P).toArray 24)).alloc (.cells z4.toArray 24) := ⟨_, rfl⟩
  rw [← hw1] at hF
  have Hw1 := Lib.hid hw1
  show Calls Try.prog 20 #[.agg (wcs N).toArray, .agg (wcs M).toArray, .agg (wcs P).toArray] w _
  have hq := eq_zero P hP
  clear hw1
  by_cases hP0 : P = 0
  · rw [decide_eq_true hP0] at hq
    have HS := Lib.hid (show modN (N + M) P = P from by unfold modN; rw [if_pos hP0, hP0])
    clear hP0
    go_enter Try.func20, Try.ntmps20
    go_wp2_with (first
      | (rw [show (((w.alloc (.cells (wcs N).toArray 24)).alloc (.cells (wcs M).toArray 24)).alloc (.cells (wcs P).toArray 24)).alloc (.cells #[.int .u64 0, .int .u64 0, .int .u64 0, .int .u64 0] 24) = w1 from by rw [Hw1.out]; rfl])
      | (refine wpList_loadA (o := ⟨some 11, _, _, _, _, _⟩) (by rfl) 24 (.tmp 5) (by rfl) (w.heap.size + 2) (by rfl) aggWord hF.c (wcs_len _) ?_)
      | (refine wpList_loadA (o := ⟨some 14, _, _, _, _, _⟩) (by rfl) 24 (.tmp 5) (by rfl) (w.heap.size + 2) (by rfl) aggWord hF.c (wcs_len _) ?_)
      | (refine wpList_storeA (by rfl) 24 (.tmp 6) (.tmp 14) (by rfl) (w.heap.size + 3) (wcs (P)) (by rfl) (by rfl) aggWord hF.r (wcs_len _) (by first | exact wcs_len _ | rfl) (wcs_one _) (Below.refl _ _) (Nat.le_refl _) ?_; intro w7 o7 b7 g7; have hF7 := hF.put o7 b7 g7))
    exact bodyPost_ret (results_blk rfl _ _ (w.heap.size + 3) aggWord hF7.r (wcs_len _) rfl) rfl ⟨by rw [HS.out]; rfl, hF7.bel⟩
  · rw [decide_eq_false hP0] at hq
    have hpos : 0 < P := Nat.pos_of_ne_zero hP0
    have hS : modN (N + M) P = (N + M) % P := if_neg hP0
    rw [hS]
    clear hS
    have hx := Nat.mod_lt N hpos
    have hy := Nat.mod_lt M hpos
    have m1 := modN_pos (N := N) hpos
    have m2 := modN_pos (N := M) hpos
    have hfin : (modN N P + modN M P) % P = (N + M) % P := by rw [m1, m2, ← Nat.add_mod]
    rw [← m1] at hx
    rw [← m2] at hy
    have HF := Lib.hid hfin
    clear hP0 hpos m1 m2 hfin
    go_enter Try.func20, Try.ntmps20
    go_wp2_with (first
      | (rw [show (((w.alloc (.cells (wcs N).toArray 24)).alloc (.cells (wcs M).toArray 24)).alloc (.cells (wcs P).toArray 24)).alloc (.cells #[.int .u64 0, .int .u64 0, .int .u64 0, .int .u64 0] 24) = w1 from by rw [Hw1.out]; rfl])
      | (refine wpList_loadA (o := ⟨some 11, _, _, _, _, _⟩) (by rfl) 24 (.tmp 5) (by rfl) (w.heap.size + 2) (by rfl) aggWord hF.c (wcs_len _) ?_)
      | (refine wpList_loadA (o := ⟨some 16, _, _, _, _, _⟩) (by rfl) 24 (.tmp 3) (by rfl) (w.heap.size) (by rfl) aggWord hF.a (wcs_len _) ?_)
      | (refine wpList_loadA (o := ⟨some 17, _, _, _, _, _⟩) (by rfl) 24 (.tmp 5) (by rfl) (w.heap.size + 2) (by rfl) aggWord hF.c (wcs_len _) ?_)
      | (go_at_call 68; (with_reducible refine (wdivmod_l N P hN hP _).mono ?_); rintro e x2 ⟨rfl, bx2⟩; have Fx2 := hF.kept bx2; have sx2 := Fx2.size)
      | (refine wpList_storeA (by rfl) 24 (.tmp 7) (.tmp 19) (by rfl) (x2.heap.size) (wcs (N / P)) (by rfl) (by rfl) aggWord ((Blk.new x2 24 z4).alloc (.cells z4.toArray 24)) (wcs_len _) (by first | exact wcs_len _ | rfl) (wcs_one _) (Below.refl _ _) (Nat.le_refl _) ?_; intro x3 ox3 bx3 gx3; have xx3 : Below x2.heap.size x2 x3 := (((Below.refl _ x2).alloc (Nat.le_refl _) (.cells z4.toArray 24)).alloc (by simp) (.cells z4.toArray 24)).trans bx3; have Fx3 := Fx2.kept xx3; have rx3 := (Blk.new (x2.alloc (.cells z4.toArray 24)) 24 z4).grown gx3 (by simp))
      | (refine wpList_storeA (by rfl) 24 (.tmp 8) (.tmp 20) (by rfl) (x2.heap.size + 1) (wcs (modN N P)) (by rfl) (by rfl) aggWord (by simpa using rx3) (wcs_len _) (by first | exact wcs_len _ | rfl) (wcs_one _) (Below.refl _ _) (Nat.le_refl _) ?_; intro x4 ox4 bx4 gx4; have Fx4 := Fx3.far gx4 bx4 (by omega))
      | (refine wpList_loadA (o := ⟨some 22, _, _, _, _, _⟩) (by rfl) 24 (.tmp 4) (by rfl) (w.heap.size + 1) (by rfl) aggWord Fx4.b (wcs_len _) ?_)
      | (refine wpList_loadA (o := ⟨some 23, _, _, _, _, _⟩) (by rfl) 24 (.tmp 5) (by rfl) (w.heap.size + 2) (by rfl) aggWord Fx4.c (wcs_len _) ?_)
      | (go_at_call 68; (with_reducible refine (wdivmod_l M P hM hP _).mono ?_); rintro e y2 ⟨rfl, by2⟩; have Fy2 := Fx4.kept by2; have sy2 := Fy2.size; have Xy2 := ox4.kept by2)
      | (refine wpList_storeA (by rfl) 24 (.tmp 9) (.tmp 25) (by rfl) (y2.heap.size) (wcs (M / P)) (by rfl) (by rfl) aggWord ((Blk.new y2 24 z4).alloc (.cells z4.toArray 24)) (wcs_len _) (by first | exact wcs_len _ | rfl) (wcs_one _) (Below.refl _ _) (Nat.le_refl _) ?_; intro y3 oy3 by3 gy3; have xy3 : Below y2.heap.size y2 y3 := (((Below.refl _ y2).alloc (Nat.le_refl _) (.cells z4.toArray 24)).alloc (by simp) (.cells z4.toArray 24)).trans by3; have Fy3 := Fy2.kept xy3; have ry3 := (Blk.new (y2.alloc (.cells z4.toArray 24)) 24 z4).grown gy3 (by simp); have Xy3 := Xy2.kept xy3)
      | (refine wpList_storeA (by rfl) 24 (.tmp 10) (.tmp 26) (by rfl) (y2.heap.size + 1) (wcs (modN M P)) (by rfl) (by rfl) aggWord (by simpa using ry3) (wcs_len _) (by first | exact wcs_len _ | rfl) (wcs_one _) (Below.refl _ _) (Nat.le_refl _) ?_; intro y4 oy4 by4 gy4; have Fy4 := Fy3.far gy4 by4 (by omega); have Xy4 := Xy3.grown gy4 (by have := Xy2.lt; simp; omega))
      | (refine wpList_loadA (o := ⟨some 27, _, _, _, _, _⟩) (by rfl) 24 (.tmp 8) (by rfl) (x2.heap.size + 1) (by rfl) aggWord Xy4 (wcs_len _) ?_)
      | (refine wpList_loadA (o := ⟨some 28, _, _, _, _, _⟩) (by rfl) 24 (.tmp 10) (by rfl) (y2.heap.size + 1) (by rfl) aggWord oy4 (wcs_len _) ?_)
      | (refine wpList_loadA (o := ⟨some 29, _, _, _, _, _⟩) (by rfl) 24 (.tmp 5) (by rfl) (w.heap.size + 2) (by rfl) aggWord Fy4.c (wcs_len _) ?_)
      | (go_at_call 73; (with_reducible refine (addRest_l (modN N P) (modN M P) P hx hy hP _).mono ?_); rintro e z2 ⟨rfl, bz2⟩; rw [HF.out]; have Fz2 := Fy4.kept bz2)
      | (refine wpList_storeA (by rfl) 24 (.tmp 6) (.tmp 30) (by rfl) (w.heap.size + 3) (wcs ((N + M) % P)) (by rfl) (by rfl) aggWord Fz2.r (wcs_len _) (by first | exact wcs_len _ | rfl) (wcs_one _) (Below.refl _ _) (Nat.le_refl _) ?_; intro z3 oz3 bz3 gz3; have Fz3 := Fz2.put oz3 bz3 gz3))
    exact bodyPost_ret (results_blk rfl _ _ (w.heap.size + 3) aggWord Fz3.r (wcs_len _) rfl) rfl ⟨rfl, Fz3.bel⟩
set_option maxHeartbeats 1000000 in
set_option maxRecDepth 100000 in
theorem wmulmod_any (N M P : Nat) (hN : N < W256) (hM : M < W256) (hP : P < W256) (w : World) :
    Calls Try.prog 22 #[wv N, wv M, wv P] w fun e w' => e = .returned (wv (modN (N * M) P)) ∧ Below w.heap.size w w' := by
  have hF := box33 w N M P
  obtain ⟨w1, hw1⟩ : ∃ w1, w1 = (((w.alloc (.cells (wcs N).toArray 24)).alloc (.cells (wcs M).toArray 24)).alloc (.cells (wcs P).toArray 24)).alloc (.cells z4.toArray 24) := ⟨_, rfl⟩
  rw [← hw1] at hF
  have Hw1 := Lib.hid hw1
  show Calls Try.prog 22 #[.agg (wcs N).toArray, .agg (wcs M).toArray, .agg (wcs P).toArray] w _
  have hq := eq_zero P hP
  clear hw1
  by_cases hP0 : P = 0
  · rw [decide_eq_true hP0] at hq
    have HS := Lib.hid (show modN (N * M) P = P from by unfold modN; rw [if_pos hP0, hP0])
    clear hP0
    go_enter Try.func22, Try.ntmps22
    go_wp2_with (first
      | (rw [show (((w.alloc (.cells (wcs N).toArray 24)).alloc (.cells (wcs M).toArray 24)).alloc (.cells (wcs P).toArray 24)).alloc (.cells #[.int .u64 0, .int .u64 0, .int .u64 0, .int .u64 0] 24) = w1 from by rw [Hw1.out]; rfl])
      | (refine wpList_loadA (o := ⟨some 11, _, _, _, _, _⟩) (by rfl) 24 (.tmp 5) (by rfl) (w.heap.size + 2) (by rfl) aggWord hF.c (wcs_len _) ?_)
      | (refine wpList_loadA (o := ⟨some 14, _, _, _, _, _⟩) (by rfl) 24 (.tmp 5) (by rfl) (w.heap.size + 2) (by rfl) aggWord hF.c (wcs_len _) ?_)
      | (refine wpList_storeA (by rfl) 24 (.tmp 6) (.tmp 14) (by rfl) (w.heap.size + 3) (wcs (P)) (by rfl) (by rfl) aggWord hF.r (wcs_len _) (by first | exact wcs_len _ | rfl) (wcs_one _) (Below.refl _ _) (Nat.le_refl _) ?_; intro w7 o7 b7 g7; have hF7 := hF.put o7 b7 g7))
    exact bodyPost_ret (results_blk rfl _ _ (w.heap.size + 3) aggWord hF7.r (wcs_len _) rfl) rfl ⟨by rw [HS.out]; rfl, hF7.bel⟩
  · rw [decide_eq_false hP0] at hq
    have hpos : 0 < P := Nat.pos_of_ne_zero hP0
    have hS : modN (N * M) P = (N * M) % P := if_neg hP0
    rw [hS]
    clear hS
    have hx := Nat.mod_lt N hpos
    have m1 := modN_pos (N := N) hpos
    have hs1 : w1.heap.size = w.heap.size + 4 := by rw [Hw1.out]; simp
    rw [← m1] at hx
    have Hm1 := Lib.hid m1
    clear hP0 m1 hs1
    go_enter Try.func22, Try.ntmps22
    go_wp2_with (first
      | (rw [show (((w.alloc (.cells (wcs N).toArray 24)).alloc (.cells (wcs M).toArray 24)).alloc (.cells (wcs P).toArray 24)).alloc (.cells #[.int .u64 0, .int .u64 0, .int .u64 0, .int .u64 0] 24) = w1 from by rw [Hw1.out]; rfl])
      | (refine wpList_loadA (o := ⟨some 11, _, _, _, _, _⟩) (by rfl) 24 (.tmp 5) (by rfl) (w.heap.size + 2) (by rfl) aggWord hF.c (wcs_len _) ?_)
      | (refine wpList_loadA (o := ⟨some 16, _, _, _, _, _⟩) (by rfl) 24 (.tmp 3) (by rfl) (w.heap.size) (by rfl) aggWord hF.a (wcs_len _) ?_)
      | (refine wpList_loadA (o := ⟨some 17, _, _, _, _, _⟩) (by rfl) 24 (.tmp 5) (by rfl) (w.heap.size + 2) (by rfl) aggWord hF.c (wcs_len _) ?_)
      | (go_at_call 68; (with_reducible refine (wdivmod_l N P hN hP _).mono ?_); rintro e x2 ⟨rfl, bx2⟩; have Fx2 := hF.kept bx2; have sx2 := Fx2.size)
      | (refine wpList_storeA (by rfl) 24 (.tmp 7) (.tmp 19) (by rfl) (x2.heap.size) (wcs (N / P)) (by rfl) (by rfl) aggWord ((Blk.new x2 24 z4).alloc (.cells z4.toArray 24)) (wcs_len _) (by first | exact wcs_len _ | rfl) (wcs_one _) (Below.refl _ _) (Nat.le_refl _) ?_; intro x3 ox3 bx3 gx3; have xx3 : Below x2.heap.size x2 x3 := (((Below.refl _ x2).alloc (Nat.le_refl _) (.cells z4.toArray 24)).alloc (by simp) (.cells z4.toArray 24)).trans bx3; have Fx3 := Fx2.kept xx3; have rx3 := (Blk.new (x2.alloc (.cells z4.toArray 24)) 24 z4).grown gx3 (by simp))
      | (refine wpList_storeA (by rfl) 24 (.tmp 8) (.tmp 20) (by rfl) (x2.heap.size + 1) (wcs (modN N P)) (by rfl) (by rfl) aggWord (by simpa using rx3) (wcs_len _) (by first | exact wcs_len _ | rfl) (wcs_one _) (Below.refl _ _) (Nat.le_refl _) ?_; intro x4 ox4 bx4 gx4; have Fx4 := Fx3.far gx4 bx4 (by omega)))
    have Z0 := Blk.new x4 24 z4
    have X0 := ox4.alloc (.cells z4.toArray 24)
    have hx4 := Fx4.size
    have F0 := Fx4.alloc (by omega) (.cells z4.toArray 24)
    obtain ⟨g, hg⟩ : ∃ g, g = x4.heap.size := ⟨_, rfl⟩
    obtain ⟨u, hu⟩ : ∃ u, u = x4.alloc (.cells z4.toArray 24) := ⟨_, rfl⟩
    have hu0 := hu
    have hg0 := hg
    rw [← hu] at Z0 X0 F0
    rw [← hg] at Z0
    have hgx : x2.heap.size + 1 < g := by rw [hg]; exact ox4.lt
    have hgw : w.heap.size + 4 ≤ g := by omega
    rw [← z4_zero] at Z0
    have HM0 := Lib.hid (show FrM w N M P (x2.heap.size + 1) (modN N P) g 0 u from ⟨F0, X0, Z0⟩)
    clear Z0 X0 F0 hx4 hu hg
    rw [show x4.alloc (.cells #[.int .u64 0, .int .u64 0, .int .u64 0, .int .u64 0] 24) = u from hu0.symm]
    rw [show x4.heap.size = g from hg0.symm]
    clear hu0 hg0
    generalize x2.heap.size = gx2 at *
    have Hgx := Lib.hid hgx
    have Hgw := Lib.hid hgw
    clear Fx2 sx2 Fx3 Fx4 ox3 bx3 gx3 ox4 bx4 gx4 rx3 bx2 xx3 hgx hgw hF
    go_wp2
    go_loopw [10] (fun i wr => ∃ q : Nat, q ≤ 256 ∧ i = .int .i64 ((q : Int) - 1) ∧ FrM w N M P (gx2 + 1) (modN N P) g (N * (M / 2 ^ q) % P) wr) (fun i _ => ((intOf i) + 1).toNat)
    case atStart => exact ⟨256, by omega, rfl, by rw [show M / 2 ^ 256 = 0 from Nat.div_eq_of_lt hM, Nat.mul_zero, Nat.zero_mod]; exact HM0.out⟩
    case round =>
      clear HM0
      obtain ⟨q, hq2, rfl, hG⟩ := hrel
      by_cases hlt : 1 ≤ q
      · obtain ⟨j, rfl⟩ : ∃ j, q = j + 1 := ⟨q - 1, by omega⟩
        have hj : ((j + 1 : Nat) : Int) - 1 = (j : Int) := by omega
        rw [hj]
        have hj2 : j < 256 := by omega
        have hstep := half_bit M j
        have hd1 := rest_dbl N (M / 2 ^ (j + 1)) P
        have hd2 := rest_one N (2 * (M / 2 ^ (j + 1))) P
        rw [← Hm1.out] at hd2
        have hXl : N * (M / 2 ^ (j + 1)) % P < P := Nat.mod_lt _ (by omega)
        have hYl : N * (2 * (M / 2 ^ (j + 1))) % P < P := Nat.mod_lt _ (by omega)
        obtain ⟨X, hX⟩ : ∃ X, X = N * (M / 2 ^ (j + 1)) % P := ⟨_, rfl⟩
        obtain ⟨Y, hY⟩ : ∃ Y, Y = N * (2 * (M / 2 ^ (j + 1))) % P := ⟨_, rfl⟩
        rw [← hX] at hG hd1 hXl
        rw [← hY] at hd1 hd2 hYl
        have Hst := Lib.hid hstep
        have HXY := Lib.hid hd1
        have Hd2 := Lib.hid hd2
        have HY := Lib.hid hY
        clear hstep hd1 hd2 hX hY hj hq2 hlt
        cases hbit : M.testBit j with
        | true =>
          go_wp2_with (first
            | (refine wpList_loadA (o := ⟨some 25, _, _, _, _, _⟩) (by rfl) 24 (.tmp 9) (by rfl) (g) (by rfl) aggWord hG.o (wcs_len _) ?_)
            | (refine wpList_loadA (o := ⟨some 26, _, _, _, _, _⟩) (by rfl) 24 (.tmp 9) (by rfl) (g) (by rfl) aggWord hG.o (wcs_len _) ?_)
            | (refine wpList_loadA (o := ⟨some 27, _, _, _, _, _⟩) (by rfl) 24 (.tmp 5) (by rfl) (w.heap.size + 2) (by rfl) aggWord hG.f.c (wcs_len _) ?_)
            | (go_at_call 73; (with_reducible refine (addRest_l X X P hXl hXl hP _).mono ?_); rintro e v3 ⟨rfl, c3⟩; rw [HXY.out]; have G3 := hG.kept c3)
            | (refine wpList_storeA (by rfl) 24 (.tmp 9) (.tmp 28) (by rfl) (g) (wcs (Y)) (by rfl) (by rfl) aggWord G3.o (wcs_len _) (by first | exact wcs_len _ | rfl) (wcs_one _) (Below.refl _ _) (Nat.le_refl _) ?_; intro v4 o4 c4 g4; have G4 := G3.put Hgx.out Hgw.out o4 c4 g4)
            | (refine wpList_loadA (o := ⟨some 29, _, _, _, _, _⟩) (by rfl) 24 (.tmp 4) (by rfl) (w.heap.size + 1) (by rfl) aggWord G4.f.b (wcs_len _) ?_)
            | (go_at_call 75; (with_reducible refine (wbit_l M j hj2 true hbit _).mono ?_); rintro e v5 ⟨rfl, c5⟩; have G5 := G4.kept c5)
            | (refine wpList_loadA (o := ⟨some 32, _, _, _, _, _⟩) (by rfl) 24 (.tmp 9) (by rfl) (g) (by rfl) aggWord G5.o (wcs_len _) ?_)
            | (refine wpList_loadA (o := ⟨some 33, _, _, _, _, _⟩) (by rfl) 24 (.tmp 8) (by rfl) (gx2 + 1) (by rfl) aggWord G5.x (wcs_len _) ?_)
            | (refine wpList_loadA (o := ⟨some 34, _, _, _, _, _⟩) (by rfl) 24 (.tmp 5) (by rfl) (w.heap.size + 2) (by rfl) aggWord G5.f.c (wcs_len _) ?_)
            | (go_at_call 73; (with_reducible refine (addRest_l Y (modN N P) P hYl hx hP _).mono ?_); rintro e v6 ⟨rfl, c6⟩; rw [Hd2.out]; have G6 := G5.kept c6)
            | (refine wpList_storeA (by rfl) 24 (.tmp 9) (.tmp 35) (by rfl) (g) (wcs (N * (2 * (M / 2 ^ (j + 1)) + 1) % P)) (by rfl) (by rfl) aggWord G6.o (wcs_len _) (by first | exact wcs_len _ | rfl) (wcs_one _) (Below.refl _ _) (Nat.le_refl _) ?_; intro v7 o7 c7 g7; have G7 := G6.put Hgx.out Hgw.out o7 c7 g7))
          go_roundw
          case rel => exact ⟨j, by omega, rfl, by rw [Hst.out, if_pos hbit]; exact G7⟩
          case measure => simp [intOf]
        | false =>
          go_wp2_with (first
            | (refine wpList_loadA (o := ⟨some 25, _, _, _, _, _⟩) (by rfl) 24 (.tmp 9) (by rfl) (g) (by rfl) aggWord hG.o (wcs_len _) ?_)
            | (refine wpList_loadA (o := ⟨some 26, _, _, _, _, _⟩) (by rfl) 24 (.tmp 9) (by rfl) (g) (by rfl) aggWord hG.o (wcs_len _) ?_)
            | (refine wpList_loadA (o := ⟨some 27, _, _, _, _, _⟩) (by rfl) 24 (.tmp 5) (by rfl) (w.heap.size + 2) (by rfl) aggWord hG.f.c (wcs_len _) ?_)
            | (go_at_call 73; (with_reducible refine (addRest_l X X P hXl hXl hP _).mono ?_); rintro e v3 ⟨rfl, c3⟩; rw [HXY.out]; have G3 := hG.kept c3)
            | (refine wpList_storeA (by rfl) 24 (.tmp 9) (.tmp 28) (by rfl) (g) (wcs (Y)) (by rfl) (by rfl) aggWord G3.o (wcs_len _) (by first | exact wcs_len _ | rfl) (wcs_one _) (Below.refl _ _) (Nat.le_refl _) ?_; intro v4 o4 c4 g4; have G4 := G3.put Hgx.out Hgw.out o4 c4 g4)
            | (refine wpList_loadA (o := ⟨some 29, _, _, _, _, _⟩) (by rfl) 24 (.tmp 4) (by rfl) (w.heap.size + 1) (by rfl) aggWord G4.f.b (wcs_len _) ?_)
            | (go_at_call 75; (with_reducible refine (wbit_l M j hj2 false hbit _).mono ?_); rintro e v5 ⟨rfl, c5⟩; have G5 := G4.kept c5))
          go_roundw
          case rel => exact ⟨j, by omega, rfl, by rw [Hst.out, hbit, if_neg (by simp)]; show FrM w N M P (gx2 + 1) (modN N P) g (N * (2 * (M / 2 ^ (j + 1))) % P) _; rw [← HY.out]; exact G5⟩
          case measure => simp [intOf]
      · obtain rfl : q = 0 := by omega
        rw [Nat.pow_zero, Nat.div_one] at hG
        go_wp2_with (first
          | (refine wpList_loadA (o := ⟨some 36, _, _, _, _, _⟩) (by rfl) 24 (.tmp 9) (by rfl) (g) (by rfl) aggWord hG.o (wcs_len _) ?_)
          | (refine wpList_storeA (by rfl) 24 (.tmp 6) (.tmp 36) (by rfl) (w.heap.size + 3) (wcs (N * M % P)) (by rfl) (by rfl) aggWord hG.f.r (wcs_len _) (by first | exact wcs_len _ | rfl) (wcs_one _) (Below.refl _ _) (Nat.le_refl _) ?_; intro v7 o7 c7 g7; have G7 := hG.f.put o7 c7 g7))
        exact bodyPost_ret (results_blk rfl _ _ (w.heap.size + 3) aggWord G7.r (wcs_len _) rfl) rfl ⟨rfl, G7.bel⟩
end Go.Proofs.Ytgmdbleeagfhpaa
