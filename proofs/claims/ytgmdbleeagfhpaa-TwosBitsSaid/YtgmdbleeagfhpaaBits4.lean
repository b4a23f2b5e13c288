/- The reference's TBits, walked. -/
import Derived.Test.YtgmdbleeagfhpaaBits3
import Derived.Test.YtgmdbleeagfhpaaTwosQ2
set_option linter.unusedSimpArgs false
set_option linter.unusedVariables false
namespace Go.Proofs.Ytgmdbleeagfhpaa
open Go.RowKit
theorem results_blk4 {P : Program} {fn : Func} {p1 p2 p3 p4 : Tmp} {t : TypeId} (h : fn.results = #[.cell p1 t, .cell p2 t, .cell p3 t, .cell p4 t]) (tmps : Array Value) (w : World) {g1 g2 g3 g4 n : Nat} (hty : Agg P t n) {e : TypeId} {c1 c2 c3 c4 : List Value}
    (hb1 : Blk e w g1 c1) (hb2 : Blk e w g2 c2) (hb3 : Blk e w g3 c3) (hb4 : Blk e w g4 c4) (hn1 : c1.length = n) (hn2 : c2.length = n) (hn3 : c3.length = n) (hn4 : c4.length = n)
    (hp1 : tmps.getD p1 undef = .pointer (some ⟨g1, 0, none⟩)) (hp2 : tmps.getD p2 undef = .pointer (some ⟨g2, 0, none⟩)) (hp3 : tmps.getD p3 undef = .pointer (some ⟨g3, 0, none⟩)) (hp4 : tmps.getD p4 undef = .pointer (some ⟨g4, 0, none⟩)) :
    (results fn tmps).run P w = .ok (.tuple #[.agg c1.toArray, .agg c2.toArray, .agg c3.toArray, .agg c4.toArray]) w := by
  obtain ⟨d, a1, a2, a3⟩ := hty
  have r1 := run_loadVar_row (P := P) w g1 e t c1.toArray (0, 0) d hb1 a1 (by cases d <;> simp_all) (by rw [a3]; simp [hn1])
  have r2 := run_loadVar_row (P := P) w g2 e t c2.toArray (0, 0) d hb2 a1 (by cases d <;> simp_all) (by rw [a3]; simp [hn2])
  have r3 := run_loadVar_row (P := P) w g3 e t c3.toArray (0, 0) d hb3 a1 (by cases d <;> simp_all) (by rw [a3]; simp [hn3])
  have r4 := run_loadVar_row (P := P) w g4 e t c4.toArray (0, 0) d hb4 a1 (by cases d <;> simp_all) (by rw [a3]; simp [hn4])
  rw [Array.getD_eq_getD_getElem?] at hp1 hp2 hp3 hp4
  simp only [results, h]
  simp [Sem.run_bind, Result.andThen, hp1, hp2, hp3, hp4, asAddr, r1, r2, r3, r4]
/-- The bits that are read, the results' blocks. -/
structure FrQ (w w2 : World) (N A gx ox gy oy : Nat) (u : World) : Prop where
  x : ∀ i, i < 256 → u.cell? ⟨gx, ox + i, none⟩ = some (.bool (N.testBit i))
  y : ∀ i, i < 256 → u.cell? ⟨gy, oy + i, none⟩ = some (.bool (A.testBit i))
  z1 : Blk 24 u (w.heap.size + 2) z4
  z2 : Blk 24 u (w.heap.size + 3) z4
  z3 : Blk 24 u (w.heap.size + 4) z4
  z4' : Blk 24 u (w.heap.size + 5) z4
  bel : Below w.heap.size w u
  sz : w2.heap.size ≤ u.heap.size
theorem FrQ.turn {w w2 u u' : World} {N A gx ox gy oy : Nat} {S : Nat → Option (List Value)} (h : FrQ w w2 N A gx ox gy oy u) (hr : (rowsLe S).r u u') (hw : w.heap.size + 6 ≤ w2.heap.size) (hx : gx < w2.heap.size) (hy : gy < w2.heap.size) (hS : ∀ g, g < w2.heap.size → S g = none) : FrQ w w2 N A gx ox gy oy u' :=
  ⟨fun i hi => rowsLe.cell hr (h.x i hi) (hS _ hx), fun i hi => rowsLe.cell hr (h.y i hi) (hS _ hy), rowsLe.blk hr h.z1 (hS _ (by omega)), rowsLe.blk hr h.z2 (hS _ (by omega)), rowsLe.blk hr h.z3 (hS _ (by omega)), rowsLe.blk hr h.z4' (hS _ (by omega)),
    rowsLe.bel hr h.bel (Nat.le_refl _) (fun g hg => hS g (by omega)), Nat.le_trans h.sz hr.2.2.2.1⟩
theorem bit_not (N i : Nat) (hN : N < W256) (hi : i < 256) : (notN N).testBit i = !N.testBit i := by
  unfold notN
  have := Nat.testBit_two_pow_sub_succ (x := N) (n := 256) hN i
  rw [show W256 - 1 - N = 2 ^ 256 - (N + 1) from by unfold W256; omega, this]
  simp [hi]
theorem and_lt (N A : Nat) (hN : N < W256) : N &&& A < W256 := Nat.and_lt_two_pow (n := 256) A hN |> fun h => by first | exact h | exact Nat.lt_of_le_of_lt (Nat.and_le_left) hN
theorem orN_lt (N A : Nat) (hN : N < W256) (hA : A < W256) : orN N A < W256 := Nat.or_lt_two_pow (n := 256) hN hA
theorem xor_lt (N A : Nat) (hN : N < W256) (hA : A < W256) : N ^^^ A < W256 := Nat.xor_lt_two_pow (n := 256) hN hA
theorem notN_lt (N : Nat) : notN N < W256 := by unfold notN W256; omega
set_option maxHeartbeats 4000000 in
set_option maxRecDepth 100000 in
theorem tbits_any (N A : Nat) (hN : N < W256) (hA : A < W256) (w : World) :
    Calls Try.prog 33 #[wv N, wv A] w fun e w' => e = .returned (.tuple #[wv (N &&& A), wv (orN N A), wv (N ^^^ A), wv (notN N)]) ∧ Below w.heap.size w w' := by
  obtain ⟨w1, hw1⟩ : ∃ w1, w1 = (((((w.alloc (.cells (wcs N).toArray 24)).alloc (.cells (wcs A).toArray 24)).alloc (.cells z4.toArray 24)).alloc (.cells z4.toArray 24)).alloc (.cells z4.toArray 24)).alloc (.cells z4.toArray 24) := ⟨_, rfl⟩
  obtain ⟨p0, p1, p2⟩ := box2 w N A
  have hb0 : Blk 24 w1 w.heap.size (wcs N) := by rw [hw1]; exact (((p0.alloc _).alloc _).alloc _).alloc _
  have hd0 : Blk 24 w1 (w.heap.size + 1) (wcs A) := by rw [hw1]; exact (((p1.alloc _).alloc _).alloc _).alloc _
  have y1 := Blk.new ((w.alloc (.cells (wcs N).toArray 24)).alloc (.cells (wcs A).toArray 24)) 24 z4
  have y2 := Blk.new (((w.alloc (.cells (wcs N).toArray 24)).alloc (.cells (wcs A).toArray 24)).alloc (.cells z4.toArray 24)) 24 z4
  have y3 := Blk.new ((((w.alloc (.cells (wcs N).toArray 24)).alloc (.cells (wcs A).toArray 24)).alloc (.cells z4.toArray 24)).alloc (.cells z4.toArray 24)) 24 z4
  have y4 := Blk.new (((((w.alloc (.cells (wcs N).toArray 24)).alloc (.cells (wcs A).toArray 24)).alloc (.cells z4.toArray 24)).alloc (.cells z4.toArray 24)).alloc (.cells z4.toArray 24)) 24 z4
  have hz1 : Blk 24 w1 (w.heap.size + 2) z4 := by rw [hw1]; exact ((show Blk 24 _ (w.heap.size + 2) z4 by simpa using y1).alloc _).alloc _ |>.alloc _
  have hz2 : Blk 24 w1 (w.heap.size + 3) z4 := by rw [hw1]; exact ((show Blk 24 _ (w.heap.size + 3) z4 by simpa using y2).alloc _).alloc _
  have hz3 : Blk 24 w1 (w.heap.size + 4) z4 := by rw [hw1]; exact (show Blk 24 _ (w.heap.size + 4) z4 by simpa using y3).alloc _
  have hz4 : Blk 24 w1 (w.heap.size + 5) z4 := by rw [hw1]; simpa using y4
  have hbel1 : Below w.heap.size w w1 := by rw [hw1]; exact (((p2.alloc (by simp; omega) _).alloc (by simp; omega) _).alloc (by simp; omega) _).alloc (by simp; omega) _
  have hsz1 : w1.heap.size = w.heap.size + 6 := by rw [hw1]; simp
  clear y1 y2 y3 y4 p0 p1 p2
  show Calls Try.prog 33 #[.agg (wcs N).toArray, .agg (wcs A).toArray] w _
  have k0 := fun u : Ext w1 => u.cell (hb0.wat 0 (by omega))
  have k1 := fun u : Ext w1 => u.cell (hb0.wat 1 (by omega))
  have k2 := fun u : Ext w1 => u.cell (hb0.wat 2 (by omega))
  have k3 := fun u : Ext w1 => u.cell (hb0.wat 3 (by omega))
  have m0 := fun u : Ext w1 => u.cell (hd0.wat 0 (by omega))
  have m1 := fun u : Ext w1 => u.cell (hd0.wat 1 (by omega))
  have m2 := fun u : Ext w1 => u.cell (hd0.wat 2 (by omega))
  have m3 := fun u : Ext w1 => u.cell (hd0.wat 3 (by omega))
  have Hw1 := Lib.hid hw1
  have Hsz1 := Lib.hid hsz1
  clear hw1 hsz1
  go_enter Try.func33, Try.ntmps33
  go_wp2
  rw [show (((((w.alloc (.cells (wcs N).toArray 24)).alloc (.cells (wcs A).toArray 24)).alloc (.cells #[.int .u64 0, .int .u64 0, .int .u64 0, .int .u64 0] 24)).alloc (.cells #[.int .u64 0, .int .u64 0, .int .u64 0, .int .u64 0] 24)).alloc (.cells #[.int .u64 0, .int .u64 0, .int .u64 0, .int .u64 0] 24)).alloc (.cells #[.int .u64 0, .int .u64 0, .int .u64 0, .int .u64 0] 24) = w1 from by rw [Hw1.out]; rfl]
  clear Hw1
  refine wp_region_typed w1 4 (by kernel_rfl) (by kernel_rfl) (Below.refl _ _) ?_; simp only [List.take_succ_cons, List.take_zero, List.take_nil]
  (refine wpX_step (by rfl) (fun K hK => ?_); go_simp; first | (refine hK _ ?_; clear hK K) | (apply Exists.intro; refine ⟨fun _ => ?_, hK _ ?_⟩; fail; clear hK K))
  refine wpX_rel 16 (BoolsAt 256 (bitsL N)) rfl (of_decide_eq_true rfl) (BoolsAt.mono _ _) (fun w3 hw3 => ?_) ?_
  · simp only [relOf, List.filter_nil, forallRel]
    refine ⟨rfl, ?_⟩
    go_simp
    exact bitsOf_at N _
  (refine wpX_step (by rfl) (fun K hK => ?_); go_simp; first | (refine hK _ ?_; clear hK K) | (apply Exists.intro; refine ⟨fun _ => ?_, hK _ ?_⟩; fail; clear hK K))
  refine wpX_rel 18 (BoolsAt 256 (bitsL A)) rfl (of_decide_eq_true rfl) (BoolsAt.mono _ _) (fun w3 hw3 => ?_) ?_
  · change forallRel w3 [] _ _
    simp only [forallRel]
    refine ⟨rfl, ?_⟩
    go_simp
    exact bitsOf_at A _
  refine wpX_nil ?_
  rintro w2 hw2 v16 ⟨ax, cx, rfl, hx⟩ v18 ⟨ay, cy, rfl, hy⟩
  change wpList _ _ _ [_, _] _ _
  obtain ⟨gx, ox, rfl, hc0⟩ := Bools.later hx (Below.refl _ _) 0 (by rw [bitsL_len]; omega)
  obtain ⟨gy, oy, rfl, hd1⟩ := Bools.later hy (Below.refl _ _) 0 (by rw [bitsL_len]; omega)
  have hgx : gx < w2.heap.size := World.block_lt_of_cell? w2 _ hc0
  have hgy : gy < w2.heap.size := World.block_lt_of_cell? w2 _ hd1
  have hcells : ∀ (M g o c : Nat), Bools w2 (.slice (some ⟨g, o, none⟩) 256 c) (bitsL M) → ∀ i, i < 256 → w2.cell? ⟨g, o + i, none⟩ = some (.bool (M.testBit i)) := by
    intro M g o c h i hi
    obtain ⟨b, off, e, hc⟩ := Bools.later h (Below.refl _ _) i (by rw [bitsL_len]; exact hi)
    simp only [Option.some.injEq, Addr.mk.injEq, and_true] at e
    obtain ⟨rfl, rfl⟩ := e
    rw [hc]
    simp [bitsL]
  have hw26 : w.heap.size + 6 ≤ w2.heap.size := by have := Hsz1.out; have := hw2.size; omega
  have hF0 : FrQ w w2 N A gx ox gy oy w2 := ⟨hcells N gx ox cx hx, hcells A gy oy cy hy, hz1.kept hw2, hz2.kept hw2, hz3.kept hw2, hz4.kept hw2, Below.then hbel1 hw2, Nat.le_refl _⟩
  obtain ⟨X1, hX1⟩ : ∃ X, X = N &&& A := ⟨_, rfl⟩
  obtain ⟨X2, hX2⟩ : ∃ X, X = orN N A := ⟨_, rfl⟩
  obtain ⟨X3, hX3⟩ : ∃ X, X = N ^^^ A := ⟨_, rfl⟩
  obtain ⟨X4, hX4⟩ : ∃ X, X = notN N := ⟨_, rfl⟩
  have t1 : ∀ i, X1.testBit i = (N.testBit i && A.testBit i) := fun i => by rw [hX1, Nat.testBit_and]
  have t2 : ∀ i, X2.testBit i = (N.testBit i || A.testBit i) := fun i => by rw [hX2]; unfold orN; rw [Nat.testBit_or]
  have t3 : ∀ i, X3.testBit i = (N.testBit i != A.testBit i) := fun i => by rw [hX3, Nat.testBit_xor]
  have t4 : ∀ i, i < 256 → X4.testBit i = !N.testBit i := fun i hi => by rw [hX4]; exact bit_not N i hN hi
  have f1 : ofT (bitsL X1) = N &&& A := by rw [ofT_bitsL X1 (by rw [hX1]; exact and_lt N A hN), hX1]
  have f2 : ofT (bitsL X2) = orN N A := by rw [ofT_bitsL X2 (by rw [hX2]; exact orN_lt N A hN hA), hX2]
  have f3 : ofT (bitsL X3) = N ^^^ A := by rw [ofT_bitsL X3 (by rw [hX3]; exact xor_lt N A hN hA), hX3]
  have f4 : ofT (bitsL X4) = notN N := by rw [ofT_bitsL X4 (by rw [hX4]; exact notN_lt N), hX4]
  have T1 := Lib.hid t1
  have T2 := Lib.hid t2
  have T3 := Lib.hid t3
  have T4 := Lib.hid t4
  have E1 := Lib.hid f1
  have E2 := Lib.hid f2
  have E3 := Lib.hid f3
  have E4 := Lib.hid f4
  clear t1 t2 t3 t4 f1 f2 f3 f4 hX1 hX2 hX3 hX4 hcells hx hy hc0 hd1 k0 k1 k2 k3 m0 m1 m2 m3 hz1 hz2 hz3 hz4 hb0 hd0 hbel1 hw2
  have hR0 : Rows4 w2.heap.size w2 (.slice none 0 0) (.slice none 0 0) (.slice none 0 0) (.slice none 0 0) [] [] [] [] :=
    ⟨OwnOf.nil _ _ _ _ _, OwnOf.nil _ _ _ _ _, OwnOf.nil _ _ _ _ _, OwnOf.nil _ _ _ _ _, (fun k h => by cases h), (fun k h => by cases h), (fun k h => by cases h), (fun k h => by cases h), (fun k h => by cases h), (fun k h => by cases h)⟩
  go_wp2
  go_loopw [10, 11, 12, 13, 21] (fun vp vq vr vs ix wr => ∃ i : Nat, i ≤ 256 ∧ ix = .int .i64 (i : Int) ∧ Rows4 w2.heap.size wr vp vq vr vs ((bitsL X1).take i) ((bitsL X2).take i) ((bitsL X3).take i) ((bitsL X4).take i) ∧ FrQ w w2 N A gx ox gy oy wr) (fun _ _ _ _ ix _ => 256 - (intOf ix).toNat)
  case atStart => exact ⟨0, by omega, rfl, hR0, hF0⟩
  case round =>
    clear hR0 hF0
    obtain ⟨i, hi, rfl, hR, hF⟩ := hrel
    by_cases hlt : i < 256
    · have hii : (i : Int) < 256 := by omega
      have hi256 : i < 256 := hlt
      have sn1 := bitsL_snoc X1 i hlt
      have sn2 := bitsL_snoc X2 i hlt
      have sn3 := bitsL_snoc X3 i hlt
      have sn4 := bitsL_snoc X4 i hlt
      rw [T1.out i] at sn1
      rw [T2.out i] at sn2
      rw [T3.out i] at sn3
      rw [T4.out i hlt] at sn4
      have ln := fun X : Nat => (show ((bitsL X).take i).length = i by rw [List.length_take, bitsL_len]; omega)
      have l1 := ln X1
      have l2 := ln X2
      have l3 := ln X3
      have l4 := ln X4
      obtain ⟨L1, hL1⟩ : ∃ L, L = (bitsL X1).take i := ⟨_, rfl⟩
      obtain ⟨L2, hL2⟩ : ∃ L, L = (bitsL X2).take i := ⟨_, rfl⟩
      obtain ⟨L3, hL3⟩ : ∃ L, L = (bitsL X3).take i := ⟨_, rfl⟩
      obtain ⟨L4, hL4⟩ : ∃ L, L = (bitsL X4).take i := ⟨_, rfl⟩
      rw [← hL1] at hR sn1 l1
      rw [← hL2] at hR sn2 l2
      rw [← hL3] at hR sn3 l3
      rw [← hL4] at hR sn4 l4
      obtain ⟨s1, s2, s3, s4, snew, sold⟩ := hR.S (lp' := L1 ++ [N.testBit i && A.testBit i]) (lq' := L2 ++ [N.testBit i || A.testBit i]) (lr' := L3 ++ [N.testBit i != A.testBit i]) (ls' := L4 ++ [!N.testBit i])
      obtain ⟨S, hS⟩ : ∃ S, S = tbS u10 u11 u12 u13 (L1 ++ [N.testBit i && A.testBit i]) (L2 ++ [N.testBit i || A.testBit i]) (L3 ++ [N.testBit i != A.testBit i]) (L4 ++ [!N.testBit i]) := ⟨_, rfl⟩
      rw [← hS] at s1 s2 s3 s4 snew sold
      have hsz := hF.sz
      have hxi := hF.x i hlt
      have hyi := hF.y i hlt
      have k0 := fun u : In ((rowsLe S).r wr) => rowsLe.cell u.held hxi (sold gx hgx)
      have k1 := fun u : In ((rowsLe S).r wr) => rowsLe.cell u.held hyi (sold gy hgy)
      have Hold := Lib.hid hR.old
      have L1n := Lib.hid l1
      have L2n := Lib.hid l2
      have L3n := Lib.hid l3
      have L4n := Lib.hid l4
      clear ln hL1 hL2 hL3 hL4 l1 l2 l3 l4 hxi hyi hS
      generalize N.testBit i = bx at *
      generalize A.testBit i = by_ at *
      have Sn1 := Lib.hid sn1
      have Sn2 := Lib.hid sn2
      have Sn3 := Lib.hid sn3
      have Sn4 := Lib.hid sn4
      have S1 := Lib.hid s1
      have S2 := Lib.hid s2
      have S3 := Lib.hid s3
      have S4 := Lib.hid s4
      have Snew := Lib.hid snew
      have Sold := Lib.hid sold
      clear sn1 sn2 sn3 sn4 s1 s2 s3 s4 snew sold
      cases bx <;> cases by_
      · go_wp2
        refine Turn.wp_region_typed (rowsLe S) (tbF u10.ownBlock u11.ownBlock u12.ownBlock u13.ownBlock) wr 46 (by kernel_rfl) (by kernel_rfl) Hold.out (rowsLe.of_below (Below.drew (Below.refl _ _))) ?_; simp only [List.take_succ_cons, List.take_zero, List.take_nil]
        (refine Turn.wpX_step (by rfl) (by rfl) (fun K hK => ?_); go_simp; first | (refine hK _ ?_; clear hK K) | (apply Exists.intro; refine ⟨fun _ => ?_, hK _ ?_⟩; exact rfl; clear hK K))
        iterate 10 (refine Turn.wpX_step (by rfl) (by rfl) (fun K hK => ?_); go_simp; first | (refine hK _ ?_; clear hK K) | (apply Exists.intro; refine ⟨fun _ => ?_, hK _ ?_⟩; exact rfl; clear hK K))
        refine Turn.wpX_rel 35 (OneT S (false && false)) rfl (of_decide_eq_true rfl) (OneT.mono _ _) (fun w3 hw3 => ?_) ?_
        · simp only [relOf, List.filter_nil, forallRel]
          refine ⟨rfl, ?_⟩
          go_simp
          exact ⟨rowsLe.of_below ((Below.refl _ _).alloc (Nat.le_refl _) _), ⟨_, rfl, Snew.out _ hw3.2.2.2.1, RowOf.made bbool 1 w3 [false && false] _ _ 1 rfl rfl rfl (by decide)⟩, Turn.Born.none (by rfl)⟩
        refine Turn.wpX_rel 36 (OwnT S w2.heap.size (L1 ++ [false && false])) rfl (of_decide_eq_true rfl) (OwnT.mono _ _ _) (fun w3 hw3 => ?_) ?_
        · change forallRel w3 [(35, _)] _ _
          intro v35 h35
          simp only [forallRel]
          refine ⟨rfl, ?_⟩
          obtain ⟨v', w', q1, q2, q3, q4⟩ := grow_one (d := 36) (F := tbF u10.ownBlock u11.ownBlock u12.ownBlock u13.ownBlock) rfl hw3 hR.p hsz S1.out Snew.out h35 (by rw [L1n.out]; omega)
          exact good_appendT (by rfl) (by rfl) (by rfl) q1 ⟨q2, q3, q4⟩
        (refine Turn.wpX_step (by rfl) (by rfl) (fun K hK => ?_); go_simp; first | (refine hK _ ?_; clear hK K) | (apply Exists.intro; refine ⟨fun _ => ?_, hK _ ?_⟩; exact rfl; clear hK K))
        iterate 10 (refine Turn.wpX_step (by rfl) (by rfl) (fun K hK => ?_); go_simp; first | (refine hK _ ?_; clear hK K) | (apply Exists.intro; refine ⟨fun _ => ?_, hK _ ?_⟩; exact rfl; clear hK K))
        refine Turn.wpX_rel 48 (OneT S (false || false)) rfl (of_decide_eq_true rfl) (OneT.mono _ _) (fun w3 hw3 => ?_) ?_
        · change forallRel w3 [] _ _
          simp only [forallRel]
          refine ⟨rfl, ?_⟩
          go_simp
          exact ⟨rowsLe.of_below ((Below.refl _ _).alloc (Nat.le_refl _) _), ⟨_, rfl, Snew.out _ hw3.2.2.2.1, RowOf.made bbool 1 w3 [false || false] _ _ 1 rfl rfl rfl (by decide)⟩, Turn.Born.none (by rfl)⟩
        refine Turn.wpX_rel 49 (OwnT S w2.heap.size (L2 ++ [false || false])) rfl (of_decide_eq_true rfl) (OwnT.mono _ _ _) (fun w3 hw3 => ?_) ?_
        · change forallRel w3 [(48, _)] _ _
          intro v48 h48
          simp only [forallRel]
          refine ⟨rfl, ?_⟩
          obtain ⟨v', w', q1, q2, q3, q4⟩ := grow_one (d := 49) (F := tbF u10.ownBlock u11.ownBlock u12.ownBlock u13.ownBlock) rfl hw3 hR.q hsz S2.out Snew.out h48 (by rw [L2n.out]; omega)
          exact good_appendT (by rfl) (by rfl) (by rfl) q1 ⟨q2, q3, q4⟩
        (refine Turn.wpX_step (by rfl) (by rfl) (fun K hK => ?_); go_simp; first | (refine hK _ ?_; clear hK K) | (apply Exists.intro; refine ⟨fun _ => ?_, hK _ ?_⟩; exact rfl; clear hK K))
        iterate 9 (refine Turn.wpX_step (by rfl) (by rfl) (fun K hK => ?_); go_simp; first | (refine hK _ ?_; clear hK K) | (apply Exists.intro; refine ⟨fun _ => ?_, hK _ ?_⟩; exact rfl; clear hK K))
        refine Turn.wpX_rel 60 (OneT S (false != false)) rfl (of_decide_eq_true rfl) (OneT.mono _ _) (fun w3 hw3 => ?_) ?_
        · change forallRel w3 [] _ _
          simp only [forallRel]
          refine ⟨rfl, ?_⟩
          go_simp
          exact ⟨rowsLe.of_below ((Below.refl _ _).alloc (Nat.le_refl _) _), ⟨_, rfl, Snew.out _ hw3.2.2.2.1, RowOf.made bbool 1 w3 [false != false] _ _ 1 rfl rfl rfl (by decide)⟩, Turn.Born.none (by rfl)⟩
        refine Turn.wpX_rel 61 (OwnT S w2.heap.size (L3 ++ [false != false])) rfl (of_decide_eq_true rfl) (OwnT.mono _ _ _) (fun w3 hw3 => ?_) ?_
        · change forallRel w3 [(60, _)] _ _
          intro v60 h60
          simp only [forallRel]
          refine ⟨rfl, ?_⟩
          obtain ⟨v', w', q1, q2, q3, q4⟩ := grow_one (d := 61) (F := tbF u10.ownBlock u11.ownBlock u12.ownBlock u13.ownBlock) rfl hw3 hR.r hsz S3.out Snew.out h60 (by rw [L3n.out]; omega)
          exact good_appendT (by rfl) (by rfl) (by rfl) q1 ⟨q2, q3, q4⟩
        (refine Turn.wpX_step (by rfl) (by rfl) (fun K hK => ?_); go_simp; first | (refine hK _ ?_; clear hK K) | (apply Exists.intro; refine ⟨fun _ => ?_, hK _ ?_⟩; exact rfl; clear hK K))
        iterate 5 (refine Turn.wpX_step (by rfl) (by rfl) (fun K hK => ?_); go_simp; first | (refine hK _ ?_; clear hK K) | (apply Exists.intro; refine ⟨fun _ => ?_, hK _ ?_⟩; exact rfl; clear hK K))
        refine Turn.wpX_rel 68 (OneT S (!false)) rfl (of_decide_eq_true rfl) (OneT.mono _ _) (fun w3 hw3 => ?_) ?_
        · change forallRel w3 [] _ _
          simp only [forallRel]
          refine ⟨rfl, ?_⟩
          go_simp
          exact ⟨rowsLe.of_below ((Below.refl _ _).alloc (Nat.le_refl _) _), ⟨_, rfl, Snew.out _ hw3.2.2.2.1, RowOf.made bbool 1 w3 [!false] _ _ 1 rfl rfl rfl (by decide)⟩, Turn.Born.none (by rfl)⟩
        refine Turn.wpX_rel 69 (OwnT S w2.heap.size (L4 ++ [!false])) rfl (of_decide_eq_true rfl) (OwnT.mono _ _ _) (fun w3 hw3 => ?_) ?_
        · change forallRel w3 [(68, _)] _ _
          intro v68 h68
          simp only [forallRel]
          refine ⟨rfl, ?_⟩
          obtain ⟨v', w', q1, q2, q3, q4⟩ := grow_one (d := 69) (F := tbF u10.ownBlock u11.ownBlock u12.ownBlock u13.ownBlock) rfl hw3 hR.s hsz S4.out Snew.out h68 (by rw [L4n.out]; omega)
          exact good_appendT (by rfl) (by rfl) (by rfl) q1 ⟨q2, q3, q4⟩
        refine Turn.wpX_nil ?_
        intro w5 hw5 v35 _ v36 h36 v48 _ v49 h49 v60 _ v61 h61 v68 _ v69 h69 hap
        change wpList _ _ _ [_, _, _, _] _ _
        have hF5 := hF.turn hw5 hw26 hgx hgy Sold.out
        have hR5 : Rows4 w2.heap.size w5 v36 v49 v61 v69 ((bitsL X1).take (i + 1)) ((bitsL X2).take (i + 1)) ((bitsL X3).take (i + 1)) ((bitsL X4).take (i + 1)) := by
          have ap := fun (a b s t : Nat) (Os Ot : List Nat) (v u : Value) (l : List Bool) (hv : OwnOf bbool 1 4 w5 w2.heap.size v l) (l' : List Bool) (hu : OwnOf bbool 1 4 w5 w2.heap.size u l') (ha : a < 46) (hb : b < 46) (hab : a ≠ b) (e1 e2 e3 e4 e5 e6) (k : Nat) (hk : v.ownBlock = some k) (hk2 : u.ownBlock = some k) =>
            (hap a b ha hb hab s t Os Ot e1 e2 e3 e4 v u k e5 e6 (own_blkOf hk)) (own_blkOf hk2)
          refine ⟨by rw [Sn1.out]; exact h36.1, by rw [Sn2.out]; exact h49.1, by rw [Sn3.out]; exact h61.1, by rw [Sn4.out]; exact h69.1, ?_, ?_, ?_, ?_, ?_, ?_⟩
          · exact fun k h h' => ap 12 25 36 49 _ _ v36 v49 _ h36.1 _ h49.1 (by omega) (by omega) (by omega) rfl rfl rfl rfl (by rw [put_other _ _ _ _ (by decide), put_other _ _ _ _ (by decide), put_other _ _ _ _ (by decide), put_other _ _ _ _ (by decide), put_other _ _ _ _ (by decide), put_other _ _ _ _ (by decide)]; exact put_same _ _ _ (by simp only [put_size]; exact of_decide_eq_true rfl)) (by rw [put_other _ _ _ _ (by decide), put_other _ _ _ _ (by decide), put_other _ _ _ _ (by decide), put_other _ _ _ _ (by decide)]; exact put_same _ _ _ (by simp only [put_size]; exact of_decide_eq_true rfl)) k h h'
          · exact fun k h h' => ap 12 37 36 61 _ _ v36 v61 _ h36.1 _ h61.1 (by omega) (by omega) (by omega) rfl rfl rfl rfl (by rw [put_other _ _ _ _ (by decide), put_other _ _ _ _ (by decide), put_other _ _ _ _ (by decide), put_other _ _ _ _ (by decide), put_other _ _ _ _ (by decide), put_other _ _ _ _ (by decide)]; exact put_same _ _ _ (by simp only [put_size]; exact of_decide_eq_true rfl)) (by rw [put_other _ _ _ _ (by decide), put_other _ _ _ _ (by decide)]; exact put_same _ _ _ (by simp only [put_size]; exact of_decide_eq_true rfl)) k h h'
          · exact fun k h h' => ap 12 45 36 69 _ _ v36 v69 _ h36.1 _ h69.1 (by omega) (by omega) (by omega) rfl rfl rfl rfl (by rw [put_other _ _ _ _ (by decide), put_other _ _ _ _ (by decide), put_other _ _ _ _ (by decide), put_other _ _ _ _ (by decide), put_other _ _ _ _ (by decide), put_other _ _ _ _ (by decide)]; exact put_same _ _ _ (by simp only [put_size]; exact of_decide_eq_true rfl)) (by exact put_same _ _ _ (by simp only [put_size]; exact of_decide_eq_true rfl)) k h h'
          · exact fun k h h' => ap 25 37 49 61 _ _ v49 v61 _ h49.1 _ h61.1 (by omega) (by omega) (by omega) rfl rfl rfl rfl (by rw [put_other _ _ _ _ (by decide), put_other _ _ _ _ (by decide), put_other _ _ _ _ (by decide), put_other _ _ _ _ (by decide)]; exact put_same _ _ _ (by simp only [put_size]; exact of_decide_eq_true rfl)) (by rw [put_other _ _ _ _ (by decide), put_other _ _ _ _ (by decide)]; exact put_same _ _ _ (by simp only [put_size]; exact of_decide_eq_true rfl)) k h h'
          · exact fun k h h' => ap 25 45 49 69 _ _ v49 v69 _ h49.1 _ h69.1 (by omega) (by omega) (by omega) rfl rfl rfl rfl (by rw [put_other _ _ _ _ (by decide), put_other _ _ _ _ (by decide), put_other _ _ _ _ (by decide), put_other _ _ _ _ (by decide)]; exact put_same _ _ _ (by simp only [put_size]; exact of_decide_eq_true rfl)) (by exact put_same _ _ _ (by simp only [put_size]; exact of_decide_eq_true rfl)) k h h'
          · exact fun k h h' => ap 37 45 61 69 _ _ v61 v69 _ h61.1 _ h69.1 (by omega) (by omega) (by omega) rfl rfl rfl rfl (by rw [put_other _ _ _ _ (by decide), put_other _ _ _ _ (by decide)]; exact put_same _ _ _ (by simp only [put_size]; exact of_decide_eq_true rfl)) (by exact put_same _ _ _ (by simp only [put_size]; exact of_decide_eq_true rfl)) k h h'
        clear hap hF hR k0 k1 h36 h49 h61 h69 hw5
        go_wp2
        go_roundw
        case rel => exact ⟨i + 1, by omega, by go_num, hR5, hF5⟩
        case measure => simp [intOf]; omega
      · go_wp2
        refine Turn.wp_region_typed (rowsLe S) (tbF u10.ownBlock u11.ownBlock u12.ownBlock u13.ownBlock) wr 46 (by kernel_rfl) (by kernel_rfl) Hold.out (rowsLe.of_below (Below.drew (Below.refl _ _))) ?_; simp only [List.take_succ_cons, List.take_zero, List.take_nil]
        (refine Turn.wpX_step (by rfl) (by rfl) (fun K hK => ?_); go_simp; first | (refine hK _ ?_; clear hK K) | (apply Exists.intro; refine ⟨fun _ => ?_, hK _ ?_⟩; exact rfl; clear hK K))
        iterate 10 (refine Turn.wpX_step (by rfl) (by rfl) (fun K hK => ?_); go_simp; first | (refine hK _ ?_; clear hK K) | (apply Exists.intro; refine ⟨fun _ => ?_, hK _ ?_⟩; exact rfl; clear hK K))
        refine Turn.wpX_rel 35 (OneT S (false && true)) rfl (of_decide_eq_true rfl) (OneT.mono _ _) (fun w3 hw3 => ?_) ?_
        · simp only [relOf, List.filter_nil, forallRel]
          refine ⟨rfl, ?_⟩
          go_simp
          exact ⟨rowsLe.of_below ((Below.refl _ _).alloc (Nat.le_refl _) _), ⟨_, rfl, Snew.out _ hw3.2.2.2.1, RowOf.made bbool 1 w3 [false && true] _ _ 1 rfl rfl rfl (by decide)⟩, Turn.Born.none (by rfl)⟩
        refine Turn.wpX_rel 36 (OwnT S w2.heap.size (L1 ++ [false && true])) rfl (of_decide_eq_true rfl) (OwnT.mono _ _ _) (fun w3 hw3 => ?_) ?_
        · change forallRel w3 [(35, _)] _ _
          intro v35 h35
          simp only [forallRel]
          refine ⟨rfl, ?_⟩
          obtain ⟨v', w', q1, q2, q3, q4⟩ := grow_one (d := 36) (F := tbF u10.ownBlock u11.ownBlock u12.ownBlock u13.ownBlock) rfl hw3 hR.p hsz S1.out Snew.out h35 (by rw [L1n.out]; omega)
          exact good_appendT (by rfl) (by rfl) (by rfl) q1 ⟨q2, q3, q4⟩
        (refine Turn.wpX_step (by rfl) (by rfl) (fun K hK => ?_); go_simp; first | (refine hK _ ?_; clear hK K) | (apply Exists.intro; refine ⟨fun _ => ?_, hK _ ?_⟩; exact rfl; clear hK K))
        iterate 10 (refine Turn.wpX_step (by rfl) (by rfl) (fun K hK => ?_); go_simp; first | (refine hK _ ?_; clear hK K) | (apply Exists.intro; refine ⟨fun _ => ?_, hK _ ?_⟩; exact rfl; clear hK K))
        refine Turn.wpX_rel 48 (OneT S (false || true)) rfl (of_decide_eq_true rfl) (OneT.mono _ _) (fun w3 hw3 => ?_) ?_
        · change forallRel w3 [] _ _
          simp only [forallRel]
          refine ⟨rfl, ?_⟩
          go_simp
          exact ⟨rowsLe.of_below ((Below.refl _ _).alloc (Nat.le_refl _) _), ⟨_, rfl, Snew.out _ hw3.2.2.2.1, RowOf.made bbool 1 w3 [false || true] _ _ 1 rfl rfl rfl (by decide)⟩, Turn.Born.none (by rfl)⟩
        refine Turn.wpX_rel 49 (OwnT S w2.heap.size (L2 ++ [false || true])) rfl (of_decide_eq_true rfl) (OwnT.mono _ _ _) (fun w3 hw3 => ?_) ?_
        · change forallRel w3 [(48, _)] _ _
          intro v48 h48
          simp only [forallRel]
          refine ⟨rfl, ?_⟩
          obtain ⟨v', w', q1, q2, q3, q4⟩ := grow_one (d := 49) (F := tbF u10.ownBlock u11.ownBlock u12.ownBlock u13.ownBlock) rfl hw3 hR.q hsz S2.out Snew.out h48 (by rw [L2n.out]; omega)
          exact good_appendT (by rfl) (by rfl) (by rfl) q1 ⟨q2, q3, q4⟩
        (refine Turn.wpX_step (by rfl) (by rfl) (fun K hK => ?_); go_simp; first | (refine hK _ ?_; clear hK K) | (apply Exists.intro; refine ⟨fun _ => ?_, hK _ ?_⟩; exact rfl; clear hK K))
        iterate 9 (refine Turn.wpX_step (by rfl) (by rfl) (fun K hK => ?_); go_simp; first | (refine hK _ ?_; clear hK K) | (apply Exists.intro; refine ⟨fun _ => ?_, hK _ ?_⟩; exact rfl; clear hK K))
        refine Turn.wpX_rel 60 (OneT S (false != true)) rfl (of_decide_eq_true rfl) (OneT.mono _ _) (fun w3 hw3 => ?_) ?_
        · change forallRel w3 [] _ _
          simp only [forallRel]
          refine ⟨rfl, ?_⟩
          go_simp
          exact ⟨rowsLe.of_below ((Below.refl _ _).alloc (Nat.le_refl _) _), ⟨_, rfl, Snew.out _ hw3.2.2.2.1, RowOf.made bbool 1 w3 [false != true] _ _ 1 rfl rfl rfl (by decide)⟩, Turn.Born.none (by rfl)⟩
        refine Turn.wpX_rel 61 (OwnT S w2.heap.size (L3 ++ [false != true])) rfl (of_decide_eq_true rfl) (OwnT.mono _ _ _) (fun w3 hw3 => ?_) ?_
        · change forallRel w3 [(60, _)] _ _
          intro v60 h60
          simp only [forallRel]
          refine ⟨rfl, ?_⟩
          obtain ⟨v', w', q1, q2, q3, q4⟩ := grow_one (d := 61) (F := tbF u10.ownBlock u11.ownBlock u12.ownBlock u13.ownBlock) rfl hw3 hR.r hsz S3.out Snew.out h60 (by rw [L3n.out]; omega)
          exact good_appendT (by rfl) (by rfl) (by rfl) q1 ⟨q2, q3, q4⟩
        (refine Turn.wpX_step (by rfl) (by rfl) (fun K hK => ?_); go_simp; first | (refine hK _ ?_; clear hK K) | (apply Exists.intro; refine ⟨fun _ => ?_, hK _ ?_⟩; exact rfl; clear hK K))
        iterate 5 (refine Turn.wpX_step (by rfl) (by rfl) (fun K hK => ?_); go_simp; first | (refine hK _ ?_; clear hK K) | (apply Exists.intro; refine ⟨fun _ => ?_, hK _ ?_⟩; exact rfl; clear hK K))
        refine Turn.wpX_rel 68 (OneT S (!false)) rfl (of_decide_eq_true rfl) (OneT.mono _ _) (fun w3 hw3 => ?_) ?_
        · change forallRel w3 [] _ _
          simp only [forallRel]
          refine ⟨rfl, ?_⟩
          go_simp
          exact ⟨rowsLe.of_below ((Below.refl _ _).alloc (Nat.le_refl _) _), ⟨_, rfl, Snew.out _ hw3.2.2.2.1, RowOf.made bbool 1 w3 [!false] _ _ 1 rfl rfl rfl (by decide)⟩, Turn.Born.none (by rfl)⟩
        refine Turn.wpX_rel 69 (OwnT S w2.heap.size (L4 ++ [!false])) rfl (of_decide_eq_true rfl) (OwnT.mono _ _ _) (fun w3 hw3 => ?_) ?_
        · change forallRel w3 [(68, _)] _ _
          intro v68 h68
          simp only [forallRel]
          refine ⟨rfl, ?_⟩
          obtain ⟨v', w', q1, q2, q3, q4⟩ := grow_one (d := 69) (F := tbF u10.ownBlock u11.ownBlock u12.ownBlock u13.ownBlock) rfl hw3 hR.s hsz S4.out Snew.out h68 (by rw [L4n.out]; omega)
          exact good_appendT (by rfl) (by rfl) (by rfl) q1 ⟨q2, q3, q4⟩
        refine Turn.wpX_nil ?_
        intro w5 hw5 v35 _ v36 h36 v48 _ v49 h49 v60 _ v61 h61 v68 _ v69 h69 hap
        change wpList _ _ _ [_, _, _, _] _ _
        have hF5 := hF.turn hw5 hw26 hgx hgy Sold.out
        have hR5 : Rows4 w2.heap.size w5 v36 v49 v61 v69 ((bitsL X1).take (i + 1)) ((bitsL X2).take (i + 1)) ((bitsL X3).take (i + 1)) ((bitsL X4).take (i + 1)) := by
          have ap := fun (a b s t : Nat) (Os Ot : List Nat) (v u : Value) (l : List Bool) (hv : OwnOf bbool 1 4 w5 w2.heap.size v l) (l' : List Bool) (hu : OwnOf bbool 1 4 w5 w2.heap.size u l') (ha : a < 46) (hb : b < 46) (hab : a ≠ b) (e1 e2 e3 e4 e5 e6) (k : Nat) (hk : v.ownBlock = some k) (hk2 : u.ownBlock = some k) =>
            (hap a b ha hb hab s t Os Ot e1 e2 e3 e4 v u k e5 e6 (own_blkOf hk)) (own_blkOf hk2)
          refine ⟨by rw [Sn1.out]; exact h36.1, by rw [Sn2.out]; exact h49.1, by rw [Sn3.out]; exact h61.1, by rw [Sn4.out]; exact h69.1, ?_, ?_, ?_, ?_, ?_, ?_⟩
          · exact fun k h h' => ap 12 25 36 49 _ _ v36 v49 _ h36.1 _ h49.1 (by omega) (by omega) (by omega) rfl rfl rfl rfl (by rw [put_other _ _ _ _ (by decide), put_other _ _ _ _ (by decide), put_other _ _ _ _ (by decide), put_other _ _ _ _ (by decide), put_other _ _ _ _ (by decide), put_other _ _ _ _ (by decide)]; exact put_same _ _ _ (by simp only [put_size]; exact of_decide_eq_true rfl)) (by rw [put_other _ _ _ _ (by decide), put_other _ _ _ _ (by decide), put_other _ _ _ _ (by decide), put_other _ _ _ _ (by decide)]; exact put_same _ _ _ (by simp only [put_size]; exact of_decide_eq_true rfl)) k h h'
          · exact fun k h h' => ap 12 37 36 61 _ _ v36 v61 _ h36.1 _ h61.1 (by omega) (by omega) (by omega) rfl rfl rfl rfl (by rw [put_other _ _ _ _ (by decide), put_other _ _ _ _ (by decide), put_other _ _ _ _ (by decide), put_other _ _ _ _ (by decide), put_other _ _ _ _ (by decide), put_other _ _ _ _ (by decide)]; exact put_same _ _ _ (by simp only [put_size]; exact of_decide_eq_true rfl)) (by rw [put_other _ _ _ _ (by decide), put_other _ _ _ _ (by decide)]; exact put_same _ _ _ (by simp only [put_size]; exact of_decide_eq_true rfl)) k h h'
          · exact fun k h h' => ap 12 45 36 69 _ _ v36 v69 _ h36.1 _ h69.1 (by omega) (by omega) (by omega) rfl rfl rfl rfl (by rw [put_other _ _ _ _ (by decide), put_other _ _ _ _ (by decide), put_other _ _ _ _ (by decide), put_other _ _ _ _ (by decide), put_other _ _ _ _ (by decide), put_other _ _ _ _ (by decide)]; exact put_same _ _ _ (by simp only [put_size]; exact of_decide_eq_true rfl)) (by exact put_same _ _ _ (by simp only [put_size]; exact of_decide_eq_true rfl)) k h h'
          · exact fun k h h' => ap 25 37 49 61 _ _ v49 v61 _ h49.1 _ h61.1 (by omega) (by omega) (by omega) rfl rfl rfl rfl (by rw [put_other _ _ _ _ (by decide), put_other _ _ _ _ (by decide), put_other _ _ _ _ (by decide), put_other _ _ _ _ (by decide)]; exact put_same _ _ _ (by simp only [put_size]; exact of_decide_eq_true rfl)) (by rw [put_other _ _ _ _ (by decide), put_other _ _ _ _ (by decide)]; exact put_same _ _ _ (by simp only [put_size]; exact of_decide_eq_true rfl)) k h h'
          · exact fun k h h' => ap 25 45 49 69 _ _ v49 v69 _ h49.1 _ h69.1 (by omega) (by omega) (by omega) rfl rfl rfl rfl (by rw [put_other _ _ _ _ (by decide), put_other _ _ _ _ (by decide), put_other _ _ _ _ (by decide), put_other _ _ _ _ (by decide)]; exact put_same _ _ _ (by simp only [put_size]; exact of_decide_eq_true rfl)) (by exact put_same _ _ _ (by simp only [put_size]; exact of_decide_eq_true rfl)) k h h'
          · exact fun k h h' => ap 37 45 61 69 _ _ v61 v69 _ h61.1 _ h69.1 (by omega) (by omega) (by omega) rfl rfl rfl rfl (by rw [put_other _ _ _ _ (by decide), put_other _ _ _ _ (by decide)]; exact put_same _ _ _ (by simp only [put_size]; exact of_decide_eq_true rfl)) (by exact put_same _ _ _ (by simp only [put_size]; exact of_decide_eq_true rfl)) k h h'
        clear hap hF hR k0 k1 h36 h49 h61 h69 hw5
        go_wp2
        go_roundw
        case rel => exact ⟨i + 1, by omega, by go_num, hR5, hF5⟩
        case measure => simp [intOf]; omega
      · go_wp2
        refine Turn.wp_region_typed (rowsLe S) (tbF u10.ownBlock u11.ownBlock u12.ownBlock u13.ownBlock) wr 46 (by kernel_rfl) (by kernel_rfl) Hold.out (rowsLe.of_below (Below.drew (Below.refl _ _))) ?_; simp only [List.take_succ_cons, List.take_zero, List.take_nil]
        (refine Turn.wpX_step (by rfl) (by rfl) (fun K hK => ?_); go_simp; first | (refine hK _ ?_; clear hK K) | (apply Exists.intro; refine ⟨fun _ => ?_, hK _ ?_⟩; exact rfl; clear hK K))
        iterate 10 (refine Turn.wpX_step (by rfl) (by rfl) (fun K hK => ?_); go_simp; first | (refine hK _ ?_; clear hK K) | (apply Exists.intro; refine ⟨fun _ => ?_, hK _ ?_⟩; exact rfl; clear hK K))
        refine Turn.wpX_rel 35 (OneT S (true && false)) rfl (of_decide_eq_true rfl) (OneT.mono _ _) (fun w3 hw3 => ?_) ?_
        · simp only [relOf, List.filter_nil, forallRel]
          refine ⟨rfl, ?_⟩
          go_simp
          exact ⟨rowsLe.of_below ((Below.refl _ _).alloc (Nat.le_refl _) _), ⟨_, rfl, Snew.out _ hw3.2.2.2.1, RowOf.made bbool 1 w3 [true && false] _ _ 1 rfl rfl rfl (by decide)⟩, Turn.Born.none (by rfl)⟩
        refine Turn.wpX_rel 36 (OwnT S w2.heap.size (L1 ++ [true && false])) rfl (of_decide_eq_true rfl) (OwnT.mono _ _ _) (fun w3 hw3 => ?_) ?_
        · change forallRel w3 [(35, _)] _ _
          intro v35 h35
          simp only [forallRel]
          refine ⟨rfl, ?_⟩
          obtain ⟨v', w', q1, q2, q3, q4⟩ := grow_one (d := 36) (F := tbF u10.ownBlock u11.ownBlock u12.ownBlock u13.ownBlock) rfl hw3 hR.p hsz S1.out Snew.out h35 (by rw [L1n.out]; omega)
          exact good_appendT (by rfl) (by rfl) (by rfl) q1 ⟨q2, q3, q4⟩
        (refine Turn.wpX_step (by rfl) (by rfl) (fun K hK => ?_); go_simp; first | (refine hK _ ?_; clear hK K) | (apply Exists.intro; refine ⟨fun _ => ?_, hK _ ?_⟩; exact rfl; clear hK K))
        iterate 10 (refine Turn.wpX_step (by rfl) (by rfl) (fun K hK => ?_); go_simp; first | (refine hK _ ?_; clear hK K) | (apply Exists.intro; refine ⟨fun _ => ?_, hK _ ?_⟩; exact rfl; clear hK K))
        refine Turn.wpX_rel 48 (OneT S (true || false)) rfl (of_decide_eq_true rfl) (OneT.mono _ _) (fun w3 hw3 => ?_) ?_
        · change forallRel w3 [] _ _
          simp only [forallRel]
          refine ⟨rfl, ?_⟩
          go_simp
          exact ⟨rowsLe.of_below ((Below.refl _ _).alloc (Nat.le_refl _) _), ⟨_, rfl, Snew.out _ hw3.2.2.2.1, RowOf.made bbool 1 w3 [true || false] _ _ 1 rfl rfl rfl (by decide)⟩, Turn.Born.none (by rfl)⟩
        refine Turn.wpX_rel 49 (OwnT S w2.heap.size (L2 ++ [true || false])) rfl (of_decide_eq_true rfl) (OwnT.mono _ _ _) (fun w3 hw3 => ?_) ?_
        · change forallRel w3 [(48, _)] _ _
          intro v48 h48
          simp only [forallRel]
          refine ⟨rfl, ?_⟩
          obtain ⟨v', w', q1, q2, q3, q4⟩ := grow_one (d := 49) (F := tbF u10.ownBlock u11.ownBlock u12.ownBlock u13.ownBlock) rfl hw3 hR.q hsz S2.out Snew.out h48 (by rw [L2n.out]; omega)
          exact good_appendT (by rfl) (by rfl) (by rfl) q1 ⟨q2, q3, q4⟩
        (refine Turn.wpX_step (by rfl) (by rfl) (fun K hK => ?_); go_simp; first | (refine hK _ ?_; clear hK K) | (apply Exists.intro; refine ⟨fun _ => ?_, hK _ ?_⟩; exact rfl; clear hK K))
        iterate 9 (refine Turn.wpX_step (by rfl) (by rfl) (fun K hK => ?_); go_simp; first | (refine hK _ ?_; clear hK K) | (apply Exists.intro; refine ⟨fun _ => ?_, hK _ ?_⟩; exact rfl; clear hK K))
        refine Turn.wpX_rel 60 (OneT S (true != false)) rfl (of_decide_eq_true rfl) (OneT.mono _ _) (fun w3 hw3 => ?_) ?_
        · change forallRel w3 [] _ _
          simp only [forallRel]
          refine ⟨rfl, ?_⟩
          go_simp
          exact ⟨rowsLe.of_below ((Below.refl _ _).alloc (Nat.le_refl _) _), ⟨_, rfl, Snew.out _ hw3.2.2.2.1, RowOf.made bbool 1 w3 [true != false] _ _ 1 rfl rfl rfl (by decide)⟩, Turn.Born.none (by rfl)⟩
        refine Turn.wpX_rel 61 (OwnT S w2.heap.size (L3 ++ [true != false])) rfl (of_decide_eq_true rfl) (OwnT.mono _ _ _) (fun w3 hw3 => ?_) ?_
        · change forallRel w3 [(60, _)] _ _
          intro v60 h60
          simp only [forallRel]
          refine ⟨rfl, ?_⟩
          obtain ⟨v', w', q1, q2, q3, q4⟩ := grow_one (d := 61) (F := tbF u10.ownBlock u11.ownBlock u12.ownBlock u13.ownBlock) rfl hw3 hR.r hsz S3.out Snew.out h60 (by rw [L3n.out]; omega)
          exact good_appendT (by rfl) (by rfl) (by rfl) q1 ⟨q2, q3, q4⟩
        (refine Turn.wpX_step (by rfl) (by rfl) (fun K hK => ?_); go_simp; first | (refine hK _ ?_; clear hK K) | (apply Exists.intro; refine ⟨fun _ => ?_, hK _ ?_⟩; exact rfl; clear hK K))
        iterate 5 (refine Turn.wpX_step (by rfl) (by rfl) (fun K hK => ?_); go_simp; first | (refine hK _ ?_; clear hK K) | (apply Exists.intro; refine ⟨fun _ => ?_, hK _ ?_⟩; exact rfl; clear hK K))
        refine Turn.wpX_rel 68 (OneT S (!true)) rfl (of_decide_eq_true rfl) (OneT.mono _ _) (fun w3 hw3 => ?_) ?_
        · change forallRel w3 [] _ _
          simp only [forallRel]
          refine ⟨rfl, ?_⟩
          go_simp
          exact ⟨rowsLe.of_below ((Below.refl _ _).alloc (Nat.le_refl _) _), ⟨_, rfl, Snew.out _ hw3.2.2.2.1, RowOf.made bbool 1 w3 [!true] _ _ 1 rfl rfl rfl (by decide)⟩, Turn.Born.none (by rfl)⟩
        refine Turn.wpX_rel 69 (OwnT S w2.heap.size (L4 ++ [!true])) rfl (of_decide_eq_true rfl) (OwnT.mono _ _ _) (fun w3 hw3 => ?_) ?_
        · change forallRel w3 [(68, _)] _ _
          intro v68 h68
          simp only [forallRel]
          refine ⟨rfl, ?_⟩
          obtain ⟨v', w', q1, q2, q3, q4⟩ := grow_one (d := 69) (F := tbF u10.ownBlock u11.ownBlock u12.ownBlock u13.ownBlock) rfl hw3 hR.s hsz S4.out Snew.out h68 (by rw [L4n.out]; omega)
          exact good_appendT (by rfl) (by rfl) (by rfl) q1 ⟨q2, q3, q4⟩
        refine Turn.wpX_nil ?_
        intro w5 hw5 v35 _ v36 h36 v48 _ v49 h49 v60 _ v61 h61 v68 _ v69 h69 hap
        change wpList _ _ _ [_, _, _, _] _ _
        have hF5 := hF.turn hw5 hw26 hgx hgy Sold.out
        have hR5 : Rows4 w2.heap.size w5 v36 v49 v61 v69 ((bitsL X1).take (i + 1)) ((bitsL X2).take (i + 1)) ((bitsL X3).take (i + 1)) ((bitsL X4).take (i + 1)) := by
          have ap := fun (a b s t : Nat) (Os Ot : List Nat) (v u : Value) (l : List Bool) (hv : OwnOf bbool 1 4 w5 w2.heap.size v l) (l' : List Bool) (hu : OwnOf bbool 1 4 w5 w2.heap.size u l') (ha : a < 46) (hb : b < 46) (hab : a ≠ b) (e1 e2 e3 e4 e5 e6) (k : Nat) (hk : v.ownBlock = some k) (hk2 : u.ownBlock = some k) =>
            (hap a b ha hb hab s t Os Ot e1 e2 e3 e4 v u k e5 e6 (own_blkOf hk)) (own_blkOf hk2)
          refine ⟨by rw [Sn1.out]; exact h36.1, by rw [Sn2.out]; exact h49.1, by rw [Sn3.out]; exact h61.1, by rw [Sn4.out]; exact h69.1, ?_, ?_, ?_, ?_, ?_, ?_⟩
          · exact fun k h h' => ap 12 25 36 49 _ _ v36 v49 _ h36.1 _ h49.1 (by omega) (by omega) (by omega) rfl rfl rfl rfl (by rw [put_other _ _ _ _ (by decide), put_other _ _ _ _ (by decide), put_other _ _ _ _ (by decide), put_other _ _ _ _ (by decide), put_other _ _ _ _ (by decide), put_other _ _ _ _ (by decide)]; exact put_same _ _ _ (by simp only [put_size]; exact of_decide_eq_true rfl)) (by rw [put_other _ _ _ _ (by decide), put_other _ _ _ _ (by decide), put_other _ _ _ _ (by decide), put_other _ _ _ _ (by decide)]; exact put_same _ _ _ (by simp only [put_size]; exact of_decide_eq_true rfl)) k h h'
          · exact fun k h h' => ap 12 37 36 61 _ _ v36 v61 _ h36.1 _ h61.1 (by omega) (by omega) (by omega) rfl rfl rfl rfl (by rw [put_other _ _ _ _ (by decide), put_other _ _ _ _ (by decide), put_other _ _ _ _ (by decide), put_other _ _ _ _ (by decide), put_other _ _ _ _ (by decide), put_other _ _ _ _ (by decide)]; exact put_same _ _ _ (by simp only [put_size]; exact of_decide_eq_true rfl)) (by rw [put_other _ _ _ _ (by decide), put_other _ _ _ _ (by decide)]; exact put_same _ _ _ (by simp only [put_size]; exact of_decide_eq_true rfl)) k h h'
          · exact fun k h h' => ap 12 45 36 69 _ _ v36 v69 _ h36.1 _ h69.1 (by omega) (by omega) (by omega) rfl rfl rfl rfl (by rw [put_other _ _ _ _ (by decide), put_other _ _ _ _ (by decide), put_other _ _ _ _ (by decide), put_other _ _ _ _ (by decide), put_other _ _ _ _ (by decide), put_other _ _ _ _ (by decide)]; exact put_same _ _ _ (by simp only [put_size]; exact of_decide_eq_true rfl)) (by exact put_same _ _ _ (by simp only [put_size]; exact of_decide_eq_true rfl)) k h h'
          · exact fun k h h' => ap 25 37 49 61 _ _ v49 v61 _ h49.1 _ h61.1 (by omega) (by omega) (by omega) rfl rfl rfl rfl (by rw [put_other _ _ _ _ (by decide), put_other _ _ _ _ (by decide), put_other _ _ _ _ (by decide), put_other _ _ _ _ (by decide)]; exact put_same _ _ _ (by simp only [put_size]; exact of_decide_eq_true rfl)) (by rw [put_other _ _ _ _ (by decide), put_other _ _ _ _ (by decide)]; exact put_same _ _ _ (by simp only [put_size]; exact of_decide_eq_true rfl)) k h h'
          · exact fun k h h' => ap 25 45 49 69 _ _ v49 v69 _ h49.1 _ h69.1 (by omega) (by omega) (by omega) rfl rfl rfl rfl (by rw [put_other _ _ _ _ (by decide), put_other _ _ _ _ (by decide), put_other _ _ _ _ (by decide), put_other _ _ _ _ (by decide)]; exact put_same _ _ _ (by simp only [put_size]; exact of_decide_eq_true rfl)) (by exact put_same _ _ _ (by simp only [put_size]; exact of_decide_eq_true rfl)) k h h'
          · exact fun k h h' => ap 37 45 61 69 _ _ v61 v69 _ h61.1 _ h69.1 (by omega) (by omega) (by omega) rfl rfl rfl rfl (by rw [put_other _ _ _ _ (by decide), put_other _ _ _ _ (by decide)]; exact put_same _ _ _ (by simp only [put_size]; exact of_decide_eq_true rfl)) (by exact put_same _ _ _ (by simp only [put_size]; exact of_decide_eq_true rfl)) k h h'
        clear hap hF hR k0 k1 h36 h49 h61 h69 hw5
        go_wp2
        go_roundw
        case rel => exact ⟨i + 1, by omega, by go_num, hR5, hF5⟩
        case measure => simp [intOf]; omega
      · go_wp2
        refine Turn.wp_region_typed (rowsLe S) (tbF u10.ownBlock u11.ownBlock u12.ownBlock u13.ownBlock) wr 46 (by kernel_rfl) (by kernel_rfl) Hold.out (rowsLe.of_below (Below.drew (Below.refl _ _))) ?_; simp only [List.take_succ_cons, List.take_zero, List.take_nil]
        (refine Turn.wpX_step (by rfl) (by rfl) (fun K hK => ?_); go_simp; first | (refine hK _ ?_; clear hK K) | (apply Exists.intro; refine ⟨fun _ => ?_, hK _ ?_⟩; exact rfl; clear hK K))
        iterate 10 (refine Turn.wpX_step (by rfl) (by rfl) (fun K hK => ?_); go_simp; first | (refine hK _ ?_; clear hK K) | (apply Exists.intro; refine ⟨fun _ => ?_, hK _ ?_⟩; exact rfl; clear hK K))
        refine Turn.wpX_rel 35 (OneT S (true && true)) rfl (of_decide_eq_true rfl) (OneT.mono _ _) (fun w3 hw3 => ?_) ?_
        · simp only [relOf, List.filter_nil, forallRel]
          refine ⟨rfl, ?_⟩
          go_simp
          exact ⟨rowsLe.of_below ((Below.refl _ _).alloc (Nat.le_refl _) _), ⟨_, rfl, Snew.out _ hw3.2.2.2.1, RowOf.made bbool 1 w3 [true && true] _ _ 1 rfl rfl rfl (by decide)⟩, Turn.Born.none (by rfl)⟩
        refine Turn.wpX_rel 36 (OwnT S w2.heap.size (L1 ++ [true && true])) rfl (of_decide_eq_true rfl) (OwnT.mono _ _ _) (fun w3 hw3 => ?_) ?_
        · change forallRel w3 [(35, _)] _ _
          intro v35 h35
          simp only [forallRel]
          refine ⟨rfl, ?_⟩
          obtain ⟨v', w', q1, q2, q3, q4⟩ := grow_one (d := 36) (F := tbF u10.ownBlock u11.ownBlock u12.ownBlock u13.ownBlock) rfl hw3 hR.p hsz S1.out Snew.out h35 (by rw [L1n.out]; omega)
          exact good_appendT (by rfl) (by rfl) (by rfl) q1 ⟨q2, q3, q4⟩
        (refine Turn.wpX_step (by rfl) (by rfl) (fun K hK => ?_); go_simp; first | (refine hK _ ?_; clear hK K) | (apply Exists.intro; refine ⟨fun _ => ?_, hK _ ?_⟩; exact rfl; clear hK K))
        iterate 10 (refine Turn.wpX_step (by rfl) (by rfl) (fun K hK => ?_); go_simp; first | (refine hK _ ?_; clear hK K) | (apply Exists.intro; refine ⟨fun _ => ?_, hK _ ?_⟩; exact rfl; clear hK K))
        refine Turn.wpX_rel 48 (OneT S (true || true)) rfl (of_decide_eq_true rfl) (OneT.mono _ _) (fun w3 hw3 => ?_) ?_
        · change forallRel w3 [] _ _
          simp only [forallRel]
          refine ⟨rfl, ?_⟩
          go_simp
          exact ⟨rowsLe.of_below ((Below.refl _ _).alloc (Nat.le_refl _) _), ⟨_, rfl, Snew.out _ hw3.2.2.2.1, RowOf.made bbool 1 w3 [true || true] _ _ 1 rfl rfl rfl (by decide)⟩, Turn.Born.none (by rfl)⟩
        refine Turn.wpX_rel 49 (OwnT S w2.heap.size (L2 ++ [true || true])) rfl (of_decide_eq_true rfl) (OwnT.mono _ _ _) (fun w3 hw3 => ?_) ?_
        · change forallRel w3 [(48, _)] _ _
          intro v48 h48
          simp only [forallRel]
          refine ⟨rfl, ?_⟩
          obtain ⟨v', w', q1, q2, q3, q4⟩ := grow_one (d := 49) (F := tbF u10.ownBlock u11.ownBlock u12.ownBlock u13.ownBlock) rfl hw3 hR.q hsz S2.out Snew.out h48 (by rw [L2n.out]; omega)
          exact good_appendT (by rfl) (by rfl) (by rfl) q1 ⟨q2, q3, q4⟩
        (refine Turn.wpX_step (by rfl) (by rfl) (fun K hK => ?_); go_simp; first | (refine hK _ ?_; clear hK K) | (apply Exists.intro; refine ⟨fun _ => ?_, hK _ ?_⟩; exact rfl; clear hK K))
        iterate 9 (refine Turn.wpX_step (by rfl) (by rfl) (fun K hK => ?_); go_simp; first | (refine hK _ ?_; clear hK K) | (apply Exists.intro; refine ⟨fun _ => ?_, hK _ ?_⟩; exact rfl; clear hK K))
        refine Turn.wpX_rel 60 (OneT S (true != true)) rfl (of_decide_eq_true rfl) (OneT.mono _ _) (fun w3 hw3 => ?_) ?_
        · change forallRel w3 [] _ _
          simp only [forallRel]
          refine ⟨rfl, ?_⟩
          go_simp
          exact ⟨rowsLe.of_below ((Below.refl _ _).alloc (Nat.le_refl _) _), ⟨_, rfl, Snew.out _ hw3.2.2.2.1, RowOf.made bbool 1 w3 [true != true] _ _ 1 rfl rfl rfl (by decide)⟩, Turn.Born.none (by rfl)⟩
        refine Turn.wpX_rel 61 (OwnT S w2.heap.size (L3 ++ [true != true])) rfl (of_decide_eq_true rfl) (OwnT.mono _ _ _) (fun w3 hw3 => ?_) ?_
        · change forallRel w3 [(60, _)] _ _
          intro v60 h60
          simp only [forallRel]
          refine ⟨rfl, ?_⟩
          obtain ⟨v', w', q1, q2, q3, q4⟩ := grow_one (d := 61) (F := tbF u10.ownBlock u11.ownBlock u12.ownBlock u13.ownBlock) rfl hw3 hR.r hsz S3.out Snew.out h60 (by rw [L3n.out]; omega)
          exact good_appendT (by rfl) (by rfl) (by rfl) q1 ⟨q2, q3, q4⟩
        (refine Turn.wpX_step (by rfl) (by rfl) (fun K hK => ?_); go_simp; first | (refine hK _ ?_; clear hK K) | (apply Exists.intro; refine ⟨fun _ => ?_, hK _ ?_⟩; exact rfl; clear hK K))
        iterate 5 (refine Turn.wpX_step (by rfl) (by rfl) (fun K hK => ?_); go_simp; first | (refine hK _ ?_; clear hK K) | (apply Exists.intro; refine ⟨fun _ => ?_, hK _ ?_⟩; exact rfl; clear hK K))
        refine Turn.wpX_rel 68 (OneT S (!true)) rfl (of_decide_eq_true rfl) (OneT.mono _ _) (fun w3 hw3 => ?_) ?_
        · change forallRel w3 [] _ _
          simp only [forallRel]
          refine ⟨rfl, ?_⟩
          go_simp
          exact ⟨rowsLe.of_below ((Below.refl _ _).alloc (Nat.le_refl _) _), ⟨_, rfl, Snew.out _ hw3.2.2.2.1, RowOf.made bbool 1 w3 [!true] _ _ 1 rfl rfl rfl (by decide)⟩, Turn.Born.none (by rfl)⟩
        refine Turn.wpX_rel 69 (OwnT S w2.heap.size (L4 ++ [!true])) rfl (of_decide_eq_true rfl) (OwnT.mono _ _ _) (fun w3 hw3 => ?_) ?_
        · change forallRel w3 [(68, _)] _ _
          intro v68 h68
          simp only [forallRel]
          refine ⟨rfl, ?_⟩
          obtain ⟨v', w', q1, q2, q3, q4⟩ := grow_one (d := 69) (F := tbF u10.ownBlock u11.ownBlock u12.ownBlock u13.ownBlock) rfl hw3 hR.s hsz S4.out Snew.out h68 (by rw [L4n.out]; omega)
          exact good_appendT (by rfl) (by rfl) (by rfl) q1 ⟨q2, q3, q4⟩
        refine Turn.wpX_nil ?_
        intro w5 hw5 v35 _ v36 h36 v48 _ v49 h49 v60 _ v61 h61 v68 _ v69 h69 hap
        change wpList _ _ _ [_, _, _, _] _ _
        have hF5 := hF.turn hw5 hw26 hgx hgy Sold.out
        have hR5 : Rows4 w2.heap.size w5 v36 v49 v61 v69 ((bitsL X1).take (i + 1)) ((bitsL X2).take (i + 1)) ((bitsL X3).take (i + 1)) ((bitsL X4).take (i + 1)) := by
          have ap := fun (a b s t : Nat) (Os Ot : List Nat) (v u : Value) (l : List Bool) (hv : OwnOf bbool 1 4 w5 w2.heap.size v l) (l' : List Bool) (hu : OwnOf bbool 1 4 w5 w2.heap.size u l') (ha : a < 46) (hb : b < 46) (hab : a ≠ b) (e1 e2 e3 e4 e5 e6) (k : Nat) (hk : v.ownBlock = some k) (hk2 : u.ownBlock = some k) =>
            (hap a b ha hb hab s t Os Ot e1 e2 e3 e4 v u k e5 e6 (own_blkOf hk)) (own_blkOf hk2)
          refine ⟨by rw [Sn1.out]; exact h36.1, by rw [Sn2.out]; exact h49.1, by rw [Sn3.out]; exact h61.1, by rw [Sn4.out]; exact h69.1, ?_, ?_, ?_, ?_, ?_, ?_⟩
          · exact fun k h h' => ap 12 25 36 49 _ _ v36 v49 _ h36.1 _ h49.1 (by omega) (by omega) (by omega) rfl rfl rfl rfl (by rw [put_other _ _ _ _ (by decide), put_other _ _ _ _ (by decide), put_other _ _ _ _ (by decide), put_other _ _ _ _ (by decide), put_other _ _ _ _ (by decide), put_other _ _ _ _ (by decide)]; exact put_same _ _ _ (by simp only [put_size]; exact of_decide_eq_true rfl)) (by rw [put_other _ _ _ _ (by decide), put_other _ _ _ _ (by decide), put_other _ _ _ _ (by decide), put_other _ _ _ _ (by decide)]; exact put_same _ _ _ (by simp only [put_size]; exact of_decide_eq_true rfl)) k h h'
          · exact fun k h h' => ap 12 37 36 61 _ _ v36 v61 _ h36.1 _ h61.1 (by omega) (by omega) (by omega) rfl rfl rfl rfl (by rw [put_other _ _ _ _ (by decide), put_other _ _ _ _ (by decide), put_other _ _ _ _ (by decide), put_other _ _ _ _ (by decide), put_other _ _ _ _ (by decide), put_other _ _ _ _ (by decide)]; exact put_same _ _ _ (by simp only [put_size]; exact of_decide_eq_true rfl)) (by rw [put_other _ _ _ _ (by decide), put_other _ _ _ _ (by decide)]; exact put_same _ _ _ (by simp only [put_size]; exact of_decide_eq_true rfl)) k h h'
          · exact fun k h h' => ap 12 45 36 69 _ _ v36 v69 _ h36.1 _ h69.1 (by omega) (by omega) (by omega) rfl rfl rfl rfl (by rw [put_other _ _ _ _ (by decide), put_other _ _ _ _ (by decide), put_other _ _ _ _ (by decide), put_other _ _ _ _ (by decide), put_other _ _ _ _ (by decide), put_other _ _ _ _ (by decide)]; exact put_same _ _ _ (by simp only [put_size]; exact of_decide_eq_true rfl)) (by exact put_same _ _ _ (by simp only [put_size]; exact of_decide_eq_true rfl)) k h h'
          · exact fun k h h' => ap 25 37 49 61 _ _ v49 v61 _ h49.1 _ h61.1 (by omega) (by omega) (by omega) rfl rfl rfl rfl (by rw [put_other _ _ _ _ (by decide), put_other _ _ _ _ (by decide), put_other _ _ _ _ (by decide), put_other _ _ _ _ (by decide)]; exact put_same _ _ _ (by simp only [put_size]; exact of_decide_eq_true rfl)) (by rw [put_other _ _ _ _ (by decide), put_other _ _ _ _ (by decide)]; exact put_same _ _ _ (by simp only [put_size]; exact of_decide_eq_true rfl)) k h h'
          · exact fun k h h' => ap 25 45 49 69 _ _ v49 v69 _ h49.1 _ h69.1 (by omega) (by omega) (by omega) rfl rfl rfl rfl (by rw [put_other _ _ _ _ (by decide), put_other _ _ _ _ (by decide), put_other _ _ _ _ (by decide), put_other _ _ _ _ (by decide)]; exact put_same _ _ _ (by simp only [put_size]; exact of_decide_eq_true rfl)) (by exact put_same _ _ _ (by simp only [put_size]; exact of_decide_eq_true rfl)) k h h'
          · exact fun k h h' => ap 37 45 61 69 _ _ v61 v69 _ h61.1 _ h69.1 (by omega) (by omega) (by omega) rfl rfl rfl rfl (by rw [put_other _ _ _ _ (by decide), put_other _ _ _ _ (by decide)]; exact put_same _ _ _ (by simp only [put_size]; exact of_decide_eq_true rfl)) (by exact put_same _ _ _ (by simp only [put_size]; exact of_decide_eq_true rfl)) k h h'
        clear hap hF hR k0 k1 h36 h49 h61 h69 hw5
        go_wp2
        go_roundw
        case rel => exact ⟨i + 1, by omega, by go_num, hR5, hF5⟩
        case measure => simp [intOf]; omega
    · obtain rfl : i = 256 := by omega
      have full := fun X : Nat => (show (bitsL X).take 256 = bitsL X from List.take_of_length_le (by rw [bitsL_len]; omega))
      rw [full X1, full X2, full X3, full X4] at hR
      obtain ⟨a1, c1, rfl, _⟩ := hR.p.form' 256 (bitsL_len X1)
      obtain ⟨a2, c2, rfl, _⟩ := hR.q.form' 256 (bitsL_len X2)
      obtain ⟨a3, c3, rfl, _⟩ := hR.r.form' 256 (bitsL_len X3)
      obtain ⟨a4, c4, rfl, _⟩ := hR.s.form' 256 (bitsL_len X4)
      have r1 := hR.p.row
      have r2 := hR.q.row
      have r3 := hR.r.row
      have r4 := hR.s.row
      clear full
      have y1 := hF.z1
      have y2 := hF.z2
      have y3 := hF.z3
      have y4 := hF.z4'
      have bel := hF.bel
      clear hF hR
      go_wp2_with (first
        | (go_at_call 77; (with_reducible refine (ofBits_l a1 256 c1 _ _ (bitsL_len X1) E1.out _ r1).mono ?_); rintro e w3 ⟨rfl, b3⟩; have s2 := RowOf.kept r2 b3; have s3 := RowOf.kept r3 b3; have s4 := RowOf.kept r4 b3; have y1a := y1.kept b3; have y2a := y2.kept b3; have y3a := y3.kept b3; have y4a := y4.kept b3; have bela := Below.then bel b3; clear r1 r2 r3 r4 y1 y2 y3 y4 bel b3)
        | (go_at_call 77; (with_reducible refine (ofBits_l a2 256 c2 _ _ (bitsL_len X2) E2.out _ s2).mono ?_); rintro e w4 ⟨rfl, b3⟩; have t3 := RowOf.kept s3 b3; have t4 := RowOf.kept s4 b3; have y1b := y1a.kept b3; have y2b := y2a.kept b3; have y3b := y3a.kept b3; have y4b := y4a.kept b3; have belb := Below.then bela b3; clear s2 s3 s4 y1a y2a y3a y4a bela b3)
        | (go_at_call 77; (with_reducible refine (ofBits_l a3 256 c3 _ _ (bitsL_len X3) E3.out _ t3).mono ?_); rintro e w5 ⟨rfl, b3⟩; have q4 := RowOf.kept t4 b3; have y1c := y1b.kept b3; have y2c := y2b.kept b3; have y3c := y3b.kept b3; have y4c := y4b.kept b3; have belc := Below.then belb b3; clear t3 t4 y1b y2b y3b y4b belb b3)
        | (go_at_call 77; (with_reducible refine (ofBits_l a4 256 c4 _ _ (bitsL_len X4) E4.out _ q4).mono ?_); rintro e w6 ⟨rfl, b3⟩; have y1d := y1c.kept b3; have y2d := y2c.kept b3; have y3d := y3c.kept b3; have y4d := y4c.kept b3; have beld := Below.then belc b3; clear q4 y1c y2c y3c y4c belc b3)
        | (refine wpList_storeA (by rfl) 24 (.tmp 4) (.tmp 72) (by rfl) (w.heap.size + 2) (wcs (N &&& A)) (by rfl) (by rfl) aggWord y1d (wcs_len _) (by first | exact wcs_len _ | rfl) (wcs_one _) (Below.refl _ _) (Nat.le_refl _) ?_; intro w7 o7 b7 g7; have y2e := y2d.grown g7 (by simp); have y3e := y3d.grown g7 (by simp); have y4e := y4d.grown g7 (by simp); have bele := beld.trans (b7.mono (by omega)); clear y1d y2d y3d y4d beld b7 g7)
        | (refine wpList_storeA (by rfl) 24 (.tmp 5) (.tmp 74) (by rfl) (w.heap.size + 3) (wcs (orN N A)) (by rfl) (by rfl) aggWord y2e (wcs_len _) (by first | exact wcs_len _ | rfl) (wcs_one _) (Below.refl _ _) (Nat.le_refl _) ?_; intro w8 o8 b8 g8; have p7 := o7.grown g8 (by simp); have y3f := y3e.grown g8 (by simp); have y4f := y4e.grown g8 (by simp); have belf := bele.trans (b8.mono (by omega)); clear o7 y2e y3e y4e bele b8 g8)
        | (refine wpList_storeA (by rfl) 24 (.tmp 6) (.tmp 76) (by rfl) (w.heap.size + 4) (wcs (N ^^^ A)) (by rfl) (by rfl) aggWord y3f (wcs_len _) (by first | exact wcs_len _ | rfl) (wcs_one _) (Below.refl _ _) (Nat.le_refl _) ?_; intro w9 o9 b9 g9; have q7 := p7.grown g9 (by simp); have q8 := o8.grown g9 (by simp); have y4g := y4f.grown g9 (by simp); have belg := belf.trans (b9.mono (by omega)); clear p7 o8 y3f y4f belf b9 g9)
        | (refine wpList_storeA (by rfl) 24 (.tmp 7) (.tmp 78) (by rfl) (w.heap.size + 5) (wcs (notN N)) (by rfl) (by rfl) aggWord y4g (wcs_len _) (by first | exact wcs_len _ | rfl) (wcs_one _) (Below.refl _ _) (Nat.le_refl _) ?_; intro w10 o10 b10 g10; have u7 := q7.grown g10 (by simp); have u8 := q8.grown g10 (by simp); have u9 := o9.grown g10 (by simp); have belh := belg.trans (b10.mono (by omega))))
      exact bodyPost_ret (results_blk4 rfl _ _ aggWord u7 u8 u9 o10 (wcs_len _) (wcs_len _) (wcs_len _) (wcs_len _) (by rfl) (by rfl) (by rfl) (by rfl)) rfl ⟨rfl, belh⟩
end Go.Proofs.Ytgmdbleeagfhpaa
