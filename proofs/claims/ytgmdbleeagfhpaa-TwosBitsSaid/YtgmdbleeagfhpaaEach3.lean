/- twos.And, Or, Xor, Not, Neg. -/
import Derived.Test.YtgmdbleeagfhpaaEach2
set_option linter.unusedSimpArgs false
set_option linter.unusedVariables false
namespace Go.Proofs.Ytgmdbleeagfhpaa
open Go.RowKit
theorem enters {f : FuncId} {fn : Func} {c : Code} (hf : Try.prog.funcs[f]? = some fn) (hname : (fn.name == "runtime.NumGoroutine") = false) (hb : fn.body = some c) (a b : Value) (w : World) :
    (callFunc f #[a, b]).run Try.prog w = .ok (.enter f #[a, b]) w := by
  have h1 : fn.name ≠ "runtime.NumGoroutine" := by simpa using hname
  simp [callFunc, hf, h1, hb]
theorem each_l (fn : FuncId) (G : Nat → Nat → Nat) (hf : ∀ (x y : Nat) w, x < 18446744073709551616 → y < 18446744073709551616 → Calls Try.prog fn #[.int .u64 (x : Int), .int .u64 (y : Int)] w fun e w' => e = .returned (.int .u64 (G x y : Nat)) ∧ Below w.heap.size w w')
    (hc : ∀ a b w, (callFunc fn #[a, b]).run Try.prog w = .ok (.enter fn #[a, b]) w)
    (N M R : Nat) (hR : ∀ i, i < 4 → lim R i = G (lim N i) (lim M i)) (w : World) :
    Calls Try.prog 86 #[.agg (wcs N).toArray, .agg (wcs M).toArray, .func (.func fn) #[] #[]] w fun e w' => e = .returned (.agg (wcs R).toArray) ∧ Below w.heap.size w w' := each_any fn G hf hc N M R hR w
set_option maxHeartbeats 400000 in
set_option maxRecDepth 100000 in
theorem and_f (x y : Nat) (w : World) (hx : x < 18446744073709551616) (hy : y < 18446744073709551616) : Calls Try.prog 87 #[.int .u64 (x : Int), .int .u64 (y : Int)] w fun e w' => e = .returned (.int .u64 ((x &&& y : Nat) : Int)) ∧ Below w.heap.size w w' := by
  have h := u64_and_nat x y hx hy
  generalize x &&& y = z at *
  go_enter Try.func87, Try.ntmps87
  go_wp2
  go_ret
  exact ⟨rfl, Below.refl _ _⟩
set_option maxHeartbeats 400000 in
set_option maxRecDepth 100000 in
theorem or_f (x y : Nat) (w : World) (hx : x < 18446744073709551616) (hy : y < 18446744073709551616) : Calls Try.prog 88 #[.int .u64 (x : Int), .int .u64 (y : Int)] w fun e w' => e = .returned (.int .u64 ((x ||| y : Nat) : Int)) ∧ Below w.heap.size w w' := by
  have h := u64_or_nat x y hx hy
  generalize x ||| y = z at *
  go_enter Try.func88, Try.ntmps88
  go_wp2
  go_ret
  exact ⟨rfl, Below.refl _ _⟩
set_option maxHeartbeats 400000 in
set_option maxRecDepth 100000 in
theorem xor_f (x y : Nat) (w : World) (hx : x < 18446744073709551616) (hy : y < 18446744073709551616) : Calls Try.prog 89 #[.int .u64 (x : Int), .int .u64 (y : Int)] w fun e w' => e = .returned (.int .u64 ((x ^^^ y : Nat) : Int)) ∧ Below w.heap.size w w' := by
  have h := u64_xor_nat x y hx hy
  generalize x ^^^ y = z at *
  go_enter Try.func89, Try.ntmps89
  go_wp2
  go_ret
  exact ⟨rfl, Below.refl _ _⟩
set_option maxHeartbeats 400000 in
set_option maxRecDepth 100000 in
theorem not_f (x y : Nat) (w : World) (hx : x < 18446744073709551616) (hy : y < 18446744073709551616) : Calls Try.prog 90 #[.int .u64 (x : Int), .int .u64 (y : Int)] w fun e w' => e = .returned (.int .u64 ((18446744073709551615 - x : Nat) : Int)) ∧ Below w.heap.size w w' := by
  have h := u64_xor_nat 18446744073709551615 x (by omega) hx
  have h2 : 18446744073709551615 ^^^ x = 18446744073709551615 - x := by
    apply Nat.eq_of_testBit_eq
    intro i
    have e1 := Nat.testBit_two_pow_sub_succ (x := x) (n := 64) hx i
    rw [show 2 ^ 64 - (x + 1) = 18446744073709551615 - x from by omega] at e1
    have e2 := Nat.testBit_two_pow_sub_one 64 i
    rw [show (2 : Nat) ^ 64 - 1 = 18446744073709551615 from rfl] at e2
    rw [e1, Nat.testBit_xor, e2]
    by_cases h64 : i < 64
    · simp [h64]
    · have : x.testBit i = false := Nat.testBit_lt_two_pow (Nat.lt_of_lt_of_le hx (Nat.pow_le_pow_right (n := 2) (by omega) (show 64 ≤ i by omega)))
      simp [h64, this]
  rw [h2] at h
  generalize 18446744073709551615 - x = z at *
  have e1 : bits .xor .u64 IntKind.u64.max (x : Int) = (z : Int) := h
  clear h h2
  go_enter Try.func90, Try.ntmps90
  go_wp2
  go_ret
  exact ⟨rfl, Below.refl _ _⟩
set_option maxHeartbeats 400000 in
set_option maxRecDepth 100000 in
theorem tand_any (N M : Nat) (w : World) : Calls Try.prog 34 #[wv N, wv M] w fun e w' => e = .returned (wv (N &&& M)) ∧ Below w.heap.size w w' := by
  obtain ⟨hb0, hd0, hz0, hbel0⟩ := box3 w N M
  obtain ⟨w1, hw1⟩ : ∃ w1, w1 = ((w.alloc (.cells (wcs N).toArray 24)).alloc (.cells (wcs M).toArray 24)).alloc (.cells z4.toArray 24) := ⟨_, rfl⟩
  rw [← hw1] at hb0 hd0 hz0 hbel0
  show Calls Try.prog 34 #[.agg (wcs N).toArray, .agg (wcs M).toArray] w _
  have Hw1 := Lib.hid hw1
  clear hw1
  go_enter Try.func34, Try.ntmps34
  go_wp2_with (first
    | (rw [show ((w.alloc (.cells (wcs N).toArray 24)).alloc (.cells (wcs M).toArray 24)).alloc (.cells #[.int .u64 0, .int .u64 0, .int .u64 0, .int .u64 0] 24) = w1 from by rw [Hw1.out]; rfl])
    | (refine wpList_loadA (o := ⟨some 5, _, _, _, _, _⟩) (by rfl) 24 (.tmp 2) (by rfl) (w.heap.size) (by rfl) aggWord hb0 (wcs_len _) ?_)
    | (refine wpList_loadA (o := ⟨some 6, _, _, _, _, _⟩) (by rfl) 24 (.tmp 3) (by rfl) (w.heap.size + 1) (by rfl) aggWord hd0 (wcs_len _) ?_)
    | (go_at_call 86; (with_reducible refine (each_l 87 (· &&& ·) and_f (enters Try.func87 (by decide) rfl) N M (N &&& M) (fun i _ => lim_and N M i) _).mono ?_); rintro e w2 ⟨rfl, b2⟩; have hz2 := hz0.kept b2)
    | (refine wpList_storeA (by rfl) 24 (.tmp 4) (.tmp 7) (by rfl) (w.heap.size + 2) (wcs (N &&& M)) (by rfl) (by rfl) aggWord hz2 (wcs_len _) (by first | exact wcs_len _ | rfl) (wcs_one _) (Below.refl _ _) (Nat.le_refl _) ?_; intro w7 hb7 b7 g7; have hbel7 := (Below.then hbel0 b2).trans (b7.mono (by omega))))
  exact bodyPost_ret (results_blk rfl _ _ (w.heap.size + 2) aggWord hb7 (wcs_len _) rfl) rfl ⟨rfl, hbel7⟩
def orN (N M : Nat) : Nat := N ||| M
theorem lim_orN (N M i : Nat) : lim (orN N M) i = lim N i ||| lim M i := lim_or N M i
set_option maxHeartbeats 400000 in
set_option maxRecDepth 100000 in
theorem tor_any (N M : Nat) (w : World) : Calls Try.prog 35 #[wv N, wv M] w fun e w' => e = .returned (wv (orN N M)) ∧ Below w.heap.size w w' := by
  obtain ⟨hb0, hd0, hz0, hbel0⟩ := box3 w N M
  obtain ⟨w1, hw1⟩ : ∃ w1, w1 = ((w.alloc (.cells (wcs N).toArray 24)).alloc (.cells (wcs M).toArray 24)).alloc (.cells z4.toArray 24) := ⟨_, rfl⟩
  rw [← hw1] at hb0 hd0 hz0 hbel0
  show Calls Try.prog 35 #[.agg (wcs N).toArray, .agg (wcs M).toArray] w _
  have Hw1 := Lib.hid hw1
  clear hw1
  go_enter Try.func35, Try.ntmps35
  go_wp2_with (first
    | (rw [show ((w.alloc (.cells (wcs N).toArray 24)).alloc (.cells (wcs M).toArray 24)).alloc (.cells #[.int .u64 0, .int .u64 0, .int .u64 0, .int .u64 0] 24) = w1 from by rw [Hw1.out]; rfl])
    | (refine wpList_loadA (o := ⟨some 5, _, _, _, _, _⟩) (by rfl) 24 (.tmp 2) (by rfl) (w.heap.size) (by rfl) aggWord hb0 (wcs_len _) ?_)
    | (refine wpList_loadA (o := ⟨some 6, _, _, _, _, _⟩) (by rfl) 24 (.tmp 3) (by rfl) (w.heap.size + 1) (by rfl) aggWord hd0 (wcs_len _) ?_)
    | (go_at_call 86; (with_reducible refine (each_l 88 (· ||| ·) or_f (enters Try.func88 (by decide) rfl) N M (orN N M) (fun i _ => lim_orN N M i) _).mono ?_); rintro e w2 ⟨rfl, b2⟩; have hz2 := hz0.kept b2)
    | (refine wpList_storeA (by rfl) 24 (.tmp 4) (.tmp 7) (by rfl) (w.heap.size + 2) (wcs (orN N M)) (by rfl) (by rfl) aggWord hz2 (wcs_len _) (by first | exact wcs_len _ | rfl) (wcs_one _) (Below.refl _ _) (Nat.le_refl _) ?_; intro w7 hb7 b7 g7; have hbel7 := (Below.then hbel0 b2).trans (b7.mono (by omega))))
  exact bodyPost_ret (results_blk rfl _ _ (w.heap.size + 2) aggWord hb7 (wcs_len _) rfl) rfl ⟨rfl, hbel7⟩
set_option maxHeartbeats 400000 in
set_option maxRecDepth 100000 in
theorem txor_any (N M : Nat) (w : World) : Calls Try.prog 36 #[wv N, wv M] w fun e w' => e = .returned (wv (N ^^^ M)) ∧ Below w.heap.size w w' := by
  obtain ⟨hb0, hd0, hz0, hbel0⟩ := box3 w N M
  obtain ⟨w1, hw1⟩ : ∃ w1, w1 = ((w.alloc (.cells (wcs N).toArray 24)).alloc (.cells (wcs M).toArray 24)).alloc (.cells z4.toArray 24) := ⟨_, rfl⟩
  rw [← hw1] at hb0 hd0 hz0 hbel0
  show Calls Try.prog 36 #[.agg (wcs N).toArray, .agg (wcs M).toArray] w _
  have Hw1 := Lib.hid hw1
  clear hw1
  go_enter Try.func36, Try.ntmps36
  go_wp2_with (first
    | (rw [show ((w.alloc (.cells (wcs N).toArray 24)).alloc (.cells (wcs M).toArray 24)).alloc (.cells #[.int .u64 0, .int .u64 0, .int .u64 0, .int .u64 0] 24) = w1 from by rw [Hw1.out]; rfl])
    | (refine wpList_loadA (o := ⟨some 5, _, _, _, _, _⟩) (by rfl) 24 (.tmp 2) (by rfl) (w.heap.size) (by rfl) aggWord hb0 (wcs_len _) ?_)
    | (refine wpList_loadA (o := ⟨some 6, _, _, _, _, _⟩) (by rfl) 24 (.tmp 3) (by rfl) (w.heap.size + 1) (by rfl) aggWord hd0 (wcs_len _) ?_)
    | (go_at_call 86; (with_reducible refine (each_l 89 (· ^^^ ·) xor_f (enters Try.func89 (by decide) rfl) N M (N ^^^ M) (fun i _ => lim_xor N M i) _).mono ?_); rintro e w2 ⟨rfl, b2⟩; have hz2 := hz0.kept b2)
    | (refine wpList_storeA (by rfl) 24 (.tmp 4) (.tmp 7) (by rfl) (w.heap.size + 2) (wcs (N ^^^ M)) (by rfl) (by rfl) aggWord hz2 (wcs_len _) (by first | exact wcs_len _ | rfl) (wcs_one _) (Below.refl _ _) (Nat.le_refl _) ?_; intro w7 hb7 b7 g7; have hbel7 := (Below.then hbel0 b2).trans (b7.mono (by omega))))
  exact bodyPost_ret (results_blk rfl _ _ (w.heap.size + 2) aggWord hb7 (wcs_len _) rfl) rfl ⟨rfl, hbel7⟩
set_option maxHeartbeats 400000 in
set_option maxRecDepth 100000 in
theorem tnot_any (N : Nat) (hN : N < W256) (w : World) : Calls Try.prog 37 #[wv N] w fun e w' => e = .returned (wv (notN N)) ∧ Below w.heap.size w w' := by
  obtain ⟨hb0, hz0, hbel0⟩ := box1r w N
  obtain ⟨w1, hw1⟩ : ∃ w1, w1 = (w.alloc (.cells (wcs N).toArray 24)).alloc (.cells z4.toArray 24) := ⟨_, rfl⟩
  rw [← hw1] at hb0 hz0 hbel0
  show Calls Try.prog 37 #[.agg (wcs N).toArray] w _
  have Hw1 := Lib.hid hw1
  clear hw1
  go_enter Try.func37, Try.ntmps37
  go_wp2_with (first
    | (rw [show (w.alloc (.cells (wcs N).toArray 24)).alloc (.cells #[.int .u64 0, .int .u64 0, .int .u64 0, .int .u64 0] 24) = w1 from by rw [Hw1.out]; rfl])
    | (refine wpList_loadA (o := ⟨some 3, _, _, _, _, _⟩) (by rfl) 24 (.tmp 1) (by rfl) (w.heap.size) (by rfl) aggWord hb0 (wcs_len _) ?_)
    | (refine wpList_loadA (o := ⟨some 4, _, _, _, _, _⟩) (by rfl) 24 (.tmp 1) (by rfl) (w.heap.size) (by rfl) aggWord hb0 (wcs_len _) ?_)
    | (go_at_call 86; (with_reducible refine (each_l 90 (fun x _ => 18446744073709551615 - x) not_f (enters Try.func90 (by decide) rfl) N N (notN N) (fun i hi => lim_not N i hN hi) _).mono ?_); rintro e w2 ⟨rfl, b2⟩; have hz2 := hz0.kept b2)
    | (refine wpList_storeA (by rfl) 24 (.tmp 2) (.tmp 5) (by rfl) (w.heap.size + 1) (wcs (notN N)) (by rfl) (by rfl) aggWord hz2 (wcs_len _) (by first | exact wcs_len _ | rfl) (wcs_one _) (Below.refl _ _) (Nat.le_refl _) ?_; intro w7 hb7 b7 g7; have hbel7 := (Below.then hbel0 b2).trans (b7.mono (by omega))))
  exact bodyPost_ret (results_blk rfl _ _ (w.heap.size + 1) aggWord hb7 (wcs_len _) rfl) rfl ⟨rfl, hbel7⟩
end Go.Proofs.Ytgmdbleeagfhpaa
