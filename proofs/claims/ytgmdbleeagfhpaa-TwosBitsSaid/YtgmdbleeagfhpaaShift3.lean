/- twos.Shl. -/
import Derived.Test.YtgmdbleeagfhpaaShift2
set_option linter.unusedSimpArgs false
set_option linter.unusedVariables false
namespace Go.Proofs.Ytgmdbleeagfhpaa
open Go.RowKit
theorem far_l (N : Nat) (hN : N < W256) (b : Bool) (hb : decide (256 ≤ N) = b) (w : World) : Calls Try.prog 76 #[.agg (wcs N).toArray] w fun e w' => e = .returned (.bool b) ∧ Below w.heap.size w w' := by subst hb; exact far_any N hN w
theorem wrap_mul (x s : Nat) : IntKind.u64.wrap ((x : Int) * (2 : Int) ^ s) = ((x * 2 ^ s % 18446744073709551616 : Nat) : Int) := by
  rw [show (x : Int) * (2 : Int) ^ s = ((x * 2 ^ s : Nat) : Int) from by simp]
  generalize x * 2 ^ s = y
  rw [IntKind.wrap_u64]; omega
theorem shl_far (A n : Nat) (hn : 256 ≤ n) : shlN A n = 0 := by
  unfold shlN
  obtain ⟨t, rfl⟩ : ∃ t, n = 256 + t := ⟨n - 256, by omega⟩
  rw [Nat.pow_add, show (2 : Nat) ^ 256 = W256 from rfl, Nat.mul_left_comm, Nat.mul_mod_right]
/-- The arguments, the result, a word of its own by its cells. -/
structure FrS (w : World) (N A : Nat) (cs : List Value) (u : World) : Prop where
  b : Blk 24 u w.heap.size (wcs N)
  d : Blk 24 u (w.heap.size + 1) (wcs A)
  z : Blk 24 u (w.heap.size + 2) z4
  o : Blk 24 u (w.heap.size + 3) cs
  bel : Below w.heap.size w u
theorem FrS.drew {w u : World} {N A : Nat} {cs : List Value} (h : FrS w N A cs u) : FrS w N A cs u.drew := ⟨h.b.drew, h.d.drew, h.z.drew, h.o.drew, h.bel.drew⟩
theorem FrS.kept {w u u' : World} {N A : Nat} {cs : List Value} (h : FrS w N A cs u) (hb : Below u.heap.size u u') : FrS w N A cs u' := ⟨h.b.kept hb, h.d.kept hb, h.z.kept hb, h.o.kept hb, h.bel.trans (hb.mono h.bel.size)⟩
theorem FrS.set {w u : World} {N A : Nat} {cs : List Value} (h : FrS w N A cs u) (k : Nat) (x : Value) : FrS w N A (cs.set k x) (u.setCell ⟨w.heap.size + 3, k, none⟩ x) :=
  ⟨h.b.other _ (by simp) _, h.d.other _ (by simp) _, h.z.other _ (by simp) _, h.o.set k x, h.bel.setCell (by simp) _⟩
theorem boxS (w : World) (N A : Nat) : FrS w N A z4 ((((w.alloc (.cells (wcs N).toArray 24)).alloc (.cells (wcs A).toArray 24)).alloc (.cells z4.toArray 24)).alloc (.cells z4.toArray 24)) := by
  obtain ⟨h1, h2, h3, h4⟩ := box3 w N A
  refine ⟨h1.alloc _, h2.alloc _, h3.alloc _, ?_, h4.alloc (by simp; omega) _⟩
  have := Blk.new (((w.alloc (.cells (wcs N).toArray 24)).alloc (.cells (wcs A).toArray 24)).alloc (.cells z4.toArray 24)) 24 z4
  simpa using this
theorem fill_low (T : List Value) (z : Value) (k : Nat) (hk : k ≤ T.length) (h : ∀ i, i < k → T[i]? = some z) : fillL T z k = List.replicate T.length z := by
  unfold fillL
  apply List.ext_getElem?
  intro i
  rcases Nat.lt_or_ge i k with hi | hi
  · rw [List.getElem?_append_left (by simp; omega), List.getElem?_take, if_pos hi, h i hi, List.getElem?_replicate, if_pos (by omega)]
  · rw [List.getElem?_append_right (by simp; omega), List.getElem?_replicate, List.getElem?_replicate]
    simp only [List.length_take]
    by_cases h2 : i < T.length
    · rw [if_pos (by omega), if_pos h2]
    · rw [if_neg (by omega), if_neg h2]
theorem fill_same (T : List Value) (z : Value) (i : Nat) (u v : Value) (hi : i < T.length) : ((fillL T z i).set i u).set i v = (fillL T z i).set i v := by rw [List.set_set]
set_option maxHeartbeats 800000 in
set_option maxRecDepth 100000 in
theorem shl_any (N A : Nat) (hN : N < W256) (w : World) :
    Calls Try.prog 23 #[wv N, wv A] w fun e w' => e = .returned (wv (shlN A N)) ∧ Below w.heap.size w w' := by
  have hF0 := boxS w N A
  obtain ⟨w1, hw1⟩ : ∃ w1, w1 = (((w.alloc (.cells (wcs N).toArray 24)).alloc (.cells (wcs A).toArray 24)).alloc (.cells z4.toArray 24)).alloc (.cells z4.toArray 24) := ⟨_, rfl⟩
  rw [← hw1] at hF0
  show Calls Try.prog 23 #[.agg (wcs N).toArray, .agg (wcs A).toArray] w _
  have Hw1 := Lib.hid hw1
  clear hw1
  by_cases hfar : 256 ≤ N
  · have Hd := Lib.hid (decide_eq_true hfar)
    have Hs := Lib.hid (shl_far A N hfar)
    have hF1 : FrS w N A (wcs 0) w1 := by rw [z4_zero]; exact hF0
    clear hfar hF0
    go_enter Try.func23, Try.ntmps23
    go_wp2_with (first
      | (rw [show (((w.alloc (.cells (wcs N).toArray 24)).alloc (.cells (wcs A).toArray 24)).alloc (.cells #[.int .u64 0, .int .u64 0, .int .u64 0, .int .u64 0] 24)).alloc (.cells #[.int .u64 0, .int .u64 0, .int .u64 0, .int .u64 0] 24) = w1 from by rw [Hw1.out]; rfl])
      | (refine wpList_loadA (o := ⟨some 9, _, _, _, _, _⟩) (by rfl) 24 (.tmp 2) (by rfl) (w.heap.size) (by rfl) aggWord hF1.b (wcs_len _) ?_)
      | (go_at_call 76; (with_reducible refine (far_l N hN true Hd.out _).mono ?_); rintro e w2 ⟨rfl, b2⟩; have hF2 := hF1.kept b2)
      | (refine wpList_loadA (o := ⟨some 11, _, _, _, _, _⟩) (by rfl) 24 (.tmp 5) (by rfl) (w.heap.size + 3) (by rfl) aggWord hF2.o (wcs_len _) ?_)
      | (refine wpList_storeA (by rfl) 24 (.tmp 4) (.tmp 11) (by rfl) (w.heap.size + 2) (wcs (0)) (by rfl) (by rfl) aggWord hF2.z (wcs_len _) (by first | exact wcs_len _ | rfl) (wcs_one _) (Below.refl _ _) (Nat.le_refl _) ?_; intro w7 hb7 b7 g7; have hbel7 := hF2.bel.trans (b7.mono (by omega))))
    exact bodyPost_ret (results_blk rfl _ _ (w.heap.size + 2) aggWord hb7 (wcs_len _) rfl) rfl ⟨by rw [Hs.out]; rfl, hbel7⟩
  · have Hd := Lib.hid (decide_eq_false hfar)
    obtain ⟨k, hk⟩ : ∃ k, k = N / 64 := ⟨_, rfl⟩
    obtain ⟨s, hs⟩ : ∃ s, s = N % 64 := ⟨_, rfl⟩
    have hNk : N = 64 * k + s := by omega
    have hk4 : k < 4 := by omega
    have hs64 : s < 64 := by omega
    have hl0 : lim N 0 = N := by rw [lim0]; omega
    obtain ⟨T, hT⟩ : ∃ T, T = wcs (shlN A N) := ⟨_, rfl⟩
    have hTn : T.length = 4 := by rw [hT]; rfl
    have hTi : ∀ i, i < 4 → T[i]? = some (.int .u64 ((if i < k then 0 else if i = k then lim A 0 * 2 ^ s % 18446744073709551616 else lim A (i - k) * 2 ^ s % 18446744073709551616 + lim A (i - k - 1) / 2 ^ (64 - s) : Nat) : Int)) := by
      intro i hi
      rw [hT, wcs_at _ i hi, hNk, lim_shl A k s i hs64 hi]
    have hlow := fill_low T (.int .u64 0) k (by omega) (fun i hi => by rw [hTi i (by omega), if_pos hi]; rfl)
    have c0 := hF0.b.wat 0 (by omega)
    rw [hl0] at c0
    have hN0 : (N : Int) < 256 := by omega
    have e1 : (N : Int) / 64 = (k : Int) := by omega
    have e2 : (N : Int) % 64 = (s : Int) := by omega
    have e2t : (N : Int).tmod 64 = (s : Int) := by rw [Int.tmod_eq_emod_of_nonneg (by omega)]; exact e2
    have e1t : (N : Int).tdiv 64 = (k : Int) := by rw [Int.tdiv_eq_ediv_of_nonneg (by omega)]; exact e1
    have ek : IntKind.i64.wrap (k : Int) = (k : Int) := IntWalk.i64_in _ (by omega)
    have eku : IntKind.u64.wrap (k : Int) = (k : Int) := by rw [IntKind.wrap_u64]; omega
    have HT := Lib.hid hT
    have HTn := Lib.hid hTn
    have HTi := Lib.hid hTi
    have Hlow := Lib.hid hlow
    have HNk := Lib.hid hNk
    clear hfar hk hs hNk hl0 hT hTn hTi hlow
    go_enter Try.func23, Try.ntmps23
    go_wp2_with (first
      | (rw [show (((w.alloc (.cells (wcs N).toArray 24)).alloc (.cells (wcs A).toArray 24)).alloc (.cells #[.int .u64 0, .int .u64 0, .int .u64 0, .int .u64 0] 24)).alloc (.cells #[.int .u64 0, .int .u64 0, .int .u64 0, .int .u64 0] 24) = w1 from by rw [Hw1.out]; rfl])
      | (refine wpList_loadA (o := ⟨some 9, _, _, _, _, _⟩) (by rfl) 24 (.tmp 2) (by rfl) (w.heap.size) (by rfl) aggWord hF0.b (wcs_len _) ?_)
      | (go_at_call 76; (with_reducible refine (far_l N hN false Hd.out _).mono ?_); rintro e w2 ⟨rfl, b2⟩; have hF2 := hF0.kept b2))
    have c2 := hF2.b.wat 0 (by omega)
    rw [show lim N 0 = N from by have := HNk.out; rw [lim0]; omega] at c2
    have k0 := fun u : Ext w2 => u.cell c2
    refine wp_region_typed w2 9 (by kernel_rfl) (by kernel_rfl) (Below.refl _ _) ?_; simp only [List.take_succ_cons, List.take_zero, List.take_nil]
    iterate 9 (refine wpX_step (by rfl) (fun K hK => ?_); go_simp; first | (refine hK _ ?_; clear hK K) | (apply Exists.intro; refine ⟨fun _ => ?_, hK _ ?_⟩; fail; clear hK K))
    refine wpX_end rfl ?_
    rintro w3 hw3
    simp only [List.reverse_nil, forallRel]
    have hF3 := hF2.kept hw3
    rw [show z4 = fillL T (.int .u64 0) k from by rw [Hlow.out, HTn.out]; rfl] at hF3
    clear k0 c2 c0 hF0 hF2 hw3 b2
    go_wp2
    go_loopw [8] (fun ix wr => ∃ i : Nat, k ≤ i ∧ i ≤ 4 ∧ ix = .int .i64 (i : Int) ∧ FrS w N A (fillL T (.int .u64 0) i) wr) (fun i _ => 4 - (intOf i).toNat)
    case atStart => exact ⟨k, Nat.le_refl _, by omega, rfl, hF3⟩
    case round =>
      clear hF3
      obtain ⟨i, hki, hi, rfl, hF⟩ := hrel
      by_cases hlt : i < 4
      · have hii : (i : Int) < 4 := by omega
        have hin : i < (fillL T (.int .u64 0) i).length := by rw [fill_len _ _ _ (by rw [HTn.out]; omega), HTn.out]; exact hlt
        have hTi := HTi.out i hlt
        rw [if_neg (by omega)] at hTi
        obtain ⟨d, hd⟩ : ∃ d, d = i - k := ⟨_, rfl⟩
        have ed : (i : Int) - (k : Int) = (d : Int) := by omega
        have hd4 : d < 4 := by omega
        have hdi : (d : Int) < 4 := by omega
        have hca := hF.d.wat d hd4
        have hw1 := wrap_mul (lim A d) s
        obtain ⟨X, hX⟩ : ∃ X, X = lim A d * 2 ^ s % 18446744073709551616 := ⟨_, rfl⟩
        rw [← hX] at hw1
        have hX64 : X < 18446744073709551616 := by rw [hX]; exact Nat.mod_lt _ (by omega)
        obtain ⟨y2, hy2⟩ := hF.o.has i hin
        have hf2 := hF.o.free i
        have hset := hF.set i (.int .u64 (X : Int))
        by_cases hik : i = k
        · have hd0 : d = 0 := by omega
          rw [if_pos hik, ← hd0, ← hX] at hTi
          have hfs := fill_set' T (.int .u64 0) i _ hTi
          rw [hfs] at hset
          have hg : decide ((k : Int) < (i : Int)) = false := by rw [decide_eq_false_iff_not]; omega
          have hg2 : decide (k < i) = false := by rw [decide_eq_false_iff_not]; omega
          clear hd0 hTi hfs hd hX hin hF hik
          go_wp2
          go_roundw
          case rel => exact ⟨i + 1, by omega, by omega, by go_num, hset⟩
          case measure => simp [intOf]; omega
        · rw [if_neg hik, ← hd, ← hX] at hTi
          have hfs := fill_set' T (.int .u64 0) i _ hTi
          have hg : decide ((k : Int) < (i : Int)) = true := by rw [decide_eq_true_eq]; omega
          have hg2 : decide (k < i) = true := by rw [decide_eq_true_eq]; omega
          obtain ⟨d1, hd1⟩ : ∃ d1, d1 = d - 1 := ⟨_, rfl⟩
          have ed1 : (d : Int) - 1 = (d1 : Int) := by omega
          have ew : IntKind.i64.wrap (d : Int) = (d : Int) := IntWalk.i64_in _ (by omega)
          have ew1 : IntKind.i64.wrap (d1 : Int) = (d1 : Int) := IntWalk.i64_in _ (by omega)
          have hd14 : (d1 : Int) < 4 := by omega
          rw [show d - 1 = d1 from hd1.symm] at hTi hfs
          obtain ⟨s2, hs2⟩ : ∃ s2, s2 = 64 - s := ⟨_, rfl⟩
          have es2 : (64 : Int) - (s : Int) = (s2 : Int) := by omega
          have eu2 : IntKind.u64.wrap (s2 : Int) = (s2 : Int) := by rw [IntKind.wrap_u64]; omega
          have hs2b : (s2 : Int) ≤ 64 := by omega
          rw [← hs2] at hTi hfs
          obtain ⟨Y, hY⟩ : ∃ Y, Y = lim A d1 / 2 ^ s2 := ⟨_, rfl⟩
          have eY : (lim A d1 : Int) / 2 ^ s2 = (Y : Int) := by rw [hY]; simp
          rw [← hY] at hTi hfs
          have hXm : X % 2 ^ s = 0 := by
            rw [hX, B_split s (by omega), Nat.mul_comm, Nat.mul_mod_mul_left]
            exact Nat.mul_mod_right _ _
          have hYl : Y < 2 ^ s := by
            rw [hY, hs2, Nat.div_lt_iff_lt_mul (Nat.two_pow_pos _), ← B_split s (by omega)]
            exact lim_lt _ _
          have hor : bits .or .u64 (X : Int) (Y : Int) = ((X + Y : Nat) : Int) := u64_or_add X Y s hX64 (by omega) hXm hYl
          obtain ⟨Z, hZ⟩ : ∃ Z, Z = X + Y := ⟨_, rfl⟩
          rw [← hZ] at hor hTi hfs
          have Hfs := Lib.hid hfs
          have hlA := lim_lt A d1
          clear hTi hfs hd hX hY hXm hYl hZ hs2 hd1 hF
          obtain ⟨u1, hu1⟩ : ∃ u1, u1 = wr.setCell ⟨w.heap.size + 3, i, none⟩ (.int .u64 (X : Int)) := ⟨_, rfl⟩
          rw [← hu1] at hset
          have hca2 := hset.d.wat d1 (by omega)
          have hco := hset.o.cell i
          rw [List.getElem?_set_self hin] at hco
          have k0 := fun u : Ext u1 => u.cell hca2
          have k1 := fun u : Ext u1 => u.cell hco
          have Hu1 := Lib.hid hu1
          clear hu1
          go_wp2
          rw [show wr.setCell ⟨w.heap.size + 3, i, none⟩ (.int .u64 (X : Int)) = u1 from Hu1.out.symm]
          clear Hu1 hca hca2 hco
          refine wp_region_typed u1 14 (by kernel_rfl) (by kernel_rfl) (Below.refl _ _) ?_; simp only [List.take_succ_cons, List.take_zero, List.take_nil]
          iterate 14 (refine wpX_step (by rfl) (fun K hK => ?_); go_simp; first | (refine hK _ ?_; clear hK K) | (apply Exists.intro; refine ⟨fun _ => ?_, hK _ ?_⟩; fail; clear hK K))
          refine wpX_nil ?_
          intro u2 hb2
          change wpList _ _ _ [_] _ _
          have hF2 := hset.kept hb2
          obtain ⟨y3, hy3⟩ := hF2.o.has i (by simpa using hin)
          have hf3 := hF2.o.free i
          have hF3 := hF2.set i (.int .u64 (Z : Int))
          rw [fill_same _ _ _ _ _ (by rw [HTn.out]; exact hlt), Hfs.out] at hF3
          clear hset hF2 k0 k1
          go_wp2
          go_roundw
          case rel => exact ⟨i + 1, by omega, by omega, by go_num, hF3⟩
          case measure => simp [intOf]; omega
      · obtain rfl : i = 4 := by omega
        have hfin := fill_end T (.int .u64 0)
        rw [HTn.out] at hfin
        rw [hfin, HT.out] at hF
        clear hfin
        go_wp2_with (first
          | (refine wpList_loadA (o := ⟨some 50, _, _, _, _, _⟩) (by rfl) 24 (.tmp 5) (by rfl) (w.heap.size + 3) (by rfl) aggWord hF.o (wcs_len _) ?_)
          | (refine wpList_storeA (by rfl) 24 (.tmp 4) (.tmp 50) (by rfl) (w.heap.size + 2) (wcs (shlN A N)) (by rfl) (by rfl) aggWord hF.z (wcs_len _) (by first | exact wcs_len _ | rfl) (wcs_one _) (Below.refl _ _) (Nat.le_refl _) ?_; intro w7 hb7 b7 g7; have hbel7 := hF.bel.trans (b7.mono (by omega))))
        exact bodyPost_ret (results_blk rfl _ _ (w.heap.size + 2) aggWord hb7 (wcs_len _) rfl) rfl ⟨rfl, hbel7⟩
end Go.Proofs.Ytgmdbleeagfhpaa
