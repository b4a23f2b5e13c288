/- twos.Shr. -/
import Derived.Test.YtgmdbleeagfhpaaShift3
set_option linter.unusedSimpArgs false
set_option linter.unusedVariables false
namespace Go.Proofs.Ytgmdbleeagfhpaa
open Go.RowKit
theorem shr_far (A n : Nat) (hA : A < W256) (hn : 256 ≤ n) : A / 2 ^ n = 0 :=
  Nat.div_eq_of_lt (Nat.lt_of_lt_of_le hA (Nat.pow_le_pow_right (n := 2) (by omega) hn))
theorem fill_high (T : List Value) (z : Value) (k : Nat) (h : ∀ i, k ≤ i → i < T.length → T[i]? = some z) : fillL T z k = T := by
  unfold fillL
  apply List.ext_getElem?
  intro i
  rcases Nat.lt_or_ge i k with hi | hi
  · by_cases h2 : i < T.length
    · rw [List.getElem?_append_left (by simp; omega), List.getElem?_take, if_pos hi]
    · rw [List.getElem?_eq_none (by simp; omega), List.getElem?_eq_none (by omega)]
  · by_cases h2 : i < T.length
    · rw [List.getElem?_append_right (by simp; omega), List.getElem?_replicate, h i hi h2]
      simp only [List.length_take]
      rw [if_pos (by omega)]
    · rw [List.getElem?_eq_none (by simp; omega), List.getElem?_eq_none (by omega)]
set_option maxHeartbeats 800000 in
set_option maxRecDepth 100000 in
theorem shr_any (N A : Nat) (hN : N < W256) (hA : A < W256) (w : World) :
    Calls Try.prog 25 #[wv N, wv A] w fun e w' => e = .returned (wv (A / 2 ^ N)) ∧ Below w.heap.size w w' := by
  have hF0 := boxS w N A
  obtain ⟨w1, hw1⟩ : ∃ w1, w1 = (((w.alloc (.cells (wcs N).toArray 24)).alloc (.cells (wcs A).toArray 24)).alloc (.cells z4.toArray 24)).alloc (.cells z4.toArray 24) := ⟨_, rfl⟩
  rw [← hw1] at hF0
  show Calls Try.prog 25 #[.agg (wcs N).toArray, .agg (wcs A).toArray] w _
  have Hw1 := Lib.hid hw1
  clear hw1
  by_cases hfar : 256 ≤ N
  · have Hd := Lib.hid (decide_eq_true hfar)
    have Hs := Lib.hid (shr_far A N hA hfar)
    have hF1 : FrS w N A (wcs 0) w1 := by rw [z4_zero]; exact hF0
    clear hfar hF0
    go_enter Try.func25, Try.ntmps25
    go_wp2_with (first
      | (rw [show (((w.alloc (.cells (wcs N).toArray 24)).alloc (.cells (wcs A).toArray 24)).alloc (.cells #[.int .u64 0, .int .u64 0, .int .u64 0, .int .u64 0] 24)).alloc (.cells #[.int .u64 0, .int .u64 0, .int .u64 0, .int .u64 0] 24) = w1 from by rw [Hw1.out]; rfl])
      | (refine wpList_loadA (o := ⟨some 9, _, _, _, _, _⟩) (by rfl) 24 (.tmp 2) (by rfl) (w.heap.size) (by rfl) aggWord hF1.b (wcs_len _) ?_)
      | (go_at_call 76; (with_reducible refine (far_l N hN true Hd.out _).mono ?_); rintro e w2 ⟨rfl, b2⟩; have hF2 := hF1.kept b2)
      | (refine wpList_loadA (o := ⟨some 11, _, _, _, _, _⟩) (by rfl) 24 (.tmp 5) (by rfl) (w.heap.size + 3) (by rfl) aggWord hF2.o (wcs_len _) ?_)
      | (refine wpList_storeA (by rfl) 24 (.tmp 4) (.tmp 11) (by rfl) (w.heap.size + 2) (wcs (0)) (by rfl) (by rfl) aggWord hF2.z (wcs_len _) (by first | exact wcs_len _ | rfl) (wcs_one _) (Below.refl _ _) (Nat.le_refl _) ?_; intro w7 hb7 b7 g7; have hbel7 := hF2.bel.trans (b7.mono (by omega))))
    exact bodyPost_ret (results_blk rfl _ _ (w.heap.size + 2) aggWord hb7 (wcs_len _) rfl) rfl ⟨by rw [Hs.out]; rfl, hbel7⟩
  · have Hd := Lib.hid (decide_eq_false hfar)
    obtain ⟨k, hk⟩ : ∃ k, k = N / 64 := ⟨_, rfl⟩
    obtain ⟨s, hs⟩ : ∃ s, s = N % 64 := ⟨_, rfl⟩
    have hNk : N = 64 * k + s := by omega
    have hk4 : k < 4 := by omega
    have hs64 : s < 64 := by omega
    have hl0 : lim N 0 = N := by rw [lim0]; omega
    obtain ⟨T, hT⟩ : ∃ T, T = wcs (A / 2 ^ N) := ⟨_, rfl⟩
    have hTn : T.length = 4 := by rw [hT]; rfl
    have hTi : ∀ i, i < 4 → T[i]? = some (.int .u64 ((lim A (i + k) / 2 ^ s + lim A (i + k + 1) * 2 ^ (64 - s) % 18446744073709551616 : Nat) : Int)) := by
      intro i hi
      rw [hT, wcs_at _ i hi, hNk, lim_shr A k s i hs64]
    have hhi := fill_high T (.int .u64 0) (4 - k) (fun i hi h4 => by
      rw [hTi i (by omega), lim_zero_hi A (i + k) hA (by omega), lim_zero_hi A (i + k + 1) hA (by omega)]; simp)
    have c0 := hF0.b.wat 0 (by omega)
    rw [hl0] at c0
    have hN0 : (N : Int) < 256 := by omega
    have e1 : (N : Int) / 64 = (k : Int) := by omega
    have e2 : (N : Int) % 64 = (s : Int) := by omega
    have e2t : (N : Int).tmod 64 = (s : Int) := by rw [Int.tmod_eq_emod_of_nonneg (by omega)]; exact e2
    have e1t : (N : Int).tdiv 64 = (k : Int) := by rw [Int.tdiv_eq_ediv_of_nonneg (by omega)]; exact e1
    have ek : IntKind.i64.wrap (k : Int) = (k : Int) := IntWalk.i64_in _ (by omega)
    have eku : IntKind.u64.wrap (k : Int) = (k : Int) := by rw [IntKind.wrap_u64]; omega
    have HT := Lib.hid hT
    have HTn := Lib.hid hTn
    have HTi := Lib.hid hTi
    have Hhi := Lib.hid hhi
    have HNk := Lib.hid hNk
    clear hfar hk hs hNk hl0 hT hTn hTi hhi
    go_enter Try.func25, Try.ntmps25
    go_wp2_with (first
      | (rw [show (((w.alloc (.cells (wcs N).toArray 24)).alloc (.cells (wcs A).toArray 24)).alloc (.cells #[.int .u64 0, .int .u64 0, .int .u64 0, .int .u64 0] 24)).alloc (.cells #[.int .u64 0, .int .u64 0, .int .u64 0, .int .u64 0] 24) = w1 from by rw [Hw1.out]; rfl])
      | (refine wpList_loadA (o := ⟨some 9, _, _, _, _, _⟩) (by rfl) 24 (.tmp 2) (by rfl) (w.heap.size) (by rfl) aggWord hF0.b (wcs_len _) ?_)
      | (go_at_call 76; (with_reducible refine (far_l N hN false Hd.out _).mono ?_); rintro e w2 ⟨rfl, b2⟩; have hF2 := hF0.kept b2))
    have c2 := hF2.b.wat 0 (by omega)
    rw [show lim N 0 = N from by have := HNk.out; rw [lim0]; omega] at c2
    have k0 := fun u : Ext w2 => u.cell c2
    refine wp_region_typed w2 9 (by kernel_rfl) (by kernel_rfl) (Below.refl _ _) ?_; simp only [List.take_succ_cons, List.take_zero, List.take_nil]
    iterate 9 (refine wpX_step (by rfl) (fun K hK => ?_); go_simp; first | (refine hK _ ?_; clear hK K) | (apply Exists.intro; refine ⟨fun _ => ?_, hK _ ?_⟩; fail; clear hK K))
    refine wpX_end rfl ?_
    rintro w3 hw3
    simp only [List.reverse_nil, forallRel]
    have hF3 := hF2.kept hw3
    rw [show z4 = fillL T (.int .u64 0) 0 from by rw [fill_zero, HTn.out]; rfl] at hF3
    clear k0 c2 c0 hF0 hF2 hw3 b2
    go_wp2
    go_loopw [8] (fun ix wr => ∃ i : Nat, i + k ≤ 4 ∧ ix = .int .i64 (i : Int) ∧ FrS w N A (fillL T (.int .u64 0) i) wr) (fun i _ => 4 - (intOf i).toNat)
    case atStart => exact ⟨0, by omega, rfl, hF3⟩
    case round =>
      clear hF3
      obtain ⟨i, hi, rfl, hF⟩ := hrel
      obtain ⟨d, hd⟩ : ∃ d, d = i + k := ⟨_, rfl⟩
      have ed : (i : Int) + (k : Int) = (d : Int) := by omega
      have ew : IntKind.i64.wrap (d : Int) = (d : Int) := IntWalk.i64_in _ (by omega)
      by_cases hlt : d < 4
      · have hdi : (d : Int) < 4 := by omega
        have hi4 : i < 4 := by omega
        have hii : (i : Int) < 4 := by omega
        have hin : i < (fillL T (.int .u64 0) i).length := by rw [fill_len _ _ _ (by rw [HTn.out]; omega), HTn.out]; exact hi4
        have hTi := HTi.out i hi4
        rw [← hd] at hTi
        have hca := hF.d.wat d hlt
        obtain ⟨X, hX⟩ : ∃ X, X = lim A d / 2 ^ s := ⟨_, rfl⟩
        rw [← hX] at hTi
        have eX : (lim A d : Int) / 2 ^ s = (X : Int) := by rw [hX]; simp
        obtain ⟨y2, hy2⟩ := hF.o.has i hin
        have hf2 := hF.o.free i
        have hset := hF.set i (.int .u64 (X : Int))
        by_cases hik : d = 3
        · rw [lim_zero_hi A (d + 1) hA (by omega), Nat.zero_mul, Nat.zero_mod, Nat.add_zero] at hTi
          have hfs := fill_set' T (.int .u64 0) i _ hTi
          rw [hfs] at hset
          have hg : decide ((d : Int) < 3) = false := by rw [decide_eq_false_iff_not]; omega
          clear hTi hfs hX hin hF hik hd
          go_wp2
          go_roundw
          case rel => exact ⟨i + 1, by omega, by go_num, hset⟩
          case measure => simp [intOf]; omega
        · have hfs := fill_set' T (.int .u64 0) i _ hTi
          have hg : decide ((d : Int) < 3) = true := by rw [decide_eq_true_eq]; omega
          obtain ⟨d1, hd1⟩ : ∃ d1, d1 = d + 1 := ⟨_, rfl⟩
          have ed1 : (d : Int) + 1 = (d1 : Int) := by omega
          have ew1 : IntKind.i64.wrap (d1 : Int) = (d1 : Int) := IntWalk.i64_in _ (by omega)
          have hd14 : (d1 : Int) < 4 := by omega
          rw [show d + 1 = d1 from hd1.symm] at hTi hfs
          obtain ⟨s2, hs2⟩ : ∃ s2, s2 = 64 - s := ⟨_, rfl⟩
          have es2 : (64 : Int) - (s : Int) = (s2 : Int) := by omega
          have eu2 : IntKind.u64.wrap (s2 : Int) = (s2 : Int) := by rw [IntKind.wrap_u64]; omega
          have hs2b : (s2 : Int) ≤ 64 := by omega
          rw [← hs2] at hTi hfs
          obtain ⟨Y, hY⟩ : ∃ Y, Y = lim A d1 * 2 ^ s2 % 18446744073709551616 := ⟨_, rfl⟩
          have eY := wrap_mul (lim A d1) s2
          rw [← hY] at hTi hfs eY
          have hYm : Y % 2 ^ s2 = 0 := by
            rw [hY, B_split s2 (by omega), Nat.mul_comm, Nat.mul_mod_mul_left]
            exact Nat.mul_mod_right _ _
          have hXl : X < 2 ^ s2 := by
            rw [hX, hs2, Nat.div_lt_iff_lt_mul (Nat.two_pow_pos _), Nat.mul_comm, ← B_split s (by omega)]
            exact lim_lt _ _
          have hX64 : X < 18446744073709551616 := by rw [hX]; exact Nat.lt_of_le_of_lt (Nat.div_le_self _ _) (lim_lt _ _)
          have hY64 : Y < 18446744073709551616 := by rw [hY]; exact Nat.mod_lt _ (by omega)
          have hor : bits .or .u64 (X : Int) (Y : Int) = ((X + Y : Nat) : Int) := by
            rw [u64_or_nat X Y hX64 hY64, Nat.or_comm, nat_join s2 Y X hYm hXl, Nat.add_comm]
          obtain ⟨Z, hZ⟩ : ∃ Z, Z = X + Y := ⟨_, rfl⟩
          rw [← hZ] at hor hTi hfs
          have Hfs := Lib.hid hfs
          have hlA := lim_lt A d1
          clear hTi hfs hX hY hYm hXl hZ hs2 hd1 hF hd
          obtain ⟨u1, hu1⟩ : ∃ u1, u1 = wr.setCell ⟨w.heap.size + 3, i, none⟩ (.int .u64 (X : Int)) := ⟨_, rfl⟩
          rw [← hu1] at hset
          have hca2 := hset.d.wat d1 (by omega)
          have hco := hset.o.cell i
          rw [List.getElem?_set_self hin] at hco
          have k0 := fun u : Ext u1 => u.cell hca2
          have k1 := fun u : Ext u1 => u.cell hco
          have Hu1 := Lib.hid hu1
          clear hu1
          go_wp2
          rw [show wr.setCell ⟨w.heap.size + 3, i, none⟩ (.int .u64 (X : Int)) = u1 from Hu1.out.symm]
          clear Hu1 hca hca2 hco
          refine wp_region_typed u1 14 (by kernel_rfl) (by kernel_rfl) (Below.refl _ _) ?_; simp only [List.take_succ_cons, List.take_zero, List.take_nil]
          iterate 14 (refine wpX_step (by rfl) (fun K hK => ?_); go_simp; first | (refine hK _ ?_; clear hK K) | (apply Exists.intro; refine ⟨fun _ => ?_, hK _ ?_⟩; fail; clear hK K))
          refine wpX_nil ?_
          intro u2 hb2
          change wpList _ _ _ [_] _ _
          have hF2 := hset.kept hb2
          obtain ⟨y3, hy3⟩ := hF2.o.has i (by simpa using hin)
          have hf3 := hF2.o.free i
          have hF3 := hF2.set i (.int .u64 (Z : Int))
          rw [fill_same _ _ _ _ _ (by rw [HTn.out]; exact hi4), Hfs.out] at hF3
          clear hset hF2 k0 k1
          go_wp2
          go_roundw
          case rel => exact ⟨i + 1, by omega, by go_num, hF3⟩
          case measure => simp [intOf]; omega
      · have hi4 : i = 4 - k := by omega
        have hdd : decide ((d : Int) < 4) = false := by rw [decide_eq_false_iff_not]; omega
        rw [hi4, Hhi.out, HT.out] at hF
        clear hi4 hd
        go_wp2_with (first
          | (refine wpList_loadA (o := ⟨some 52, _, _, _, _, _⟩) (by rfl) 24 (.tmp 5) (by rfl) (w.heap.size + 3) (by rfl) aggWord hF.o (wcs_len _) ?_)
          | (refine wpList_storeA (by rfl) 24 (.tmp 4) (.tmp 52) (by rfl) (w.heap.size + 2) (wcs (A / 2 ^ N)) (by rfl) (by rfl) aggWord hF.z (wcs_len _) (by first | exact wcs_len _ | rfl) (wcs_one _) (Below.refl _ _) (Nat.le_refl _) ?_; intro w7 hb7 b7 g7; have hbel7 := hF.bel.trans (b7.mono (by omega))))
        exact bodyPost_ret (results_blk rfl _ _ (w.heap.size + 2) aggWord hb7 (wcs_len _) rfl) rfl ⟨rfl, hbel7⟩
end Go.Proofs.Ytgmdbleeagfhpaa
