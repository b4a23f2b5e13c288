/- twos.each, And, Or, Xor, Not, Neg. -/
import Derived.Test.YtgmdbleeagfhpaaShift4
import Derived.Test.YtgmdbleeagfhpaaEach1
set_option linter.unusedSimpArgs false
set_option linter.unusedVariables false
namespace Go.Proofs.Ytgmdbleeagfhpaa
open Go.RowKit
set_option maxHeartbeats 800000 in
set_option maxRecDepth 100000 in
theorem each_any (fn : FuncId) (G : Nat → Nat → Nat) (hf : ∀ (x y : Nat) w, x < 18446744073709551616 → y < 18446744073709551616 → Calls Try.prog fn #[.int .u64 (x : Int), .int .u64 (y : Int)] w fun e w' => e = .returned (.int .u64 (G x y : Nat)) ∧ Below w.heap.size w w')
    (hc : ∀ a b w, (callFunc fn #[a, b]).run Try.prog w = .ok (.enter fn #[a, b]) w)
    (N M R : Nat) (hR : ∀ i, i < 4 → lim R i = G (lim N i) (lim M i)) (w : World) :
    Calls Try.prog 86 #[wv N, wv M, .func (.func fn) #[] #[]] w fun e w' => e = .returned (wv R) ∧ Below w.heap.size w w' := by
  have hF0 := boxS w N M
  obtain ⟨w1, hw1⟩ : ∃ w1, w1 = (((w.alloc (.cells (wcs N).toArray 24)).alloc (.cells (wcs M).toArray 24)).alloc (.cells z4.toArray 24)).alloc (.cells z4.toArray 24) := ⟨_, rfl⟩
  rw [← hw1] at hF0
  show Calls Try.prog 86 #[.agg (wcs N).toArray, .agg (wcs M).toArray, .func (.func fn) #[] #[]] w _
  have Hw1 := Lib.hid hw1
  clear hw1
  obtain ⟨T, hT⟩ : ∃ T, T = wcs R := ⟨_, rfl⟩
  have hTn : T.length = 4 := by rw [hT]; rfl
  have hTi : ∀ i, i < 4 → T[i]? = some (.int .u64 ((G (lim N i) (lim M i) : Nat) : Int)) := by
    intro i hi
    rw [hT, wcs_at _ i hi, hR i hi]
  have HT := Lib.hid hT
  have HTn := Lib.hid hTn
  have HTi := Lib.hid hTi
  have Hf := Lib.hid hf
  have Hc := Lib.hid hc
  rw [show z4 = fillL T (.int .u64 0) 0 from by rw [fill_zero, hTn]; rfl] at hF0
  clear hT hTn hTi hR hf hc
  go_enter Try.func86, Try.ntmps86
  go_wp2
  rw [show (((w.alloc (.cells (wcs N).toArray 24)).alloc (.cells (wcs M).toArray 24)).alloc (.cells #[.int .u64 0, .int .u64 0, .int .u64 0, .int .u64 0] 24)).alloc (.cells #[.int .u64 0, .int .u64 0, .int .u64 0, .int .u64 0] 24) = w1 from by rw [Hw1.out]; rfl]
  clear Hw1
  go_loopw [9] (fun ix wr => ∃ i : Nat, i ≤ 4 ∧ ix = .int .i64 (i : Int) ∧ FrS w N M (fillL T (.int .u64 0) i) wr) (fun i _ => 4 - (intOf i).toNat)
  case atStart => exact ⟨0, by omega, rfl, hF0⟩
  case round =>
    clear hF0
    obtain ⟨i, hi, rfl, hF⟩ := hrel
    by_cases hlt : i < 4
    · have hii : (i : Int) < 4 := by omega
      have hin : i < (fillL T (.int .u64 0) i).length := by rw [fill_len _ _ _ (by rw [HTn.out]; omega), HTn.out]; exact hlt
      have hfs := fill_set' T (.int .u64 0) i _ (HTi.out i hlt)
      have hca := hF.b.wat i hlt
      have hcb := hF.d.wat i hlt
      have hl := lim_lt N i
      have hm := lim_lt M i
      have k0 := fun u : Ext wr => u.cell hca
      have k1 := fun u : Ext wr => u.cell hcb
      obtain ⟨Z, hZ⟩ : ∃ Z, Z = G (lim N i) (lim M i) := ⟨_, rfl⟩
      have hcall := fun w => Hf.out (lim N i) (lim M i) w hl hm
      rw [← hZ] at hcall hfs
      have Hfs := Lib.hid hfs
      have Hcall := Lib.hid hcall
      clear hfs hcall hZ hca hcb
      go_wp2
      refine wp_region_typed wr 10 (by kernel_rfl) (by kernel_rfl) (Below.refl _ _) ?_; simp only [List.take_succ_cons, List.take_zero, List.take_nil]
      iterate 8 (refine wpX_step (by rfl) (fun K hK => ?_); go_simp; first | (refine hK _ ?_; clear hK K) | (apply Exists.intro; refine ⟨fun _ => ?_, hK _ ?_⟩; fail; clear hK K))
      (refine wpX_step (by rfl) (fun K hK => ?_); go_simp; first | (refine hK _ ?_; clear hK K) | (apply Exists.intro; refine ⟨fun _ => ?_, hK _ ?_⟩; rw [Hc.out]; exact ⟨rfl, Hcall.out _⟩; clear hK K))
      iterate 1 (refine wpX_step (by rfl) (fun K hK => ?_); go_simp; first | (refine hK _ ?_; clear hK K) | (apply Exists.intro; refine ⟨fun _ => ?_, hK _ ?_⟩; fail; clear hK K))
      refine wpX_nil ?_
      intro u2 hb2
      change wpList _ _ _ [_] _ _
      have hF2 := hF.kept hb2
      obtain ⟨y3, hy3⟩ := hF2.o.has i hin
      have hf3 := hF2.o.free i
      have hF3 := hF2.set i (.int .u64 (Z : Int))
      rw [Hfs.out] at hF3
      clear hF hF2 k0 k1
      go_wp2
      go_roundw
      case rel => exact ⟨i + 1, by omega, by go_num, hF3⟩
      case measure => simp [intOf]; omega
    · obtain rfl : i = 4 := by omega
      have hfin := fill_end T (.int .u64 0)
      rw [HTn.out] at hfin
      rw [hfin, HT.out] at hF
      clear hfin
      go_wp2_with (first
        | (refine wpList_loadA (o := ⟨some 23, _, _, _, _, _⟩) (by rfl) 24 (.tmp 7) (by rfl) (w.heap.size + 3) (by rfl) aggWord hF.o (wcs_len _) ?_)
        | (refine wpList_storeA (by rfl) 24 (.tmp 6) (.tmp 23) (by rfl) (w.heap.size + 2) (wcs (R)) (by rfl) (by rfl) aggWord hF.z (wcs_len _) (by first | exact wcs_len _ | rfl) (wcs_one _) (Below.refl _ _) (Nat.le_refl _) ?_; intro w7 hb7 b7 g7; have hbel7 := hF.bel.trans (b7.mono (by omega))))
      exact bodyPost_ret (results_blk rfl _ _ (w.heap.size + 2) aggWord hb7 (wcs_len _) rfl) rfl ⟨rfl, hbel7⟩
end Go.Proofs.Ytgmdbleeagfhpaa
