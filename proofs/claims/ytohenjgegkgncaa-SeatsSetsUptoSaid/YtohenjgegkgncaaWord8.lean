/- word.Sub: the store lies in a region that draws its order: go_region_held3. -/
import Derived.Test.YtohenjgegkgncaaWord7
import Derived.Deep.RegionHeld3
set_option linter.unusedSimpArgs false
set_option linter.unusedVariables false
namespace Go.Proofs.Ytohenjgegkgncaa
open Go.RowKit
set_option maxHeartbeats 400000 in
set_option maxRecDepth 100000 in
theorem sub_any (N M : Nat) (hM : M < W256) (w : World) :
    Calls Try.prog 156 #[wv N, wv M] w fun e w' => e = .returned (wv (subN N M)) ∧ Below w.heap.size w w' := by
  obtain ⟨w1, hw1⟩ : ∃ w1, w1 = (((w.alloc (.cells (wcs N).toArray 73)).alloc (.cells (wcs M).toArray 73)).alloc (.cells z4.toArray 73)).alloc (.cells z4.toArray 73) := ⟨_, rfl⟩
  have hb0 : Blk 73 w1 w.heap.size (wcs N) := by rw [hw1]; exact (((boxW w N).alloc _).alloc _).alloc _
  have hd0 : Blk 73 w1 (w.heap.size + 1) (wcs M) := by
    have := Blk.new (w.alloc (.cells (wcs N).toArray 73)) 73 (wcs M)
    rw [hw1]; simpa using (this.alloc (.cells z4.toArray 73)).alloc (.cells z4.toArray 73)
  have hz0 : Blk 73 w1 (w.heap.size + 2) z4 := by
    have := Blk.new ((w.alloc (.cells (wcs N).toArray 73)).alloc (.cells (wcs M).toArray 73)) 73 z4
    rw [hw1]; simpa using this.alloc (.cells z4.toArray 73)
  have hy0 : Blk 73 w1 (w.heap.size + 3) z4 := by
    have := Blk.new (((w.alloc (.cells (wcs N).toArray 73)).alloc (.cells (wcs M).toArray 73)).alloc (.cells z4.toArray 73)) 73 z4
    rw [hw1]; simpa using this
  have hbel0 : Below w.heap.size w w1 := by rw [hw1]; exact ((((Below.refl _ _).alloc (Nat.le_refl _) _).alloc (by simp) _).alloc (by simp; omega) _).alloc (by simp; omega) _
  show Calls Try.prog 156 #[.agg (wcs N).toArray, .agg (wcs M).toArray] w _
  obtain ⟨T, hT⟩ : ∃ T, T = wcs (subN N M) := ⟨_, rfl⟩
  have hTn : T.length = 4 := by rw [hT]; rfl
  have HT := Lib.hid hT
  have HTn := Lib.hid hTn
  clear hT hTn
  go_enter Try.func156, Try.ntmps156
  go_wp2
  go_loopw [6, 7, 8] (fun b _ i wr => ∃ k : Nat, k ≤ 4 ∧ i = .int .i64 (k : Int) ∧ b = .int .u64 (bor N M k : Int) ∧ Blk 73 wr w.heap.size (wcs N) ∧ Blk 73 wr (w.heap.size + 1) (wcs M) ∧ Blk 73 wr (w.heap.size + 2) z4 ∧ Blk 73 wr (w.heap.size + 3) (fillL T (.int .u64 0) k) ∧ Below w.heap.size w wr) (fun _ _ i _ => 4 - (intOf i).toNat)
  case atStart =>
    rw [hw1] at hb0 hd0 hz0 hy0 hbel0
    exact ⟨0, by omega, rfl, by rw [bor_zero]; rfl, hb0, hd0, hz0, by rw [fill_zero, HTn.out]; exact hy0, hbel0⟩
  case round =>
    clear hb0 hd0 hz0 hy0 hbel0 hw1
    obtain ⟨k, hk, rfl, rfl, hb, hd, hz, hy, hbel⟩ := hrel
    by_cases hlt : k < 4
    · have hc := hb.wat k hlt
      have hc2 := hd.wat k hlt
      have hl := lim_lt N k
      have hl2 := lim_lt M k
      have hki : (k : Int) < 4 := by omega
      have hbl := bor_le N M k
      have hss := sub_step N M k hlt hM
      have hbs := bor_step N M k
      have hrun := fun u : Ext wr => sub64_run (lim N k) (lim M k) (bor N M k) hbl u.val
      rw [hss, ← hbs] at hrun
      have Hss := Lib.hid hss
      have Hbs := Lib.hid hbs
      have hTk : T[k]? = some (.int .u64 (lim (subN N M) k : Int)) := by rw [HT.out, wcs_at _ k hlt]
      have hset := fill_set' T (.int .u64 0) k _ hTk
      have hfl : k < (fillL T (.int .u64 0) k).length := by rw [fill_len _ _ _ (by rw [HTn.out]; omega), HTn.out]; exact hlt
      have Hfl := Lib.hid hfl
      have Hset := Lib.hid hset
      have hl3 := lim_lt (subN N M) k
      clear hset hTk hss hbs hfl
      have k0 := fun u : Ext wr => u.cell hc
      have k1 := fun u : Ext wr => u.cell hc2
      obtain ⟨y2, hy2⟩ := hy.has k Hfl.out
      have hf2 := hy.free k
      have hy3 := hy.set k (.int .u64 (lim (subN N M) k : Int))
      rw [Hset.out] at hy3
      have hrun' := fun w2 : World => sub64_run (lim N k) (lim M k) (bor N M k) hbl w2
      rw [Hss.out, ← Hbs.out] at hrun'
      clear k0 k1 hrun
      go_wp2
      have s0 : (wr.setCell ⟨w.heap.size + 1 + 1 + 1, k, none⟩ (.int .u64 (lim (subN N M) k : Int))).drew.cell? ⟨w.heap.size, k, none⟩ = some (.int .u64 (lim N k : Int)) := cell_aside (q := ⟨w.heap.size + 1 + 1 + 1, k, none⟩) (u := .int .u64 (lim (subN N M) k : Int)) hc (by simp; try omega)
      have s1 : (wr.setCell ⟨w.heap.size + 1 + 1 + 1, k, none⟩ (.int .u64 (lim (subN N M) k : Int))).drew.cell? ⟨w.heap.size + 1, k, none⟩ = some (.int .u64 (lim M k : Int)) := cell_aside (q := ⟨w.heap.size + 1 + 1 + 1, k, none⟩) (u := .int .u64 (lim (subN N M) k : Int)) hc2 (by simp; try omega)
      go_region_held3 (fun w' => w'.cell? ⟨w.heap.size, k, none⟩ = some (.int .u64 (lim N k : Int)) ∧ w'.cell? ⟨w.heap.size + 1, k, none⟩ = some (.int .u64 (lim M k : Int))) (first | go_keep | exact ⟨s0, s1⟩) (fail)
      all_goals
        go_wp2
        go_roundw
        case rel => exact ⟨k + 1, by omega, by go_num, rfl, (hb.other ⟨w.heap.size + 1 + 1 + 1, k, none⟩ (by simp; try omega) _).drew, (hd.other ⟨w.heap.size + 1 + 1 + 1, k, none⟩ (by simp; try omega) _).drew, (hz.other ⟨w.heap.size + 1 + 1 + 1, k, none⟩ (by simp; try omega) _).drew, hy3.drew, (hbel.setCell (by simp; try omega) _).drew⟩
        case measure => simp [intOf]; omega
    · obtain rfl : k = 4 := by omega
      have hfe : fillL T (.int .u64 0) 4 = wcs (subN N M) := by have := fill_end T (.int .u64 0); rw [HTn.out] at this; rw [this, HT.out]
      rw [hfe] at hy
      go_wp2_with (first
        | (refine wpList_loadA rfl 73 (.tmp 5) rfl (w.heap.size + 3) rfl aggWord hy (wcs_len _) ?_)
        | (refine wpList_storeA rfl 73 (.tmp 4) (.tmp 25) rfl (w.heap.size + 2) (wcs (subN N M)) rfl rfl aggWord hz (wcs_len _) rfl (wcs_one _) hbel (by omega) ?_; intro w2 hb2 hbel2 _))
      exact bodyPost_ret (results_blk rfl _ _ (w.heap.size + 2) aggWord hb2 (wcs_len _) rfl) rfl ⟨rfl, hbel2⟩
end Go.Proofs.Ytohenjgegkgncaa
