/- The reference's WAdd. -/
import Derived.Test.YtakhaanenlblmaaWord11
set_option linter.unusedSimpArgs false
set_option linter.unusedVariables false
namespace Go.Proofs.Ytakhaanenlblmaa
open Go.RowKit
set_option maxHeartbeats 400000 in
set_option maxRecDepth 100000 in
theorem wadd_any (N M : Nat) (w : World) :
    Calls Try.prog 169 #[wv N, wv M] w fun e w' => e = .returned (wv (addN N M)) ∧ Below w.heap.size w w' := by
  obtain ⟨w1, hw1⟩ : ∃ w1, w1 = ((w.alloc (.cells (wcs N).toArray 40)).alloc (.cells (wcs M).toArray 40)).alloc (.cells z4.toArray 40) := ⟨_, rfl⟩
  have hb0 : Blk 40 w1 w.heap.size (wcs N) := by rw [hw1]; exact ((boxW w N).alloc _).alloc _
  have hd0 : Blk 40 w1 (w.heap.size + 1) (wcs M) := by
    have := Blk.new (w.alloc (.cells (wcs N).toArray 40)) 40 (wcs M)
    rw [hw1]; simpa using (this.alloc (.cells z4.toArray 40))
  have hz0 : Blk 40 w1 (w.heap.size + 2) z4 := by
    have := Blk.new ((w.alloc (.cells (wcs N).toArray 40)).alloc (.cells (wcs M).toArray 40)) 40 z4
    rw [hw1]; simpa using this
  have hbel0 : Below w.heap.size w w1 := by rw [hw1]; exact (((Below.refl _ _).alloc (Nat.le_refl _) _).alloc (by simp) _).alloc (by simp; omega) _
  show Calls Try.prog 169 #[.agg (wcs N).toArray, .agg (wcs M).toArray] w _
  go_enter Try.func169, Try.ntmps169
  go_wp2
  rw [show ((w.alloc (.cells (wcs N).toArray 40)).alloc (.cells (wcs M).toArray 40)).alloc (.cells #[.int .u64 0, .int .u64 0, .int .u64 0, .int .u64 0] 40) = w1 from hw1.symm]
  clear hw1
  have k0 := Beh.cell (hb0.wat 0 (by omega))
  have k1 := Beh.cell (hb0.wat 1 (by omega))
  have k2 := Beh.cell (hb0.wat 2 (by omega))
  have k3 := Beh.cell (hb0.wat 3 (by omega))
  have m0 := Beh.cell (hd0.wat 0 (by omega))
  have m1 := Beh.cell (hd0.wat 1 (by omega))
  have m2 := Beh.cell (hd0.wat 2 (by omega))
  have m3 := Beh.cell (hd0.wat 3 (by omega))
  refine wp_region_h (Beh w1) (by kernel_rfl) ?_; intro w2 hw2; simp only [List.length_cons, List.length_nil, Nat.reduceAdd, List.replicate_succ, List.replicate_zero]
  have hS : Beh w1 w2 := by rw [hw2]; exact (Below.refl _ _).drew
  clear hw2
  (refine wpH_take 0 (by rfl) (by kernel_rfl) (by intro _ _ _ h; first | exact h | (cases h.1)) (by intro _ _ _ _ h; first | exact h | (cases h.1)) (by assumption) (fun K hK => ?_); simp only [List.setIfInBounds_toArray, List.set_cons_zero, List.set_cons_succ] at hK; go_simp; first | (refine hK _ ?_; clear hK K) | (apply Exists.intro; refine ⟨fun _ => rfl, hK _ ?_⟩; clear hK K))
  (refine wpH_take 2 (by rfl) (by kernel_rfl) (by intro _ _ _ h; first | exact h | (cases h.1)) (by intro _ _ _ _ h; first | exact h | (cases h.1)) (by assumption) (fun K hK => ?_); simp only [List.setIfInBounds_toArray, List.set_cons_zero, List.set_cons_succ] at hK; go_simp; first | (refine hK _ ?_; clear hK K) | (apply Exists.intro; refine ⟨fun _ => rfl, hK _ ?_⟩; clear hK K))
  (refine wpH_only 1 (by rfl) (by kernel_rfl) (fun K hK => ?_); simp only [List.setIfInBounds_toArray, List.set_cons_zero, List.set_cons_succ] at hK; go_simp)
  refine (wbytes_any N _).mono ?_
  rintro e w3 ⟨v, rfl, hv, b3⟩
  obtain ⟨a, c, rfl, hc⟩ := hv.form' 32 (wb_len N)
  have hS3 : Beh w1 w3 := Below.trans hS (b3.mono hS.size)
  refine hK _ _ hS3 ?_; clear hK K
  (refine wpH_only 3 (by rfl) (by kernel_rfl) (fun K hK => ?_); simp only [List.setIfInBounds_toArray, List.set_cons_zero, List.set_cons_succ] at hK; go_simp)
  refine (wbytes_any M _).mono ?_
  rintro e w4 ⟨v2, rfl, hv2, b4⟩
  obtain ⟨a2, c2, rfl, hc2⟩ := hv2.form' 32 (wb_len M)
  have hS4 : Beh w1 w4 := Below.trans hS3 (b4.mono hS3.size)
  refine hK _ _ hS4 ?_; clear hK K
  (refine wpH_take 4 (by rfl) (by kernel_rfl) (by intro _ _ _ h; first | exact h | (cases h.1)) (by intro _ _ _ _ h; first | exact h | (cases h.1)) (by assumption) (fun K hK => ?_); simp only [List.setIfInBounds_toArray, List.set_cons_zero, List.set_cons_succ] at hK; go_simp; first | (refine hK _ ?_; clear hK K) | (apply Exists.intro; refine ⟨fun _ => rfl, hK _ ?_⟩; clear hK K))
  (refine wpH_take 5 (by rfl) (by kernel_rfl) (by intro _ _ _ h; first | exact h | (cases h.1)) (by intro _ _ _ _ h; first | exact h | (cases h.1)) (by assumption) (fun K hK => ?_); simp only [List.setIfInBounds_toArray, List.set_cons_zero, List.set_cons_succ] at hK; go_simp; first | (refine hK _ ?_; clear hK K) | (apply Exists.intro; refine ⟨fun _ => rfl, hK _ ?_⟩; clear hK K))
  refine wpH_done (by kernel_rfl) ?_
  clear k0 k1 k2 k3 m0 m1 m2 m3
  obtain ⟨gx, rfl, hgx, hgx3⟩ := hv.lies (by omega)
  obtain ⟨gy, rfl, hgy, hgy4⟩ := hv2.lies (by omega)
  have hx0 := hv.kept b4
  have hz4 : Blk 40 w4 (w.heap.size + 2) z4 := hz0.below hS4 hz0.lt
  have hbel4 : Below w.heap.size w w4 := hbel0.trans (Below.mono hS4 hbel0.size)
  have hne : gx ≠ gy := by omega
  have hzx : w.heap.size + 2 < gx := by have := hz0.lt; have := hS.size; omega
  have hy0 := hv2
  clear hv hv2 hS hS3 hS4 b3 b4 hb0 hd0 hz0 hbel0
  obtain ⟨R, hR⟩ : ∃ R, R = wb (addN N M) := ⟨_, rfl⟩
  obtain ⟨X, hX⟩ : ∃ X, X = wb N := ⟨_, rfl⟩
  obtain ⟨Y, hY⟩ : ∃ Y, Y = wb M := ⟨_, rfl⟩
  rw [← hX] at hx0
  rw [← hY] at hy0
  have HR := Lib.hid hR
  have HX := Lib.hid hX
  have HY := Lib.hid hY
  clear hR hX hY
  go_wp2
  go_loopw [7, 8] (fun b i wr => ∃ q : Nat, q ≤ 32 ∧ i = .int .i64 ((q : Int) - 1) ∧ b = .int .i64 (car 8 N M (32 - q) : Int) ∧ OwnOf b8 1 5 wr w2.heap.size (.slice (some ⟨gx, 0, none⟩) 32 c) (turned X R q) ∧ OwnOf b8 1 5 wr w3.heap.size (.slice (some ⟨gy, 0, none⟩) 32 c2) Y ∧ Blk 40 wr (w.heap.size + 2) z4 ∧ Below w.heap.size w wr) (fun _ i _ => ((intOf i) + 1).toNat)
  case atStart => exact ⟨32, by omega, rfl, by rw [show 32 - 32 = 0 from rfl, car_zero]; rfl, by rw [turned_all (by rw [HX.out, HR.out, wb_len, wb_len]) 32 (by rw [HX.out, wb_len]; omega)]; exact hx0, hy0, hz4, hbel4⟩
  case round =>
    clear hx0 hy0 hz4 hbel4
    obtain ⟨q, hq, rfl, rfl, hx, hy, hz, hbel⟩ := hrel
    by_cases hlt : 1 ≤ q
    · obtain ⟨j, rfl⟩ : ∃ j, q = j + 1 := ⟨q - 1, by omega⟩
      have hj : ((j + 1 : Nat) : Int) - 1 = (j : Int) := by omega
      rw [hj]
      have hj2 : j < 32 := by omega
      obtain ⟨k, hk⟩ : ∃ k, k = 32 - (j + 1) := ⟨_, rfl⟩
      rw [← hk]
      have hXj : X[j]? = some (wbyte N j) := by rw [HX.out, wb_at _ _ hj2]
      have hYj : Y[j]? = some (wbyte M j) := by rw [HY.out, wb_at _ _ hj2]
      have hRj : R[j]? = some (wbyte (addN N M) j) := by rw [HR.out, wb_at _ _ hj2]
      have hXl : X.length = 32 := by rw [HX.out, wb_len]
      have hRl : R.length = 32 := by rw [HR.out, wb_len]
      have hset := turned_set (A := X) (B := R) (by rw [hXl, hRl]) j (by omega) _ hRj
      have hcx := hx.cellAt one_u8 j _ (by rw [turned_at (j + 1) j (by omega) (by omega)]; exact hXj)
      have hcy := hy.cellAt one_u8 j _ hYj
      have hxn : (wbyte N j).toNat = byteN N k := by rw [wbyte_nat, hk]; congr 1; omega
      have hyn : (wbyte M j).toNat = byteN M k := by rw [wbyte_nat, hk]; congr 1; omega
      have hrn : (wbyte (addN N M) j).toNat = byteN (addN N M) k := by rw [wbyte_nat, hk]; congr 1; omega
      have hst := car_dgt 8 N M k (by omega)
      have hbs := car_step 8 N M k
      have hbl := car_le 8 N M k
      rw [dgt8, dgt8, dgt8, ← hrn] at hst
      rw [dgt8, dgt8] at hbs
      unfold u8v at hcx hcy
      rw [hxn] at hcx
      rw [hyn] at hcy
      have hx8 : byteN N k < 256 := by rw [← hxn]; exact (wbyte N j).toNat_lt
      have hy8 : byteN M k < 256 := by rw [← hyn]; exact (wbyte M j).toNat_lt
      have hk1 : 32 - j = k + 1 := by omega
      generalize byteN N k = x at *
      generalize byteN M k = y at *
      generalize car 8 N M k = b at *
      obtain ⟨z, hz0⟩ : ∃ z, z = wbyte (addN N M) j := ⟨_, rfl⟩
      rw [← hz0] at hst hset
      have Hset := Lib.hid hset
      have hwb : IntKind.u8.wrap ((x : Int) + y + b) = (z.toNat : Int) := by rw [IntKind.wrap_u8']; omega
      have e3 : IntKind.i64.wrap (x : Int) = x := IntWalk.i64_in _ (by omega)
      have e4 : IntKind.i64.wrap (y : Int) = y := IntWalk.i64_in _ (by omega)
      have e1 : IntKind.i64.wrap ((x : Int) + y) = (x : Int) + y := IntWalk.i64_in _ (by omega)
      have e2 : IntKind.i64.wrap ((x : Int) + y + b) = (x : Int) + y + b := IntWalk.i64_in _ (by omega)
      have hji : (j : Int) < 32 := by omega
      have Hk1 := Lib.hid hk1
      have Hbs := Lib.hid hbs
      clear hk hXj hYj hRj hXl hRl hset hxn hyn hrn hst hbs hz0 hj hk1 hlt hq
      have k0 := fun u : Ext wr => u.cell hcx
      have k1 := fun u : Ext wr => u.cell hcy
      go_wp2
      refine wp_region_typed wr 14 (by kernel_rfl) (by kernel_rfl) (Below.refl _ _) ?_; simp only [List.take_succ_cons, List.take_zero, List.take_nil]
      iterate 14 (refine wpX_step (by rfl) (fun K hK => ?_); go_simp; first | (refine hK _ ?_; clear hK K) | (apply Exists.intro; refine ⟨fun _ => ?_, hK _ ?_⟩; fail; clear hK K))
      refine wpX_end rfl ?_
      rintro w5 hw5
      simp only [List.reverse_nil, forallRel]
      clear k0 k1 hcx hcy
      have hx5 := hx.kept hw5
      have hy5 := hy.kept hw5
      have hz5 := hz.kept hw5
      have hbel5 := hbel.trans (hw5.mono hbel.size)
      clear hx hy hz hbel
      have hput := hx5.put one_u8 j z
      rw [Hset.out] at hput
      obtain ⟨⟨old, hold⟩, hfree⟩ := hx5.has one_u8 j hj2
      have hy' := hy5.apart one_u8 ⟨gx, j, none⟩ hne (u8v z)
      have hz' := hz5.other ⟨gx, j, none⟩ (by simp; omega) (u8v z)
      have hbel' := hbel5.setCell (p := ⟨gx, j, none⟩) (by simp; omega) (u8v z)
      clear hx5 hy5 hz5 hbel5
      unfold u8v at hput hy' hz' hbel'
      have hb1 : (x + y + b) / 256 = car 8 N M (32 - j) := by rw [Hk1.out, Hbs.out]
      have hb2 : ((x : Int) + y + b) / 256 = (((x + y + b) / 256 : Nat) : Int) := by omega
      have Hb1 := Lib.hid hb1
      have Hb2 := Lib.hid hb2
      clear hb1 hb2
      go_wp2
      go_roundw
      case rel => exact ⟨j, by omega, rfl, by rw [← Hb1.out, ← Hb2.out], hput, hy', hz', hbel'⟩
      case measure => simp [intOf]
    · obtain rfl : q = 0 := by omega
      rw [turned_zero] at hx
      have hr := hx.row
      rw [HR.out] at hr
      go_wp2_with (first
        | (go_at_call 111; have hr' := hr; rw [show (32 : Nat) = (wb (addN N M)).length from (wb_len _).symm] at hr' ⊢; refine (wread_any _ c _ _ hr').mono ?_; rintro e w6 ⟨rfl, b6⟩; have hz6 := hz.kept b6; have hbel6 := hbel.trans (b6.mono hbel.size))
        | (refine wpList_storeA rfl 40 (.tmp 4) (.tmp 39) rfl (w.heap.size + 2) (wcs (numL (last32 (wb (addN N M))))) rfl rfl aggWord hz6 (wcs_len _) rfl (wcs_one _) hbel6 (by omega) ?_; intro w7 hb7 hbel7 _))
      exact bodyPost_ret (results_blk rfl _ _ (w.heap.size + 2) aggWord hb7 (wcs_len _) rfl) rfl ⟨by rw [last_small _ (by rw [wb_len]; omega), numL_wb _ (addN_lt _ _)]; rfl, hbel7⟩
end Go.Proofs.Ytakhaanenlblmaa
