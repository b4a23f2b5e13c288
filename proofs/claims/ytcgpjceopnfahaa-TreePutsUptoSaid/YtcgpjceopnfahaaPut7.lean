/- tree.fork's with, at the empty fork. -/
import Derived.Test.YtcgpjceopnfahaaPut6
set_option linter.unusedSimpArgs false
set_option linter.unusedVariables false
namespace Go.Proofs.Ytcgpjceopnfahaa
open Go.RowKit
theorem nvL_rep (n : Nat) : nvL (List.replicate n nilN) = List.replicate n Value.nilIface := by
  rw [nvL_map, List.map_replicate]; rfl
theorem clNL_rep (n : Nat) : clNL (List.replicate n nilN) = List.replicate n nP := by
  rw [clNL_map, List.map_replicate]; rfl
theorem nvL_set (ks : List Nd) (i : Nat) (t : Nd) : nvL (ks.set i t) = (nvL ks).set i (nv t) := by
  rw [nvL_map, nvL_map, List.map_set]
theorem clNL_set (ks : List Nd) (i : Nat) (t : Nd) : clNL (ks.set i t) = (clNL ks).set i (clN t) := by
  rw [clNL_map, clNL_map, List.map_set]
theorem zFork_nv : zFork = nvL (List.replicate 16 nilN) ++ [Value.slice none 0 0] := by rw [nvL_rep]; rfl
theorem zFork_len : zFork.length = 17 := rfl
theorem zFork_set (i : Nat) (hi : i < 16) (t : Nd) : zFork.set i (nv t) = nvL ((List.replicate 16 nilN).set i t) ++ [Value.slice none 0 0] := by
  rw [zFork_nv, nvL_set, List.set_append_left _ _ (by rw [nvL_map]; simpa using hi)]
theorem zFork_last (v : Value) : zFork.set 16 v = nvL (List.replicate 16 nilN) ++ [v] := by
  rw [zFork_nv, List.set_append_right _ _ (by rw [nvL_map]; simp), nvL_map]
  simp
theorem zFork_one : ∀ u ∈ zFork, u.oneCell' = true := by
  intro u hu
  unfold zFork at hu
  rcases List.mem_append.1 hu with h | h
  · rw [List.eq_of_mem_replicate h]; rfl
  · rw [List.mem_singleton] at h; rw [h]; rfl
theorem IsNv.off {w w' : World} {t : Nd} {e : TypeId} {z : Nat} {cs : List Value} (h : IsNv w t) (hz : Blk e w z cs) (hno : ∀ u ∈ cs, ∀ k, u ≠ .int .u8 k) (hg : w.grownBy w' (some z)) : IsNv w' t := by
  induction h with
  | none pv p vv v kv ks => exact .none pv p vv v kv ks
  | leaf pv p vv v kv ks hp hv => exact .leaf pv p vv v kv ks (Bytes.off_v hp hz hno hg) (Bytes.off_v hv hz hno hg)
  | road pv p vv v kv k hp hk _ ih => exact .road pv p vv v kv k (Bytes.off_v hp hz hno hg) hk ih
  | fork pv p vv v kv ks hv hl _ ih => exact .fork pv p vv v kv ks (Bytes.off_v hv hz hno hg) hl ih
theorem nv_no8 (t : Nd) (k : Int) : nv t ≠ .int .u8 k := by
  rcases nv_shape t with h | ⟨_, _, h⟩ <;> rw [h] <;> simp
theorem zFork_no8 : ∀ u ∈ zFork, ∀ k, u ≠ .int .u8 k := by
  intro u hu k
  unfold zFork at hu
  rcases List.mem_append.1 hu with h | h
  · rw [List.eq_of_mem_replicate h]; simp
  · rw [List.mem_singleton] at h; rw [h]; simp
/-- a fork as a struct is handed back -/
def FkPost (V : List UInt8) (KS : List Pn) (w : World) (e : Ending) (w' : World) : Prop := ∃ (ks : List Nd) (a : Option Addr) (n c : Nat), e = .returned (.agg (nvL ks ++ [Value.slice a n c]).toArray) ∧ Below w.heap.size w w' ∧ ks.length = 16 ∧ Bytes w' (.slice a n c) V ∧ (∀ k ∈ ks, IsNv w' k) ∧ clNL ks = KS
set_option maxHeartbeats 2000000 in
set_option maxRecDepth 100000 in
theorem with_nil (pa qa va : Option Addr) (pc qn qc vn vc : Nat) (q u : List UInt8) (w : World) (hv : Bytes w (.slice va vn vc) u) :
    Calls Try.prog 91 #[.agg zFork.toArray, .slice pa 0 pc, .iface 95 (.agg #[.slice qa qn qc, .slice va vn vc])] w (FkPost u (List.replicate 16 nP) w) := by
  have z1 := as1_1
  obtain ⟨ZC, hZC⟩ : ∃ ZC, ZC = zFork.set 16 (Value.slice va vn vc) := ⟨_, rfl⟩
  obtain ⟨y, hy⟩ : ∃ y, y = ((w.alloc (.cells ZC.toArray 102)).alloc (.cells #[.nilIface, .nilIface, .nilIface, .nilIface, .nilIface, .nilIface, .nilIface, .nilIface, .nilIface, .nilIface, .nilIface, .nilIface, .nilIface, .nilIface, .nilIface, .nilIface, .slice none 0 0] 102)).alloc (.cells #[.slice qa qn qc, .slice va vn vc] 95) := ⟨_, rfl⟩
  have hs3 : Blk 102 y w.heap.size ZC := by rw [hy]; exact ((Blk.new w _ _).alloc _).alloc _
  have hs6 : Blk 102 y (w.heap.size + 1) zFork := by
    have := Blk.new (w.alloc (.cells ZC.toArray 102)) 102 zFork
    simp only [World.size_alloc] at this
    rw [hy]; exact this.alloc _
  have hb2 : Below w.heap.size w y := by rw [hy]; exact (((Below.refl _ _).alloc (Nat.le_refl _) _).alloc (by simp) _).alloc (by simp; omega) _
  have hl : ZC.length = 17 := by rw [hZC, List.length_set]; rfl
  have h1 : ∀ x ∈ ZC, x.oneCell' = true := by
    rw [hZC]
    intro x hx
    rcases List.mem_or_eq_of_mem_set hx with hx | rfl
    · exact zFork_one x hx
    · rfl
  have hy2 := hy
  rw [hZC] at hy2
  have Hy := Lib.hid hy2
  have HZC := Lib.hid hZC
  have Hv := Lib.hid hv
  clear hZC hy hy2 hv
  go_enter Try.func91, Try.ntmps91
  go_wp2_with (first
    | ((with_reducible show wpList _ _ _ (⟨some 21, _, _, _, _, _⟩ :: _) _ _); refine wpList_loadA (o := ⟨some 21, _, _, _, _, _⟩) (by rfl) 102 (.tmp 3) (by rfl) w.heap.size (by rfl) aggFork (cs := ZC) (by rw [← show y = _ from Hy.out]; exact hs3) hl ?_)
    | ((with_reducible show wpList _ _ _ (⟨none, Op.store _ _ (Operand.tmp 21), _, _, _, _⟩ :: _) _ _); refine wpList_storeA (o := ⟨none, _, _, _, _, _⟩) (by rfl) 102 (.tmp 6) (.tmp 21) (by rfl) (w.heap.size + 1) ZC (by rfl) (by rfl) aggFork (by rw [← show y = _ from Hy.out]; exact hs6) hl (by rfl) h1 (by rw [← show y = _ from Hy.out]; exact hb2) (by omega) ?_; intro w7 h7 b7 _))
  exact bodyPost_ret (results_blk rfl _ _ (w.heap.size + 1) aggFork h7 hl rfl) rfl ⟨List.replicate 16 nilN, va, vn, vc, by rw [HZC.out, zFork_last], b7, by simp, Hv.out.below b7, fun k hk => by rw [List.eq_of_mem_replicate hk]; exact IsNv.nil _, clNL_rep 16⟩
set_option maxHeartbeats 2000000 in
set_option maxRecDepth 100000 in
theorem with_cons (pa : Option Addr) (pn pc : Nat) (x : UInt8) (r : List UInt8) (hpn : (x :: r).length = pn) (hp1 : pn ≤ 1000000000) (hx : x.toNat < 16) (t : Nd) (ht1 : t.path.length ≤ 1000000000) (w : World) (hp : Bytes w (.slice pa pn pc) (x :: r)) (ht : IsNv w t) :
    Calls Try.prog 91 #[.agg zFork.toArray, .slice pa pn pc, nv t] w (FkPost [] ((List.replicate 16 nP).set x.toNat (behindQ r (clN t))) w) := by
  have hq1 : 1 ≤ pn := by rw [← hpn]; simp
  have hne : ((pn : Int) == 0) = false := by rw [beq_eq_false_iff_ne]; omega
  have hlt0 : (0 : Int) < (pn : Int) := by omega
  have hlt0' : 0 < pn := by omega
  have hxi : (x.toNat : Int) < 16 := by omega
  obtain ⟨bq, oq, rfl, hcq⟩ := Bytes.at hp 0 (by simp)
  simp only [List.getElem_cons_zero, Nat.add_zero] at hcq
  obtain ⟨a5, c5, run5, row5⟩ := RowOf.from elU8 hp 1 hq1 1 rfl
  simp only [List.drop_succ_cons, List.drop_zero] at row5
  have hrl : r.length = pn - 1 := by rw [← hpn]; simp
  obtain ⟨w1, hw1⟩ : ∃ w1, w1 = (w.alloc (.cells zFork.toArray 102)).alloc (.cells #[.nilIface, .nilIface, .nilIface, .nilIface, .nilIface, .nilIface, .nilIface, .nilIface, .nilIface, .nilIface, .nilIface, .nilIface, .nilIface, .nilIface, .nilIface, .nilIface, .slice none 0 0] 102) := ⟨_, rfl⟩
  have hz3 : Blk 102 w1 w.heap.size zFork := by rw [hw1]; exact (Blk.new w _ _).alloc _
  have hz6 : Blk 102 w1 (w.heap.size + 1) zFork := by
    have := Blk.new (w.alloc (.cells zFork.toArray 102)) 102 zFork
    simp only [World.size_alloc] at this
    rw [hw1]; exact this
  have hbel : Below w.heap.size w w1 := by rw [hw1]; exact ((Below.refl _ _).alloc (Nat.le_refl _) _).alloc (by simp) _
  have cb := fun (u : World) (hu : Below w.heap.size w u) => behind_any a5 (pn - 1) c5 r hrl (by omega) t ht1 u (row5.below hu) (ht.kept hu)
  have k1 := fun u : Ext w1 => u.cell (show w1.cell? ⟨bq, oq, none⟩ = some (.int .u8 (x.toNat : Int)) from by rw [hbel.cell (World.block_lt_of_cell? w _ hcq)]; exact hcq)
  obtain ⟨VT, hVT⟩ : ∃ VT, VT = nv t := ⟨_, rfl⟩
  simp only [← hVT] at cb ⊢
  have Cb := Lib.hid cb
  have Hw1 := Lib.hid hw1
  clear hw1 cb hVT hp ht hpn row5 hcq hrl
  go_enter Try.func91, Try.ntmps91
  go_wp2_with fail
  rw [show (w.alloc (.cells zFork.toArray 102)).alloc (.cells #[.nilIface, .nilIface, .nilIface, .nilIface, .nilIface, .nilIface, .nilIface, .nilIface, .nilIface, .nilIface, .nilIface, .nilIface, .nilIface, .nilIface, .nilIface, .nilIface, .slice none 0 0] 102) = w1 from Hw1.out.symm]
  refine wp_region_typed w1 9 (by kernel_rfl) (by kernel_rfl) (Below.refl _ _) ?_; simp only [List.take_succ_cons, List.take_zero, List.take_nil]
  iterate 6 (refine wpX_step (by rfl) (fun K hK => ?_); go_simp; first | (refine hK _ ?_; clear hK K) | (apply Exists.intro; refine ⟨fun _ => ?_, hK _ ?_⟩; exact run5 _; clear hK K))
  refine wpX_rel 28 (NvT (behindQ r (clN t))) rfl (of_decide_eq_true rfl) (NvT.mono _) (fun w6 hw6 => ?_) ?_
  · simp only [relOf, List.filter_nil, forallRel]
    refine ⟨rfl, ?_⟩
    go_simp
    refine (Cb.out w6 (Below.then hbel hw6)).mono ?_
    rintro e w7 ⟨t7, rfl, b7, i7, c7⟩
    exact ⟨_, rfl, ⟨t7, rfl, i7, c7⟩, b7⟩
  iterate 2 (refine wpX_step (by rfl) (fun K hK => ?_); go_simp; first | (refine hK _ ?_; clear hK K) | (apply Exists.intro; refine ⟨fun _ => ?_, hK _ ?_⟩; fail; clear hK K))
  refine wpX_nil ?_
  intro y hy v28 h28
  change wpList _ _ _ [_] _ _
  simp only [Act.put, List.setIfInBounds_toArray, List.set_cons_zero, List.set_cons_succ]
  obtain ⟨t7, rfl, i7, c7⟩ := h28
  have by1 := Below.then hbel hy
  have hy3 := hz3.kept hy
  have hy6 := hz6.kept hy
  have hs3 := hy3.set x.toNat (nv t7)
  have gc : y.grownBy (y.setCell ⟨w.heap.size, x.toNat, none⟩ (nv t7)) (some w.heap.size) := grown_cell x.toNat _
  have hs6 := hy6.grown gc (by simp)
  have hb2 : Below w.heap.size w (y.setCell ⟨w.heap.size, x.toNat, none⟩ (nv t7)) := by1.grown gc by1.size (fun k hk => by cases hk; exact Nat.le_refl _)
  have i8 := i7.off hy3 zFork_no8 gc
  obtain ⟨xc, hxc⟩ := hy3.has x.toNat (by rw [zFork_len]; omega)
  have hfc := hy3.free x.toNat
  have hl : (zFork.set x.toNat (nv t7)).length = 17 := by rw [List.length_set]; rfl
  have h1 : ∀ z ∈ zFork.set x.toNat (nv t7), z.oneCell' = true := by
    intro z hz
    rcases List.mem_or_eq_of_mem_set hz with hz | rfl
    · exact zFork_one z hz
    · rcases nv_shape t7 with h | ⟨_, _, h⟩ <;> rw [h] <;> rfl
  obtain ⟨ZC, hZC⟩ : ∃ ZC, ZC = zFork.set x.toNat (nv t7) := ⟨_, rfl⟩
  rw [← hZC] at hs3 hl h1
  have hZ2 : ZC = nvL ((List.replicate 16 nilN).set x.toNat t7) ++ [Value.slice none 0 0] := by rw [hZC]; exact zFork_set _ hx t7
  have HZ2 := Lib.hid hZ2
  have I8 := Lib.hid i8
  clear hZ2 hZC hy3 hy6 gc k1 i7 i8
  have hfin : ∀ w7 : World, Blk 102 w7 (w.heap.size + 1) ZC → Below w.heap.size w w7 → (y.setCell ⟨w.heap.size, x.toNat, none⟩ (nv t7)).grownBy w7 (some (w.heap.size + 1)) → FkPost [] ((List.replicate 16 nP).set x.toNat (behindQ r (clN t))) w (.returned (.agg ZC.toArray)) w7 := fun w7 h7 b7 g7 =>
    ⟨(List.replicate 16 nilN).set x.toNat t7, none, 0, 0, by rw [HZ2.out], b7, by simp, RowOf.nil b8 1 _, fun k hk => by
      rcases List.mem_or_eq_of_mem_set hk with hk | rfl
      · rw [List.eq_of_mem_replicate hk]; exact IsNv.nil _
      · exact I8.out.off hs6 zFork_no8 g7, by rw [clNL_set, clNL_rep, c7]⟩
  have Hfin := Lib.hid hfin
  clear hfin
  rcases nv_shape t7 with hV7 | ⟨ty, X7, hV7⟩
  all_goals
    rw [hV7] at hs3 hs6 hb2 Hfin ⊢
    clear hV7
    go_wp2_with (first
      | ((with_reducible show wpList _ _ _ (⟨some 31, _, _, _, _, _⟩ :: _) _ _); refine wpList_loadA (o := ⟨some 31, _, _, _, _, _⟩) (by rfl) 102 (.tmp 3) (by rfl) w.heap.size (by rfl) aggFork hs3 hl ?_)
      | ((with_reducible show wpList _ _ _ (⟨none, Op.store _ _ (Operand.tmp 31), _, _, _, _⟩ :: _) _ _); refine wpList_storeA (o := ⟨none, _, _, _, _, _⟩) (by rfl) 102 (.tmp 6) (.tmp 31) (by rfl) (w.heap.size + 1) ZC (by rfl) (by rfl) aggFork hs6 hl (by rfl) h1 hb2 (by omega) ?_; intro w7 h7 b7 g7))
    exact bodyPost_ret (results_blk rfl _ _ (w.heap.size + 1) aggFork h7 hl rfl) rfl (Hfin.out w7 h7 b7 g7)
end Go.Proofs.Ytcgpjceopnfahaa
