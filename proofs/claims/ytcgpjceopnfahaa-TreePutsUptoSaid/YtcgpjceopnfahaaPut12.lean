/- tree.put at a leaf, a road, a fork. -/
import Derived.Test.YtcgpjceopnfahaaPut11
set_option linter.unusedSimpArgs false
set_option linter.unusedVariables false
namespace Go.Proofs.Ytcgpjceopnfahaa
open Go.RowKit
set_option maxHeartbeats 2000000 in
set_option maxRecDepth 100000 in
theorem put_leaf (na ua ka va : Option Addr) (nn nc un uc kn kc vn vc : Nat) (q u p v : List UInt8) (hnl : q.length = nn) (hkl : p.length = kn) (hvl : v.length = vn) (hn1 : nn ≤ 1000000000) (hk1 : kn ≤ 1000000000) (hq : nibs q) (hp : nibs p) (w : World) (hnb : Bytes w (.slice na nn nc) q) (hub : Bytes w (.slice ua un uc) u) (hkb : Bytes w (.slice ka kn kc) p) (hvb : Bytes w (.slice va vn vc) v) :
    Calls Try.prog 21 #[.iface 95 (.agg #[.slice na nn nc, .slice ua un uc]), .slice ka kn kc, .slice va vn vc] w (NvPost (putQ (.mk 1 q u []) p v) w) := by
  have z1 := as1_1
  obtain ⟨w1, hw1⟩ : ∃ w1, w1 = w.alloc (.cells #[.slice na nn nc, .slice ua un uc] 95) := ⟨_, rfl⟩
  have hz : Blk 95 w1 w.heap.size [.slice na nn nc, .slice ua un uc] := by rw [hw1]; exact Blk.new w _ _
  have hbel : Below w.heap.size w w1 := by rw [hw1]; exact (Below.refl _ _).alloc (Nat.le_refl _) _
  have cl := putLeaf_any na ua ka va nn nc un uc kn kc vn vc q u p v hnl hkl hvl hn1 hk1 hq hp w1 (hnb.below hbel) (hub.below hbel) (hkb.below hbel) (hvb.below hbel)
  obtain ⟨R, hR⟩ : ∃ R, R = putQ (.mk 1 q u []) p v := ⟨_, rfl⟩
  rw [← hR] at cl ⊢
  have Cl := Lib.hid cl
  have Hw1 := Lib.hid hw1
  have r1 := hz.all0
  rw [hw1] at hz r1
  clear hw1 cl hR hnb hub hkb hvb hnl hkl hvl hq hp
  go_enter Try.func21, Try.ntmps21
  go_wp2_with (first
    | ((with_reducible show wpList _ _ _ (⟨some 14, _, _, _, _, _⟩ :: _) _ _); refine wpList_loadA (o := ⟨some 14, _, _, _, _, _⟩) (by rfl) 95 (.tmp 7) (by rfl) w.heap.size (by rfl) aggLeaf hz (by rfl) ?_)
    | (go_at_call 44; rw [← Hw1.out]; (with_reducible refine Cl.out.mono ?_); rintro e w3 ⟨t, rfl, b3, it, ct⟩; obtain ⟨VT, hVT⟩ : ∃ x, x = nv t := ⟨_, rfl⟩; rw [← hVT]; have HVT := Lib.hid hVT; clear hVT))
  go_ret
  exact ⟨t, by rw [← HVT.out]; rfl, Below.then hbel b3, it, ct⟩
set_option maxHeartbeats 2000000 in
set_option maxRecDepth 100000 in
theorem put_road (na ka va : Option Addr) (nn nc kn kc vn vc : Nat) (q p v : List UInt8) (k : Nd) (hk3 : k.kd = 3) (ih : PutC k) (hnl : q.length = nn) (hkl : p.length = kn) (hvl : v.length = vn) (hn1 : nn ≤ 1000000000) (hk1 : kn ≤ 1000000) (hq : nibs q) (hp : nibs p) (hpb : (putQ (clN k) (p.drop nn) v).pth.length ≤ 1000000000) (hkp : k.path.length ≤ 1000000000) (w : World) (hnb : Bytes w (.slice na nn nc) q) (hkb : Bytes w (.slice ka kn kc) p) (hvb : Bytes w (.slice va vn vc) v) (hk : IsNv w k) :
    Calls Try.prog 21 #[.iface 98 (.agg #[.slice na nn nc, nv k]), .slice ka kn kc, .slice va vn vc] w (NvPost (putQ (.mk 2 q [] [clN k]) p v) w) := by
  have z1 := as2_1
  have z2 := as2_2
  obtain ⟨X, hX⟩ := nv_fork hk3
  obtain ⟨w1, hw1⟩ : ∃ w1, w1 = w.alloc (.cells #[.slice na nn nc, .iface 102 X] 98) := ⟨_, rfl⟩
  have hz : Blk 98 w1 w.heap.size [.slice na nn nc, .iface 102 X] := by rw [hw1]; exact Blk.new w _ _
  have hbel : Below w.heap.size w w1 := by rw [hw1]; exact (Below.refl _ _).alloc (Nat.le_refl _) _
  have cl := putRoad_any na ka va nn nc kn kc vn vc q p v k hk3 ih hnl hkl hvl hn1 hk1 hq hp hpb hkp w1 (hnb.below hbel) (hkb.below hbel) (hvb.below hbel) (hk.kept hbel)
  obtain ⟨R, hR⟩ : ∃ R, R = putQ (.mk 2 q [] [clN k]) p v := ⟨_, rfl⟩
  rw [← hR] at cl ⊢
  rw [hX] at cl ⊢
  have Cl := Lib.hid cl
  have Hw1 := Lib.hid hw1
  have r1 := hz.all0
  rw [hw1] at hz r1
  clear hw1 cl hR hnb hkb hvb hnl hkl hvl hq hp hpb hkp ih hk hk3 hX
  go_enter Try.func21, Try.ntmps21
  go_wp2_with (first
    | ((with_reducible show wpList _ _ _ (⟨some 21, _, _, _, _, _⟩ :: _) _ _); refine wpList_loadA (o := ⟨some 21, _, _, _, _, _⟩) (by rfl) 98 (.tmp 8) (by rfl) w.heap.size (by rfl) aggRoad hz (by rfl) ?_)
    | (go_at_call 45; rw [← Hw1.out]; (with_reducible refine Cl.out.mono ?_); rintro e w3 ⟨t, rfl, b3, it, ct⟩; obtain ⟨VT, hVT⟩ : ∃ x, x = nv t := ⟨_, rfl⟩; rw [← hVT]; have HVT := Lib.hid hVT; clear hVT))
  go_ret
  exact ⟨t, by rw [← HVT.out]; rfl, Below.then hbel b3, it, ct⟩
set_option maxHeartbeats 2000000 in
set_option maxRecDepth 100000 in
theorem put_fork_nil (ka ua va : Option Addr) (kc un uc vn vc : Nat) (u v : List UInt8) (ks : List Nd) (hks : ks.length = 16) (hvl : v.length = vn) (hpl : ∀ k ∈ ks, k.path.length ≤ 1000000000) (w : World) (hvb : Bytes w (.slice va vn vc) v) (hk : ∀ k ∈ ks, IsNv w k) :
    Calls Try.prog 21 #[.iface 102 (.agg (nvL ks ++ [Value.slice ua un uc]).toArray), .slice ka 0 kc, .slice va vn vc] w (NvPost (tidyQ v (clNL ks)) w) := by
  have z1 := as3_1
  have z2 := as3_2
  have z3 := as3_3
  have hFl := fk_len ks (.slice ua un uc) hks
  have hF1 := fk_one ks ua un uc
  have hno := fk_no8 ks ua un uc
  have hset := fk_last ks hks (.slice ua un uc) (.slice va vn vc)
  have ct := fun (x : World) (hx : Below w.heap.size w x) => tidy_any va vn vc v ks x hvl hks (hvb.below hx) (fun k hk2 => (hk k hk2).kept hx) hpl
  rw [← hset] at ct
  obtain ⟨FC, hFC⟩ : ∃ FC, FC = nvL ks ++ [Value.slice ua un uc] := ⟨_, rfl⟩
  rw [← hFC] at hFl hF1 hno ct ⊢
  have hl2 : (FC.set 16 (.slice va vn vc)).length = 17 := by rw [List.length_set]; exact hFl
  have Ct := Lib.hid ct
  have bA : Below w.heap.size w (w.alloc (.cells zFork.toArray 102)) := (Below.refl _ _).alloc (Nat.le_refl _) _
  clear ct hset hFC hvb hk hks hvl hpl hno
  go_enter Try.func21, Try.ntmps21
  go_wp2_with (first
    | ((with_reducible show wpList _ _ _ (⟨none, Op.store _ _ (Operand.tmp 27), _, _, _, _⟩ :: _) _ _); refine wpList_storeA (o := ⟨none, _, _, _, _, _⟩) (by rfl) 102 (.tmp 9) (.tmp 27) (by rfl) w.heap.size FC (by rfl) (by rfl) aggFork (Blk.new w 102 zFork) hFl (by rfl) hF1 bA (Nat.le_refl _) ?_; intro w3 h3 b3 _; obtain ⟨x16, hx16⟩ := h3.has 16 (by rw [hFl]; omega); have hf16 := h3.free 16; have hs := h3.set 16 (.slice va vn vc); have by0 : Below w.heap.size w (w3.setCell ⟨w.heap.size, 16, none⟩ (.slice va vn vc)) := b3.grown (grown_cell 16 _) b3.size (fun k hk => by cases hk; exact Nat.le_refl _))
    | ((with_reducible show wpList _ _ _ (⟨some 48, _, _, _, _, _⟩ :: _) _ _); refine wpList_loadA (o := ⟨some 48, _, _, _, _, _⟩) (by rfl) 102 (.tmp 9) (by rfl) w.heap.size (by rfl) aggFork hs hl2 ?_)
    | (go_at_call 46; (with_reducible refine (Ct.out _ by0).mono ?_); rintro e w4 ⟨t, rfl, b4, it, ct⟩; obtain ⟨VT, hVT⟩ : ∃ x, x = nv t := ⟨_, rfl⟩; rw [← hVT]; have HVT := Lib.hid hVT; clear hVT))
  go_ret
  exact ⟨t, by rw [← HVT.out]; rfl, Below.then by0 b4, it, ct⟩
set_option maxHeartbeats 2000000 in
set_option maxRecDepth 100000 in
theorem put_fork_cons (ka ua va : Option Addr) (kn kc un uc vn vc : Nat) (u v : List UInt8) (x : UInt8) (p : List UInt8) (ks : List Nd) (hks : ks.length = 16) (hkl : (x :: p).length = kn) (hk1 : kn ≤ 1000000) (hvl : v.length = vn) (hul : u.length = un) (hp : nibs (x :: p)) (ih : ∀ k ∈ ks, PutC k) (hpl : ∀ k ∈ ks, k.path.length ≤ 1000000000) (hpb : (putQ ((clNL ks)[x.toNat]?.getD nP) p v).pth.length ≤ 1000000000) (w : World) (hub : Bytes w (.slice ua un uc) u) (hkb : Bytes w (.slice ka kn kc) (x :: p)) (hvb : Bytes w (.slice va vn vc) v) (hk : ∀ k ∈ ks, IsNv w k) :
    Calls Try.prog 21 #[.iface 102 (.agg (nvL ks ++ [Value.slice ua un uc]).toArray), .slice ka kn kc, .slice va vn vc] w (NvPost (tidyQ u (putQL (clNL ks) x.toNat p v)) w) := by
  have z1 := as3_1
  have z2 := as3_2
  have z3 := as3_3
  have hx : x.toNat < 16 := hp x List.mem_cons_self
  have hFl := fk_len ks (.slice ua un uc) hks
  have hF1 := fk_one ks ua un uc
  have hno := fk_no8 ks ua un uc
  have hset := fun t => fk_set ks hks x.toNat hx t (.slice ua un uc)
  have hkx : ks[x.toNat]? = some (ks[x.toNat]'(by omega)) := List.getElem?_eq_getElem (by omega)
  have hmk := List.getElem_mem (l := ks) (n := x.toNat) (by omega)
  obtain ⟨K, hK⟩ : ∃ K, K = ks[x.toNat]'(by omega) := ⟨_, rfl⟩
  rw [← hK] at hkx hmk
  have hck : (clNL ks)[x.toNat]? = some (clN K) := by rw [clNL_map, List.getElem?_map, hkx]; rfl
  rw [hck] at hpb
  simp only [Option.getD_some] at hpb
  have hQ : putQL (clNL ks) x.toNat p v = (clNL ks).set x.toNat (putQ (clN K) p v) := by rw [putQL_set, hck]; rfl
  rw [hQ]
  have hFx : (nvL ks ++ [Value.slice ua un uc])[x.toNat]? = some (nv K) := by
    rw [List.getElem?_append_left (by rw [nvL_map]; simpa [hks] using hx), nvL_map, List.getElem?_map, hkx]; rfl
  have hq1 : 1 ≤ kn := by rw [← hkl]; simp
  have hne : ((kn : Int) == 0) = false := by rw [beq_eq_false_iff_ne]; omega
  have hlt0 : 0 < kn := by omega
  have hxi : (x.toNat : Int) < 16 := by omega
  obtain ⟨bq, oq, rfl, hcq⟩ := Bytes.at hkb 0 (by simp)
  simp only [List.getElem_cons_zero] at hcq
  obtain ⟨a5, c5, run5, row5⟩ := RowOf.from elU8 hkb 1 hq1 1 rfl
  simp only [List.drop_succ_cons, List.drop_zero] at row5
  have hpl1 : p.length = kn - 1 := by rw [← hkl]; simp
  have cg := fun (u : World) (hu : Below w.heap.size w u) => ih K hmk a5 va (kn - 1) c5 vn vc p v u hpl1 hvl (by omega) (fun y hy => hp y (List.mem_cons_of_mem _ hy)) ((hk K hmk).kept hu) (row5.below hu) (hvb.below hu)
  have ct := fun (t : Nd) (htc : clN t = putQ (clN K) p v) (y : World) (hy : Bytes y (.slice ua un uc) u) (hky : ∀ k ∈ ks.set x.toNat t, IsNv y k) => tidy_any ua un uc u (ks.set x.toNat t) y hul (by rw [List.length_set]; exact hks) hy hky (fun k hk2 => by
    rcases List.mem_or_eq_of_mem_set hk2 with h | rfl
    · exact hpl k h
    · unfold Nd.path; rw [htc]; exact hpb)
  have hkw := fun (t : Nd) (y : World) (hold : ∀ k ∈ ks, IsNv y k) (ht : IsNv y t) => show ∀ k ∈ ks.set x.toNat t, IsNv y k from fun k hk2 => by
    rcases List.mem_or_eq_of_mem_set hk2 with h | rfl
    · exact hold k h
    · exact ht
  have ct2 := fun (t : Nd) (htc : clN t = putQ (clN K) p v) (y : World) (hy : Bytes y (.slice ua un uc) u) (hky : ∀ k ∈ ks.set x.toNat t, IsNv y k) => (by
    have := ct t htc y hy hky
    rw [← hset t, clNL_set, htc] at this
    exact this : Calls Try.prog 46 #[.agg ((nvL ks ++ [Value.slice ua un uc]).set x.toNat (nv t)).toArray] y (NvPost (tidyQ u ((clNL ks).set x.toNat (putQ (clN K) p v))) y))
  have bA : Below w.heap.size w (w.alloc (.cells zFork.toArray 102)) := (Below.refl _ _).alloc (Nat.le_refl _) _
  obtain ⟨FC, hFC⟩ : ∃ FC, FC = nvL ks ++ [Value.slice ua un uc] := ⟨_, rfl⟩
  rw [← hFC] at hFl hF1 hno hFx ⊢
  simp only [← hFC] at ct2
  obtain ⟨V, hV⟩ : ∃ V, V = nv K := ⟨_, rfl⟩
  rw [← hV] at hFx
  simp only [← hV] at cg
  obtain ⟨R, hR⟩ : ∃ R, R = tidyQ u ((clNL ks).set x.toNat (putQ (clN K) p v)) := ⟨_, rfl⟩
  simp only [← hR] at ct2 ⊢
  obtain ⟨Q, hQQ⟩ : ∃ Q, Q = putQ (clN K) p v := ⟨_, rfl⟩
  simp only [← hQQ] at ct2 cg
  have Ct := Lib.hid ct2
  have Cg := Lib.hid cg
  have Hkw := Lib.hid hkw
  have Hk := Lib.hid hk
  have Hub := Lib.hid hub
  have HFx := Lib.hid hFx
  have Hno := Lib.hid hno
  clear ct ct2 cg hkw hk hub hFx hno hset hFC hV hR hQQ hQ hck hkx hK hmk hpb hpl ih hp hvl hks hkb hvb row5 hpl1 hul hkl
  go_enter Try.func21, Try.ntmps21
  go_wp2_with ((with_reducible show wpList _ _ _ (⟨none, Op.store _ _ (Operand.tmp 27), _, _, _, _⟩ :: _) _ _); refine wpList_storeA (o := ⟨none, _, _, _, _, _⟩) (by rfl) 102 (.tmp 9) (.tmp 27) (by rfl) w.heap.size FC (by rfl) (by rfl) aggFork (Blk.new w 102 zFork) hFl (by rfl) hF1 bA (Nat.le_refl _) ?_; intro w4 h4 b4 g4)
  have k1 := fun u : Ext w4 => u.cell (show w4.cell? ⟨bq, oq, none⟩ = some (.int .u8 (x.toNat : Int)) from by rw [b4.cell (World.block_lt_of_cell? w _ (by simpa using hcq))]; simpa using hcq)
  have k2 := fun u : Ext w4 => u.cell ((h4.cell x.toNat).trans HFx.out)
  refine wp_region_typed w4 15 (by kernel_rfl) (by kernel_rfl) (Below.refl _ _) ?_; simp only [List.take_succ_cons, List.take_zero, List.take_nil]
  iterate 12 (refine wpX_step (by rfl) (fun K hK => ?_); go_simp; first | (refine hK _ ?_; clear hK K) | (apply Exists.intro; refine ⟨fun _ => ?_, hK _ ?_⟩; exact run5 _; clear hK K))
  refine wpX_rel 45 (NvT Q) rfl (of_decide_eq_true rfl) (NvT.mono _) (fun w6 hw6 => ?_) ?_
  · simp only [relOf, List.filter_nil, forallRel]
    refine ⟨rfl, ?_⟩
    go_simp
    refine (Cg.out w6 (Below.then b4 hw6)).mono ?_
    rintro e w7 ⟨t7, rfl, b7, i7, c7⟩
    exact ⟨_, rfl, ⟨t7, rfl, i7, c7⟩, b7⟩
  iterate 2 (refine wpX_step (by rfl) (fun K hK => ?_); go_simp; first | (refine hK _ ?_; clear hK K) | (apply Exists.intro; refine ⟨fun _ => ?_, hK _ ?_⟩; fail; clear hK K))
  refine wpX_nil ?_
  intro y hy v45 h45
  change wpList _ _ _ [_] _ _
  simp only [Act.put, List.setIfInBounds_toArray, List.set_cons_zero, List.set_cons_succ]
  obtain ⟨t7, rfl, i7, c7⟩ := h45
  have by1 := Below.then b4 hy
  have hy4 := h4.kept hy
  have hs := hy4.set x.toNat (nv t7)
  have gc : y.grownBy (y.setCell ⟨w.heap.size, x.toNat, none⟩ (nv t7)) (some w.heap.size) := grown_cell x.toNat _
  have hb2 : Below w.heap.size w (y.setCell ⟨w.heap.size, x.toNat, none⟩ (nv t7)) := by1.grown gc by1.size (fun k hk => by cases hk; exact Nat.le_refl _)
  have hl2 : (FC.set x.toNat (nv t7)).length = 17 := by rw [List.length_set]; exact hFl
  obtain ⟨xc, hxc⟩ := hy4.has x.toNat (by rw [hFl]; omega)
  have hfc := hy4.free x.toNat
  have cl := Ct.out t7 c7 _ (Hub.out.below hb2) (Hkw.out t7 _ (fun k hk2 => (Hk.out k hk2).kept hb2) (i7.off hy4 Hno.out gc))
  have Cl := Lib.hid cl
  clear cl i7 gc k1 k2
  rcases nv_shape t7 with hV7 | ⟨ty, X7, hV7⟩
  all_goals
    rw [hV7] at hs hb2 hl2 Cl ⊢
    clear hV7
    go_wp2_with (first
      | ((with_reducible show wpList _ _ _ (⟨some 48, _, _, _, _, _⟩ :: _) _ _); refine wpList_loadA (o := ⟨some 48, _, _, _, _, _⟩) (by rfl) 102 (.tmp 9) (by rfl) w.heap.size (by rfl) aggFork hs hl2 ?_)
      | (go_at_call 46; (with_reducible refine Cl.out.mono ?_); rintro e w5 ⟨t, rfl, b5, it, ct⟩; obtain ⟨VT, hVT⟩ : ∃ x, x = nv t := ⟨_, rfl⟩; rw [← hVT]; have HVT := Lib.hid hVT; clear hVT))
    go_ret
    exact ⟨t, by rw [← HVT.out]; rfl, Below.then hb2 b5, it, ct⟩
end Go.Proofs.Ytcgpjceopnfahaa
