/- tree.part, at every input. -/
import Derived.Test.YtcgpjceopnfahaaPut8
set_option linter.unusedSimpArgs false
set_option linter.unusedVariables false
namespace Go.Proofs.Ytcgpjceopnfahaa
open Go.RowKit
theorem with_any (pa : Option Addr) (pn pc : Nat) (r : List UInt8) (hpn : r.length = pn) (hp1 : pn ≤ 1000000000) (hx : nibs r) (t : Nd) (ht1 : t.path.length ≤ 1000000000) (h0 : r = [] → t.kd = 1) (w : World) (hp : Bytes w (.slice pa pn pc) r) (ht : IsNv w t) :
    Calls Try.prog 91 #[.agg #[.nilIface, .nilIface, .nilIface, .nilIface, .nilIface, .nilIface, .nilIface, .nilIface, .nilIface, .nilIface, .nilIface, .nilIface, .nilIface, .nilIface, .nilIface, .nilIface, .slice none 0 0], .slice pa pn pc, nv t] w (FkPost (withQ r (clN t)).1 (withQ r (clN t)).2 w) := by
  cases r with
  | nil =>
    simp only [List.length_nil] at hpn
    subst hpn
    have hk := h0 rfl
    cases ht with
    | none => simp [Nd.kd] at hk
    | road => simp [Nd.kd] at hk
    | fork => simp [Nd.kd] at hk
    | leaf qv q vv u kv ks hq hv =>
      obtain ⟨qa, qc, rfl, _⟩ := hq.form
      obtain ⟨va, vc, rfl, _⟩ := hv.form
      exact with_nil pa qa va pc _ qc _ vc q u w hv
  | cons x r =>
    exact with_cons pa pn pc x r hpn hp1 (hx x List.mem_cons_self) t ht1 w hp ht
set_option maxHeartbeats 4000000 in
set_option maxRecDepth 100000 in
theorem part_same (na ka va : Option Addr) (nn nc kn kc vn vc : Nat) (q p v : List UInt8) (t : Nd) (c : Nat) (hnl : q.length = nn) (hkl : p.length = kn) (hvl : v.length = vn) (hn1 : nn ≤ 1000000000) (hk1 : kn ≤ 1000000000) (hc : c = com q p) (hq : nibs q) (hp : nibs p) (ht1 : t.path.length ≤ 1000000000) (h0 : c = nn → t.kd = 1) (hcp : kn = c) (w : World) (hnb : Bytes w (.slice na nn nc) q) (hkb : Bytes w (.slice ka kn kc) p) (hvb : Bytes w (.slice va vn vc) v) (ht : IsNv w t) :
    Calls Try.prog 75 #[.int .i64 (c : Int), .slice na nn nc, nv t, .slice ka kn kc, .slice va vn vc] w (NvPost (partQ c q (clN t) p v) w) := by
  have hcl := com_le q p
  rw [← hc] at hcl
  obtain ⟨a5, c5, r5, row5⟩ := RowOf.from elU8 hnb c (by omega) (c : Int) rfl
  have cw := fun (u : World) (hu : Below w.heap.size w u) => with_any a5 (nn - c) c5 (q.drop c) (by rw [List.length_drop]; omega) (by omega) (fun x hx => hq x (List.mem_of_mem_drop hx)) t ht1 (fun e => h0 (by have := List.drop_eq_nil_iff.1 e; omega)) u (row5.below hu) (ht.kept hu)
  obtain ⟨VT, hVT⟩ : ∃ VT, VT = nv t := ⟨_, rfl⟩
  simp only [← hVT] at cw ⊢
  have hcn : (c : Int) ≤ (nn : Int) := by omega
  have hck : (c : Int) ≤ (kn : Int) := by omega
  have hkk : (kn : Int) ≤ 1000000000 := by omega
  have Cw := Lib.hid cw
  have Hnb := Lib.hid hnb
  have Hvb := Lib.hid hvb
  have hpart : partQ c q (clN t) p v = behindQ (q.take c) (.mk 3 [] v (withQ (q.drop c) (clN t)).2) := by unfold partQ; rw [if_pos (by omega), if_pos (by omega)]
  have Hpart := Lib.hid hpart
  have Hnl := Lib.hid hnl
  subst hcp
  clear hpart hnl cw hVT hc hq hp ht1 h0 hnb hkb hvb ht row5 hkl hvl
  go_enter Try.func75, Try.ntmps75
  go_wp2_with (first
    | (go_at_call 91; (with_reducible refine (Cw.out _ (Below.refl _ _)).mono ?_); rintro e w2 ⟨ks, a, n, d, rfl, bw2, hks, hv2, hk2, hcl2⟩; have hFl := fk_len ks (.slice a n d) hks; have hF1 := fk_one ks a n d; have Hcl2 := Lib.hid hcl2; have Hks := Lib.hid hks; obtain ⟨FC, hFC⟩ : ∃ FC, FC = nvL ks ++ [Value.slice a n d] := ⟨_, rfl⟩; rw [← hFC] at hFl hF1; rw [← hFC]; have HFC := Lib.hid hFC; clear hFC hcl2 hks)
    | ((with_reducible show wpList _ _ _ (⟨none, Op.store _ _ (Operand.tmp 17), _, _, _, _⟩ :: _) _ _); refine wpList_storeA (o := ⟨none, _, _, _, _, _⟩) (by rfl) 102 (.tmp 11) (.tmp 17) (by rfl) w2.heap.size FC (by rfl) (by rfl) aggFork (Blk.new w2 102 zFork) hFl (by rfl) hF1 ((Below.refl w2.heap.size w2).alloc (Nat.le_refl _) _) (Nat.le_refl _) ?_; intro w3 h3 b3 _; obtain ⟨x16, hx16⟩ := h3.has 16 (by rw [hFl]; omega); have hf16 := h3.free 16; have bw3 := Below.then bw2 b3))
  have hFD : FC.set 16 (.slice va vn vc) = nvL ks ++ [Value.slice va vn vc] := by rw [HFC.out]; exact fk_last ks Hks.out _ _
  have gc : w3.grownBy (w3.setCell ⟨w2.heap.size, 16, none⟩ (.slice va vn vc)) (some w2.heap.size) := grown_cell 16 _
  have hs := h3.set 16 (.slice va vn vc)
  have by0 : Below w.heap.size w (w3.setCell ⟨w2.heap.size, 16, none⟩ (.slice va vn vc)) := bw3.grown gc bw3.size (fun k hk => by cases hk; exact bw2.size)
  have hno : ∀ x ∈ FC, ∀ k, x ≠ .int .u8 k := by rw [HFC.out]; exact fk_no8 ks a n d
  have HKI : Hid (∀ k ∈ ks, IsNv (w3.setCell ⟨w2.heap.size, 16, none⟩ (.slice va vn vc)) k) := Lib.hid (fun k hk => ((hk2 k hk).kept b3).off h3 hno gc)
  have HVV : Hid (Bytes (w3.setCell ⟨w2.heap.size, 16, none⟩ (.slice va vn vc)) (.slice va vn vc) v) := Lib.hid (Hvb.out.below by0)
  obtain ⟨y, hy⟩ : ∃ y, y = w3.setCell ⟨w2.heap.size, 16, none⟩ (.slice va vn vc) := ⟨_, rfl⟩
  rw [← hy] at hs by0 HKI HVV
  have HY := Lib.hid hy
  obtain ⟨FD, hFD2⟩ : ∃ FD, FD = FC.set 16 (.slice va vn vc) := ⟨_, rfl⟩
  rw [← hFD2] at hs hFD
  have HFD := Lib.hid hFD
  have HK2 := Hks
  have HT : Hid (behindQ (q.take kn) (.mk 3 [] v (clNL ks)) = partQ kn q (clN t) p v) := Lib.hid (by rw [Hpart.out, Hcl2.out])
  clear hFD hFD2 hy gc hno hx16 hf16 h3 hF1 hFl
  have hF2l : FD.length = 17 := by rw [HFD.out]; exact fk_len _ _ HK2.out
  have r1 := hs.all0
  obtain ⟨a7, c7, r7, cb⟩ := part_end na nn nc q kn Hnl.out hn1 (by omega) y (Hnb.out.below by0) ks HK2.out va vn vc v HVV.out HKI.out
  rw [← HFD.out] at cb
  have Cb := Lib.hid cb
  clear cb
  rw [show w3.setCell ⟨w2.heap.size, 16, none⟩ (.slice va vn vc) = y from HY.out.symm]
  refine wp_region_typed y 6 (by kernel_rfl) (by kernel_rfl) (Below.refl _ _) ?_; simp only [List.take_succ_cons, List.take_zero, List.take_nil]
  iterate 3 (refine wpX_step (by rfl) (fun K hK => ?_); go_simp; first | (refine hK _ ?_; clear hK K) | (apply Exists.intro; refine ⟨fun _ => ?_, hK _ ?_⟩; exact r7 _ _; clear hK K))
  (refine wpX_step (by rfl) (fun K hK => ?_); rw [if_pos (by rfl)]; refine ⟨_, fun u => const_loadm _ (.tmp 11) (by rfl) _ _ (by rfl) aggFork hF2l (rangeAt.ext r1 u), hK _ ?_⟩; clear hK K; simp only [Act.put, List.setIfInBounds_toArray, List.set_cons_zero, List.set_cons_succ])
  (refine wpX_step (by rfl) (fun K hK => ?_); go_simp; first | (refine hK _ ?_; clear hK K) | (apply Exists.intro; refine ⟨fun _ => ?_, hK _ ?_⟩; fail; clear hK K))
  refine wpX_rel 42 (NvT (partQ kn q (clN t) p v)) rfl (of_decide_eq_true rfl) (NvT.mono _) (fun w6 hw6 => ?_) ?_
  · simp only [relOf, List.filter_nil, forallRel]
    refine ⟨rfl, ?_⟩
    go_simp
    refine (Cb.out w6 hw6).mono ?_
    rintro e w7 ⟨t7, rfl, b7, i7, c7'⟩
    exact ⟨_, rfl, ⟨t7, rfl, i7, c7'.trans HT.out⟩, b7⟩
  refine wpX_nil ?_
  intro u5 hu5 v42 h42
  change wpList _ _ _ [_] _ _
  simp only [Act.put, List.setIfInBounds_toArray, List.set_cons_zero, List.set_cons_succ]
  obtain ⟨t7, rfl, i7, c7'⟩ := h42
  obtain ⟨V7, hV7⟩ : ∃ V, V = nv t7 := ⟨_, rfl⟩
  rw [← hV7]
  have HV7 := Lib.hid hV7
  clear hV7
  go_wp2_with fail
  go_ret
  exact ⟨t7, by rw [← HV7.out]; rfl, Below.then by0 hu5, i7, c7'⟩
set_option maxHeartbeats 4000000 in
set_option maxRecDepth 100000 in
theorem part_diff (na ka va : Option Addr) (nn nc kn kc vn vc : Nat) (q p v : List UInt8) (t : Nd) (c : Nat) (hnl : q.length = nn) (hkl : p.length = kn) (hvl : v.length = vn) (hn1 : nn ≤ 1000000000) (hk1 : kn ≤ 1000000000) (hc : c = com q p) (hq : nibs q) (hp : nibs p) (ht1 : t.path.length ≤ 1000000000) (h0 : c = nn → t.kd = 1) (hcp : c < kn) (w : World) (hnb : Bytes w (.slice na nn nc) q) (hkb : Bytes w (.slice ka kn kc) p) (hvb : Bytes w (.slice va vn vc) v) (ht : IsNv w t) :
    Calls Try.prog 75 #[.int .i64 (c : Int), .slice na nn nc, nv t, .slice ka kn kc, .slice va vn vc] w (NvPost (partQ c q (clN t) p v) w) := by
  have hcl := com_le q p
  rw [← hc] at hcl
  obtain ⟨a5, c5, r5, row5⟩ := RowOf.from elU8 hnb c (by omega) (c : Int) rfl
  have cw := fun (u : World) (hu : Below w.heap.size w u) => with_any a5 (nn - c) c5 (q.drop c) (by rw [List.length_drop]; omega) (by omega) (fun x hx => hq x (List.mem_of_mem_drop hx)) t ht1 (fun e => h0 (by have := List.drop_eq_nil_iff.1 e; omega)) u (row5.below hu) (ht.kept hu)
  obtain ⟨VT, hVT⟩ : ∃ VT, VT = nv t := ⟨_, rfl⟩
  simp only [← hVT] at cw ⊢
  have hcn : (c : Int) ≤ (nn : Int) := by omega
  have hck : (c : Int) ≤ (kn : Int) := by omega
  have hkk : (kn : Int) ≤ 1000000000 := by omega
  have Cw := Lib.hid cw
  have Hnb := Lib.hid hnb
  have Hvb := Lib.hid hvb
  have hpcl : c < p.length := by omega
  obtain ⟨x, hx⟩ : ∃ x, x = p[c] := ⟨_, rfl⟩
  have hx16 : x.toNat < 16 := by rw [hx]; exact hp _ (List.getElem_mem _)
  have hpart : partQ c q (clN t) p v = behindQ (q.take c) (.mk 3 [] (withQ (q.drop c) (clN t)).1 ((withQ (q.drop c) (clN t)).2.set x.toNat (.mk 1 (p.drop (c + 1)) v []))) := by unfold partQ; rw [if_neg (by omega), if_neg (by omega), List.getElem?_eq_getElem hpcl, Option.getD_some, ← hx]
  obtain ⟨a6, c6, r6, row6⟩ := RowOf.from elU8 hkb (c + 1) (by omega) ((c : Int) + 1) (by omega)
  obtain ⟨kb, ko, rfl, hkc⟩ := Bytes.at hkb c hpcl
  rw [← hx] at hkc
  have hwc : IntKind.i64.wrap ((c : Int) + 1) = (c : Int) + 1 := by rw [IntWalk.i64_in _ (by omega)]
  have hzk : ((kn : Int) == (c : Int)) = false := beq_eq_false_iff_ne.2 (by omega)
  have hclt : (c : Int) < (kn : Int) := by omega
  have hxi : (x.toNat : Int) < 16 := by omega
  have Hpart := Lib.hid hpart
  have Hnl := Lib.hid hnl
  have HR6 := Lib.hid row6
  have Hx16 := Lib.hid hx16
  clear hpart hnl cw hVT hc hq hp ht1 h0 hnb hkb hvb ht row5 hkl hvl row6 hpcl hx hcp hx16
  go_enter Try.func75, Try.ntmps75
  go_wp2_with (first
    | (go_at_call 91; (with_reducible refine (Cw.out _ (Below.refl _ _)).mono ?_); rintro e w2 ⟨ks, a, n, d, rfl, bw2, hks, hv2, hk2, hcl2⟩; have hFl := fk_len ks (.slice a n d) hks; have hF1 := fk_one ks a n d; have Hcl2 := Lib.hid hcl2; have Hks := Lib.hid hks; obtain ⟨FC, hFC⟩ : ∃ FC, FC = nvL ks ++ [Value.slice a n d] := ⟨_, rfl⟩; rw [← hFC] at hFl hF1; rw [← hFC]; have HFC := Lib.hid hFC; clear hFC hcl2 hks)
    | ((with_reducible show wpList _ _ _ (⟨none, Op.store _ _ (Operand.tmp 17), _, _, _, _⟩ :: _) _ _); refine wpList_storeA (o := ⟨none, _, _, _, _, _⟩) (by rfl) 102 (.tmp 11) (.tmp 17) (by rfl) w2.heap.size FC (by rfl) (by rfl) aggFork (Blk.new w2 102 zFork) hFl (by rfl) hF1 ((Below.refl w2.heap.size w2).alloc (Nat.le_refl _) _) (Nat.le_refl _) ?_; intro w3 h3 b3 _; obtain ⟨x16, hx16⟩ := h3.has 16 (by rw [hFl]; omega); have hf16 := h3.free 16; have bw3 := Below.then bw2 b3))
  have k1 := fun u : Ext w3 => u.cell (show w3.cell? ⟨kb, ko + c, none⟩ = some (.int .u8 (x.toNat : Int)) from by rw [bw3.cell (World.block_lt_of_cell? w _ hkc)]; exact hkc)
  refine wp_region_typed w3 13 (by kernel_rfl) (by kernel_rfl) (Below.refl _ _) ?_; simp only [List.take_succ_cons, List.take_zero, List.take_nil]
  iterate 13 (refine wpX_step (by rfl) (fun K hK => ?_); go_simp; first | (refine hK _ ?_; clear hK K) | (apply Exists.intro; refine ⟨fun _ => ?_, hK _ ?_⟩; exact r6 _ _; clear hK K))
  refine wpX_nil ?_
  intro y2 hy2
  change wpList _ _ _ [_] _ _
  try simp only [Act.put, List.setIfInBounds_toArray, List.set_cons_zero, List.set_cons_succ]
  have hy3 := h3.kept hy2
  obtain ⟨xx, hxx⟩ := hy3.has x.toNat (by rw [hFl]; have := Hx16.out; omega)
  have hfx := hy3.free x.toNat
  go_wp2_with fail
  have by2 := Below.then bw3 hy2
  have hFD : FC.set x.toNat (.iface 95 (.agg #[.slice a6 (kn - (c + 1)) c6, .slice va vn vc])) = nvL (ks.set x.toNat (.mk 1 (.slice a6 (kn - (c + 1)) c6) (p.drop (c + 1)) (.slice va vn vc) v (.slice none 0 0) [])) ++ [Value.slice a n d] := by rw [HFC.out]; exact fk_set ks Hks.out x.toNat Hx16.out (.mk 1 (.slice a6 (kn - (c + 1)) c6) (p.drop (c + 1)) (.slice va vn vc) v (.slice none 0 0) []) _
  have gc : y2.grownBy (y2.setCell ⟨w2.heap.size, x.toNat, none⟩ (.iface 95 (.agg #[.slice a6 (kn - (c + 1)) c6, .slice va vn vc]))) (some w2.heap.size) := grown_cell x.toNat _
  have hs := hy3.set x.toNat (.iface 95 (.agg #[.slice a6 (kn - (c + 1)) c6, .slice va vn vc]))
  have by0 : Below w.heap.size w (y2.setCell ⟨w2.heap.size, x.toNat, none⟩ (.iface 95 (.agg #[.slice a6 (kn - (c + 1)) c6, .slice va vn vc]))) := by2.grown gc by2.size (fun k hk => by cases hk; exact bw2.size)
  have hno : ∀ x ∈ FC, ∀ k, x ≠ .int .u8 k := by rw [HFC.out]; exact fk_no8 ks a n d
  have HKI : Hid (∀ k ∈ ks.set x.toNat (.mk 1 (.slice a6 (kn - (c + 1)) c6) (p.drop (c + 1)) (.slice va vn vc) v (.slice none 0 0) []), IsNv (y2.setCell ⟨w2.heap.size, x.toNat, none⟩ (.iface 95 (.agg #[.slice a6 (kn - (c + 1)) c6, .slice va vn vc]))) k) := Lib.hid (fun k hk => by
    rcases List.mem_or_eq_of_mem_set hk with hk | rfl
    · exact (((hk2 k hk).kept b3).kept hy2).off hy3 hno gc
    · exact .leaf _ _ _ _ _ _ (HR6.out.below by0) (Hvb.out.below by0))
  have HVV : Hid (Bytes (y2.setCell ⟨w2.heap.size, x.toNat, none⟩ (.iface 95 (.agg #[.slice a6 (kn - (c + 1)) c6, .slice va vn vc]))) (.slice a n d) (withQ (q.drop c) (clN t)).1) := Lib.hid (Bytes.off_v ((hv2.below b3).below hy2) hy3 hno gc)
  obtain ⟨y, hy⟩ : ∃ y, y = y2.setCell ⟨w2.heap.size, x.toNat, none⟩ (.iface 95 (.agg #[.slice a6 (kn - (c + 1)) c6, .slice va vn vc])) := ⟨_, rfl⟩
  rw [← hy] at hs by0 HKI HVV
  have HY := Lib.hid hy
  obtain ⟨FD, hFD2⟩ : ∃ FD, FD = FC.set x.toNat (.iface 95 (.agg #[.slice a6 (kn - (c + 1)) c6, .slice va vn vc])) := ⟨_, rfl⟩
  rw [← hFD2] at hs hFD
  have HFD := Lib.hid hFD
  have HK2 : Hid ((ks.set x.toNat (.mk 1 (.slice a6 (kn - (c + 1)) c6) (p.drop (c + 1)) (.slice va vn vc) v (.slice none 0 0) [])).length = 16) := Lib.hid (by rw [List.length_set]; exact Hks.out)
  have HT : Hid (behindQ (q.take c) (.mk 3 [] (withQ (q.drop c) (clN t)).1 (clNL (ks.set x.toNat (.mk 1 (.slice a6 (kn - (c + 1)) c6) (p.drop (c + 1)) (.slice va vn vc) v (.slice none 0 0) [])))) = partQ c q (clN t) p v) := Lib.hid (by rw [Hpart.out, clNL_set, Hcl2.out]; rfl)
  clear hFD hFD2 hy gc hno hxx hfx hy3 hf16 hx16 h3 hF1 hFl k1
  have hF2l : FD.length = 17 := by rw [HFD.out]; exact fk_len _ _ HK2.out
  have r1 := hs.all0
  obtain ⟨a7, c7, r7, cb⟩ := part_end na nn nc q c Hnl.out hn1 (by omega) y (Hnb.out.below by0) (ks.set x.toNat (.mk 1 (.slice a6 (kn - (c + 1)) c6) (p.drop (c + 1)) (.slice va vn vc) v (.slice none 0 0) [])) HK2.out a n d (withQ (q.drop c) (clN t)).1 HVV.out HKI.out
  rw [← HFD.out] at cb
  have Cb := Lib.hid cb
  clear cb
  rw [show y2.setCell ⟨w2.heap.size, x.toNat, none⟩ (.iface 95 (.agg #[.slice a6 (kn - (c + 1)) c6, .slice va vn vc])) = y from HY.out.symm]
  refine wp_region_typed y 6 (by kernel_rfl) (by kernel_rfl) (Below.refl _ _) ?_; simp only [List.take_succ_cons, List.take_zero, List.take_nil]
  iterate 3 (refine wpX_step (by rfl) (fun K hK => ?_); go_simp; first | (refine hK _ ?_; clear hK K) | (apply Exists.intro; refine ⟨fun _ => ?_, hK _ ?_⟩; exact r7 _ _; clear hK K))
  (refine wpX_step (by rfl) (fun K hK => ?_); rw [if_pos (by rfl)]; refine ⟨_, fun u => const_loadm _ (.tmp 11) (by rfl) _ _ (by rfl) aggFork hF2l (rangeAt.ext r1 u), hK _ ?_⟩; clear hK K; simp only [Act.put, List.setIfInBounds_toArray, List.set_cons_zero, List.set_cons_succ])
  (refine wpX_step (by rfl) (fun K hK => ?_); go_simp; first | (refine hK _ ?_; clear hK K) | (apply Exists.intro; refine ⟨fun _ => ?_, hK _ ?_⟩; fail; clear hK K))
  refine wpX_rel 42 (NvT (partQ c q (clN t) p v)) rfl (of_decide_eq_true rfl) (NvT.mono _) (fun w6 hw6 => ?_) ?_
  · simp only [relOf, List.filter_nil, forallRel]
    refine ⟨rfl, ?_⟩
    go_simp
    refine (Cb.out w6 hw6).mono ?_
    rintro e w7 ⟨t7, rfl, b7, i7, c7'⟩
    exact ⟨_, rfl, ⟨t7, rfl, i7, c7'.trans HT.out⟩, b7⟩
  refine wpX_nil ?_
  intro u5 hu5 v42 h42
  change wpList _ _ _ [_] _ _
  simp only [Act.put, List.setIfInBounds_toArray, List.set_cons_zero, List.set_cons_succ]
  obtain ⟨t7, rfl, i7, c7'⟩ := h42
  obtain ⟨V7, hV7⟩ : ∃ V, V = nv t7 := ⟨_, rfl⟩
  rw [← hV7]
  have HV7 := Lib.hid hV7
  clear hV7
  go_wp2_with fail
  go_ret
  exact ⟨t7, by rw [← HV7.out]; rfl, Below.then by0 hu5, i7, c7'⟩
set_option maxHeartbeats 4000000 in
set_option maxRecDepth 100000 in
theorem part_any (na ka va : Option Addr) (nn nc kn kc vn vc : Nat) (q p v : List UInt8) (t : Nd) (c : Nat) (hnl : q.length = nn) (hkl : p.length = kn) (hvl : v.length = vn) (hn1 : nn ≤ 1000000000) (hk1 : kn ≤ 1000000000) (hc : c = com q p) (hq : nibs q) (hp : nibs p) (ht1 : t.path.length ≤ 1000000000) (h0 : c = nn → t.kd = 1) (hcp : c < nn ∨ c < kn) (w : World) (hnb : Bytes w (.slice na nn nc) q) (hkb : Bytes w (.slice ka kn kc) p) (hvb : Bytes w (.slice va vn vc) v) (ht : IsNv w t) :
    Calls Try.prog 75 #[.int .i64 (c : Int), .slice na nn nc, nv t, .slice ka kn kc, .slice va vn vc] w (NvPost (partQ c q (clN t) p v) w) := by
  have hcl := com_le q p
  by_cases h : c < kn
  · exact part_diff na ka va nn nc kn kc vn vc q p v t c hnl hkl hvl hn1 hk1 hc hq hp ht1 h0 h w hnb hkb hvb ht
  · exact part_same na ka va nn nc kn kc vn vc q p v t c hnl hkl hvl hn1 hk1 hc hq hp ht1 h0 (by omega) w hnb hkb hvb ht
end Go.Proofs.Ytcgpjceopnfahaa
