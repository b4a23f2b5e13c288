/- tree.behind, at every node. -/
import Derived.Test.YtcgpjceopnfahaaPut4
set_option linter.unusedSimpArgs false
set_option linter.unusedVariables false
namespace Go.Proofs.Ytcgpjceopnfahaa
open Go.RowKit
set_option maxHeartbeats 2000000 in
set_option maxRecDepth 100000 in
theorem behind_none (pa : Option Addr) (pn pc : Nat) (w : World) (h0 : 0 < pn) :
    Calls Try.prog 76 #[.slice pa pn pc, .nilIface] w (NvPost nP w) := by
  have z1 := as0_1
  have z2 := as0_2
  have z3 : ∀ W, (Instr.typeAssert .nilIface 50 102 true).run Try.prog W = .ok (.tuple #[.agg (List.replicate 16 Value.nilIface ++ [Value.slice none 0 0]).toArray, .bool false]) W := fun W => by kernel_rfl
  have hpz : ((pn : Int) == 0) = false := by
    rw [beq_eq_false_iff_ne]
    omega
  go_enter Try.func76, Try.ntmps76
  go_wp2_with fail
  go_ret
  exact ⟨nilN, rfl, Below.refl _ _, IsNv.nil _, rfl⟩
set_option maxHeartbeats 2000000 in
set_option maxRecDepth 100000 in
theorem behind_empty (pa : Option Addr) (pc : Nat) (X : Value) (w : World) : Calls Try.prog 76 #[.slice pa 0 pc, X] w fun e w' => e = .returned X ∧ Below w.heap.size w w' := by
  go_enter Try.func76, Try.ntmps76
  go_wp2_with fail
  go_ret
  exact ⟨rfl, Below.refl _ _⟩
set_option maxHeartbeats 2000000 in
set_option maxRecDepth 100000 in
theorem behind_road (pa qa : Option Addr) (pn pc qn qc : Nat) (p q : List UInt8) (k : Nd) (hk3 : k.kd = 3) (hpn : p.length = pn) (hqn : q.length = qn) (hp1 : pn ≤ 1000000000) (hq1 : qn ≤ 1000000000) (h0 : p ≠ []) (w : World) (hp : Bytes w (.slice pa pn pc) p) (hq : Bytes w (.slice qa qn qc) q) (hk : IsNv w k) :
    Calls Try.prog 76 #[.slice pa pn pc, .iface 98 (.agg #[.slice qa qn qc, nv k])] w (NvPost (.mk 2 (p ++ q) [] [clN k]) w) := by
  have hK := fun (a : Option Addr) (n c : Nat) (u : World) (hb : Below w.heap.size w u) (hs : Bytes u (.slice a n c) (p ++ q)) => (IsNv.road (.slice a n c) (p ++ q) (.slice none 0 0) [] (.slice none 0 0) k hs hk3 (hk.kept hb))
  have hnv := fun (a : Option Addr) (n c : Nat) => show nv (.mk 2 (.slice a n c) (p ++ q) (.slice none 0 0) [] (.slice none 0 0) [k]) = .iface 98 (.agg #[.slice a n c, nv k]) from rfl
  obtain ⟨x, hx⟩ := nv_fork hk3
  rw [hx]
  simp only [hx] at hnv
  have z1 := as2_1
  have z2 := as2_2
  obtain ⟨w1, hw1⟩ : ∃ w1, w1 = w.alloc (.cells #[.slice qa qn qc, .iface 102 x] 98) := ⟨_, rfl⟩
  have hz : Blk 98 w1 w.heap.size [.slice qa qn qc, .iface 102 x] := by rw [hw1]; exact Blk.new w _ _
  have hbel : Below w.heap.size w w1 := by rw [hw1]; exact (Below.refl _ _).alloc (Nat.le_refl _) _
  have k0 := fun x : Ext w1 => x.cell ((hz.cell 0).trans (show _ = some (Value.slice qa qn qc) from rfl))
  have k1 := fun y : Ext w1 => y.cell ((hz.cell 1).trans (show _ = some (Value.iface 102 x) from rfl))
  have Cj := Lib.hid (fun (x : World) (hx : Below w1.heap.size w1 x) => tjoin_any pa qa pn pc qn qc p q hpn hqn hp1 hq1 x (hp.below (Below.then hbel hx)) (hq.below (Below.then hbel hx)))
  have Hw1 := Lib.hid hw1
  have HK := Lib.hid hK
  have Hnv := Lib.hid hnv
  have hpz : ((pn : Int) == 0) = false := by
    rw [beq_eq_false_iff_ne]
    have : 0 < p.length := List.length_pos_iff.2 h0
    omega
  clear hw1 hp hq hpn hqn h0 hK hnv hx hk hk3
  go_enter Try.func76, Try.ntmps76
  go_wp2_with fail
  rw [show w.alloc (.cells #[.slice qa qn qc, .iface 102 x] 98) = w1 from Hw1.out.symm]
  refine wp_region_typed w1 8 (by kernel_rfl) (by kernel_rfl) (Below.refl _ _) ?_; simp only [List.take_succ_cons, List.take_zero, List.take_nil]
  iterate 3 (refine wpX_step (by rfl) (fun K hK => ?_); go_simp; first | (refine hK _ ?_; clear hK K) | (apply Exists.intro; refine ⟨fun _ => ?_, hK _ ?_⟩; fail; clear hK K))
  refine wpX_rel 30 (SlG (p ++ q)) rfl (of_decide_eq_true rfl) (SlG.mono _) (fun w6 hw6 => ?_) ?_
  · simp only [relOf, List.filter_nil, forallRel]
    refine ⟨rfl, ?_⟩
    go_simp
    refine (Cj.out w6 hw6).mono ?_
    rintro e w7 h7
    obtain ⟨a, n, c, rfl, r7, b7⟩ := h7.sl
    exact ⟨_, rfl, ⟨a, n, c, rfl, r7⟩, b7⟩
  iterate 2 (refine wpX_step (by rfl) (fun K hK => ?_); go_simp; first | (refine hK _ ?_; clear hK K) | (apply Exists.intro; refine ⟨fun _ => ?_, hK _ ?_⟩; fail; clear hK K))
  refine wpX_rel 33 (LfT (p ++ q) (.iface 102 x)) rfl (of_decide_eq_true rfl) (LfT.mono _ _) (fun w6 hw6 => ?_) ?_
  · change forallRel w6 [(30, _)] _ _
    rintro v19 ⟨a, n, c, rfl, h19⟩
    simp only [forallRel]
    refine ⟨rfl, ?_⟩
    go_simp
    exact ⟨Below.refl _ _, a, n, c, rfl, h19⟩
  refine wpX_rel 34 (IfT 98 (p ++ q) (.iface 102 x)) rfl (of_decide_eq_true rfl) (IfT.mono _ _ _) (fun w6 hw6 => ?_) ?_
  · change forallRel w6 [(33, _)] _ _
    rintro v22 h22
    obtain ⟨a, n, c, rfl, h2⟩ := h22
    simp only [forallRel]
    refine ⟨rfl, ?_⟩
    go_simp
    exact ⟨Below.refl _ _, _, rfl, a, n, c, rfl, h2⟩
  refine wpX_nil ?_
  intro y hy v19 _ v22 _ v23 h23
  change wpList _ _ _ [_] _ _
  simp only [Act.put, List.setIfInBounds_toArray, List.set_cons_zero, List.set_cons_succ]
  obtain ⟨_, rfl, a, n, c, rfl, h2⟩ := h23
  go_wp2_with fail
  go_ret
  exact ⟨.mk 2 (.slice a n c) (p ++ q) (.slice none 0 0) [] (.slice none 0 0) [k], congrArg Ending.returned (Hnv.out a n c).symm, Below.then hbel hy, HK.out a n c _ (Below.then hbel hy) h2, rfl⟩
def zFork : List Value := List.replicate 16 Value.nilIface ++ [Value.slice none 0 0]
theorem nvL_one (ks : List Nd) : ∀ u ∈ nvL ks, u.oneCell' = true := by
  rw [nvL_map]
  intro u hu
  obtain ⟨k, _, rfl⟩ := List.mem_map.1 hu
  rcases nv_shape k with h | ⟨ty, x, h⟩
  · rw [h]; rfl
  · rw [h]; rfl
set_option maxHeartbeats 2000000 in
set_option maxRecDepth 100000 in
theorem behind_fork (pa va : Option Addr) (pn pc vn vc : Nat) (p u : List UInt8) (ks : List Nd) (hks : ks.length = 16) (hpn : p.length = pn) (hp1 : pn ≤ 1000000000) (h0 : p ≠ []) (w : World) (hp : Bytes w (.slice pa pn pc) p) (hv : Bytes w (.slice va vn vc) u) (hk : ∀ k ∈ ks, IsNv w k) :
    Calls Try.prog 76 #[.slice pa pn pc, .iface 102 (.agg (nvL ks ++ [Value.slice va vn vc]).toArray)] w (NvPost (.mk 2 p [] [.mk 3 [] u (clNL ks)]) w) := by
  have hK := fun (a : Option Addr) (n c : Nat) (x : World) (hb : Below w.heap.size w x) (hs : Bytes x (.slice a n c) p) => (IsNv.road (.slice a n c) p (.slice none 0 0) [] (.slice none 0 0) (.mk 3 (.slice none 0 0) [] (.slice va vn vc) u (.slice none 0 0) ks) hs rfl (.fork _ _ _ _ _ _ (hv.below hb) hks (fun k hk2 => (hk k hk2).kept hb)))
  have hnv := fun (a : Option Addr) (n c : Nat) => show nv (.mk 2 (.slice a n c) p (.slice none 0 0) [] (.slice none 0 0) [.mk 3 (.slice none 0 0) [] (.slice va vn vc) u (.slice none 0 0) ks]) = .iface 98 (.agg #[.slice a n c, .iface 102 (.agg (nvL ks ++ [Value.slice va vn vc]).toArray)]) from rfl
  have hFl : (nvL ks ++ [Value.slice va vn vc]).length = 17 := by rw [nvL_map]; simp [hks]
  have hF1 : ∀ x ∈ nvL ks ++ [Value.slice va vn vc], x.oneCell' = true := by
    intro x hx
    rcases List.mem_append.1 hx with hx | hx
    · exact nvL_one ks x hx
    · rw [List.mem_singleton] at hx; subst hx; rfl
  obtain ⟨FC, hFC⟩ : ∃ FC, FC = nvL ks ++ [Value.slice va vn vc] := ⟨_, rfl⟩
  simp only [← hFC] at hnv hFl hF1 ⊢
  have z1 := as3_1
  have z2 := as3_2
  have z3 := as3_3
  have C1 := Lib.hid (fun (x : World) (hx : Below w.heap.size w x) => own2_any pa pn pc p hp1 x (hp.below hx))
  have HK := Lib.hid hK
  have Hnv := Lib.hid hnv
  have HFl := Lib.hid hFl
  have HF1 := Lib.hid hF1
  have hpz : ((pn : Int) == 0) = false := by
    rw [beq_eq_false_iff_ne]
    have : 0 < p.length := List.length_pos_iff.2 h0
    omega
  clear hp hpn h0 hK hnv hk hv hFC hFl hF1
  go_enter Try.func76, Try.ntmps76
  go_wp2_with ((with_reducible show wpList _ _ _ (⟨none, Op.store _ _ (Operand.tmp 37), _, _, _, _⟩ :: _) _ _); refine wpList_storeA (o := ⟨none, _, _, _, _, _⟩) (by rfl) 102 (.tmp 7) (.tmp 37) (by rfl) w.heap.size FC (by rfl) (by rfl) aggFork (Blk.new w 102 zFork) HFl.out (by rfl) HF1.out ((Below.refl w.heap.size w).alloc (Nat.le_refl _) _) (Nat.le_refl _) ?_; intro w1 h1 hbel _; have r1 := h1.all0)
  refine wp_region_typed w1 6 (by kernel_rfl) (by kernel_rfl) (Below.refl _ _) ?_; simp only [List.take_succ_cons, List.take_zero, List.take_nil]
  (refine wpX_step (by rfl) (fun K hK => ?_); go_simp; first | (refine hK _ ?_; clear hK K) | (apply Exists.intro; refine ⟨fun _ => ?_, hK _ ?_⟩; fail; clear hK K))
  refine wpX_rel 39 (SlG p) rfl (of_decide_eq_true rfl) (SlG.mono _) (fun w6 hw6 => ?_) ?_
  · simp only [relOf, List.filter_nil, forallRel]
    refine ⟨rfl, ?_⟩
    go_simp
    refine (C1.out w6 (Below.then hbel hw6)).mono ?_
    rintro e w7 h7
    obtain ⟨a, n, c, rfl, r7, b7⟩ := h7.sl
    exact ⟨_, rfl, ⟨a, n, c, rfl, r7⟩, b7⟩
  (refine wpX_step (by rfl) (fun K hK => ?_); rw [if_pos (by rfl)]; refine ⟨_, fun u => const_loadm _ (.tmp 7) (by rfl) _ _ (by rfl) aggFork HFl.out (rangeAt.ext r1 u), hK _ ?_⟩; clear hK K; simp only [Act.put, List.setIfInBounds_toArray, List.set_cons_zero, List.set_cons_succ])
  (refine wpX_step (by rfl) (fun K hK => ?_); go_simp; first | (refine hK _ ?_; clear hK K) | (apply Exists.intro; refine ⟨fun _ => ?_, hK _ ?_⟩; fail; clear hK K))
  refine wpX_rel 42 (LfT p (.iface 102 (.agg FC.toArray))) rfl (of_decide_eq_true rfl) (LfT.mono _ _) (fun w6 hw6 => ?_) ?_
  · change forallRel w6 [(39, _)] _ _
    rintro v19 ⟨a, n, c, rfl, h19⟩
    simp only [forallRel]
    refine ⟨rfl, ?_⟩
    go_simp
    exact ⟨Below.refl _ _, a, n, c, rfl, h19⟩
  refine wpX_rel 43 (IfT 98 p (.iface 102 (.agg FC.toArray))) rfl (of_decide_eq_true rfl) (IfT.mono _ _ _) (fun w6 hw6 => ?_) ?_
  · change forallRel w6 [(42, _)] _ _
    rintro v22 h22
    obtain ⟨a, n, c, rfl, h2⟩ := h22
    simp only [forallRel]
    refine ⟨rfl, ?_⟩
    go_simp
    exact ⟨Below.refl _ _, _, rfl, a, n, c, rfl, h2⟩
  refine wpX_nil ?_
  intro y hy v19 _ v22 _ v23 h23
  change wpList _ _ _ [_] _ _
  simp only [Act.put, List.setIfInBounds_toArray, List.set_cons_zero, List.set_cons_succ]
  obtain ⟨_, rfl, a, n, c, rfl, h2⟩ := h23
  go_wp2_with fail
  go_ret
  exact ⟨.mk 2 (.slice a n c) p (.slice none 0 0) [] (.slice none 0 0) [.mk 3 (.slice none 0 0) [] (.slice va vn vc) u (.slice none 0 0) ks], congrArg Ending.returned (Hnv.out a n c).symm, Below.then hbel hy, HK.out a n c _ (Below.then hbel hy) h2, rfl⟩
def Pn.pth : Pn → List UInt8
  | .mk _ p _ _ => p
/-- a node's path, where it means something -/
def Nd.path (t : Nd) : List UInt8 := (clN t).pth
theorem behind_any (pa : Option Addr) (pn pc : Nat) (p : List UInt8) (hpn : p.length = pn) (hp1 : pn ≤ 1000000000) (t : Nd) (ht1 : t.path.length ≤ 1000000000) (w : World) (hp : Bytes w (.slice pa pn pc) p) (ht : IsNv w t) :
    Calls Try.prog 76 #[.slice pa pn pc, nv t] w (NvPost (behindQ p (clN t)) w) := by
  by_cases h0 : p = []
  · subst h0
    simp only [List.length_nil] at hpn
    subst hpn
    refine Calls.mono (behind_empty pa pc (nv t) w) ?_
    rintro e w' ⟨rfl, hb⟩
    refine ⟨t, rfl, hb, ht.kept hb, ?_⟩
    cases clN t with
    | mk kd q u ks => simp only [behindQ]; rw [if_pos trivial]
  · have hpos : 0 < pn := by rw [← hpn]; exact List.length_pos_iff.2 h0
    cases ht with
    | none pv q vv u kv ks =>
      have : behindQ p (clN (.mk 0 pv q vv u kv ks)) = nP := by unfold clN; simp [behindQ, nP, h0]
      rw [this]
      exact behind_none pa pn pc w hpos
    | leaf pv q vv u kv ks hq hv =>
      obtain ⟨qa, qc, rfl, _⟩ := hq.form
      obtain ⟨va, vc, rfl, _⟩ := hv.form
      have : behindQ p (clN (.mk 1 (.slice qa q.length qc) q (.slice va u.length vc) u kv ks)) = .mk 1 (p ++ q) u [] := by unfold clN; simp [behindQ, h0]
      rw [this]
      exact behind_leaf pa va qa pn pc _ vc _ qc p q u hpn rfl hp1 ht1 h0 w hp hq hv
    | road pv q vv u kv k hq hk3 hk =>
      obtain ⟨qa, qc, rfl, _⟩ := hq.form
      have : behindQ p (clN (.mk 2 (.slice qa q.length qc) q vv u kv [k])) = .mk 2 (p ++ q) [] [clN k] := by
        have e : clN (.mk 2 (.slice qa q.length qc) q vv u kv [k]) = .mk 2 q [] [clN k] := rfl
        rw [e]; simp [behindQ, h0]
      rw [this]
      exact behind_road pa qa pn pc _ qc p q k hk3 hpn rfl hp1 ht1 h0 w hp hq hk
    | fork pv q vv u kv ks hv hl hk =>
      obtain ⟨va, vc, rfl, _⟩ := hv.form
      have : behindQ p (clN (.mk 3 pv q (.slice va u.length vc) u kv ks)) = .mk 2 p [] [.mk 3 [] u (clNL ks)] := by unfold clN; simp [behindQ, h0]
      have hn : nv (.mk 3 pv q (.slice va u.length vc) u kv ks) = .iface 102 (.agg (nvL ks ++ [Value.slice va u.length vc]).toArray) := rfl
      rw [this, hn]
      exact behind_fork pa va pn pc _ vc p u ks hl hpn hp1 h0 w hp hv hk
end Go.Proofs.Ytcgpjceopnfahaa
