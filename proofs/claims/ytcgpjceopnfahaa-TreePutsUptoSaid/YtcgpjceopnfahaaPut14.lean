/- tree's show: leaves and roads. -/
import Derived.Test.YtcgpjceopnfahaaPut13
import Derived.Test.YtcgpjceopnfahaaGrwA
set_option linter.unusedSimpArgs false
set_option linter.unusedVariables false
namespace Go.Proofs.Ytcgpjceopnfahaa
open Go.RowKit
theorem own_txo (a : Option Addr) (n c : Nat) (l : List UInt8) (hl : n ≤ 1000000000) (B : Nat) (w : World) (hB : B ≤ w.heap.size) (h : Bytes w (.slice a n c) l) : Calls Try.prog 32 #[.slice a n c] w fun e w' => ∃ v, e = .returned v ∧ TxO B l v w' ∧ Below w.heap.size w w' :=
  (own2_any a n c l hl w h).mono (by
    rintro e w' ⟨v, rfl, o, b⟩
    exact ⟨v, rfl, ⟨o.row, fun k hk => by have := o.lt k hk; omega⟩, b⟩)
theorem meth_fork (X : Value) (n : Nat) (h : 0 < n) (w : World) : (method n 102 X "lampbearer/tree.plain").run Try.prog w = .ok (141, X) w := by
  cases n with
  | zero => omega
  | succ n => kernel_rfl
theorem meth_leaf (X : Value) (n : Nat) (h : 0 < n) (w : World) : (method n 95 X "lampbearer/tree.plain").run Try.prog w = .ok (139, X) w := by
  cases n with
  | zero => omega
  | succ n => kernel_rfl
theorem meth_road (X : Value) (n : Nat) (h : 0 < n) (w : World) : (method n 98 X "lampbearer/tree.plain").run Try.prog w = .ok (140, X) w := by
  cases n with
  | zero => omega
  | succ n => kernel_rfl
theorem call_fork (X : Value) (w : World) : (callFunc 141 #[X]).run Try.prog w = .ok (.enter 141 #[X]) w := by kernel_rfl
theorem call_leaf (X : Value) (w : World) : (callFunc 139 #[X]).run Try.prog w = .ok (.enter 139 #[X]) w := by kernel_rfl
theorem call_road (X : Value) (w : World) : (callFunc 140 #[X]).run Try.prog w = .ok (.enter 140 #[X]) w := by kernel_rfl
/-- the contract of plain, at a road's kid -/
def PlC (k : Nd) : Prop := ∀ (X : Value) (w : World), nv k = .iface 102 X → IsNv w k → Calls Try.prog 141 #[X] w (GrwPost (clN k) w)
set_option maxHeartbeats 2000000 in
set_option maxRecDepth 100000 in
theorem plain_leaf (pa va : Option Addr) (pn pc vn vc : Nat) (p v : List UInt8) (hpn : pn ≤ 1000000000) (hvn : vn ≤ 1000000000) (w : World) (hp : Bytes w (.slice pa pn pc) p) (hv : Bytes w (.slice va vn vc) v) :
    Calls Try.prog 139 #[.agg #[.slice pa pn pc, .slice va vn vc]] w (GrwPost (.mk 1 p v []) w) := by
  obtain ⟨w1, hw1⟩ : ∃ w1, w1 = (w.alloc (.cells #[.slice pa pn pc, .slice va vn vc] 95)).alloc (.cells (ndcells zN).toArray 25) := ⟨_, rfl⟩
  have hz0 : Blk 95 w1 w.heap.size [.slice pa pn pc, .slice va vn vc] := by rw [hw1]; exact (Blk.new w _ _).alloc _
  have hz : Blk 25 w1 (w.heap.size + 1) (ndcells zN) := by
    have := Blk.new (w.alloc (.cells #[.slice pa pn pc, .slice va vn vc] 95)) 25 (ndcells zN)
    simp only [World.size_alloc] at this
    rw [hw1]; exact this
  have hbel : Below w.heap.size w w1 := by rw [hw1]; exact ((Below.refl _ _).alloc (Nat.le_refl _) _).alloc (by simp) _
  have hsz : w1.heap.size = w.heap.size + 2 := by rw [hw1]; simp
  have k0 := fun u : Ext w1 => u.cell (hz0.cell 0)
  have k1 := fun u : Ext w1 => u.cell (hz0.cell 1)
  have O1 := Lib.hid (fun (u : World) (hu : Below w.heap.size w u) (h2 : w.heap.size + 2 ≤ u.heap.size) => own_txo pa pn pc p hpn (w.heap.size + 2) u h2 (hp.below hu))
  have O2 := Lib.hid (fun (u : World) (hu : Below w.heap.size w u) (h2 : w.heap.size + 2 ≤ u.heap.size) => own_txo va vn vc v hvn (w.heap.size + 2) u h2 (hv.below hu))
  have Hw1 := Lib.hid hw1
  have Hz := Lib.hid hz
  clear hw1 hz hz0 hp hv
  go_enter Try.func139, Try.ntmps139
  go_wp2_with fail
  rw [show (w.alloc (.cells #[.slice pa pn pc, .slice va vn vc] 95)).alloc (.cells #[.int .i64 0, .slice none 0 0, .slice none 0 0, .slice none 0 0] 25) = w1 from by rw [Hw1.out]; rfl]
  refine wp_region_typed w1 7 (by kernel_rfl) (by kernel_rfl) (Below.refl _ _) ?_; simp only [List.take_succ_cons, List.take_zero, List.take_nil]
  iterate 2 (refine wpX_step (by rfl) (fun K hK => ?_); go_simp; first | (refine hK _ ?_; clear hK K) | (apply Exists.intro; refine ⟨fun _ => ?_, hK _ ?_⟩; fail; clear hK K))
  refine wpX_rel 5 (TxO (w.heap.size + 2) p) rfl (of_decide_eq_true rfl) (TxO.mono _ _) (fun w6 hw6 => ?_) ?_
  · simp only [relOf, List.filter_nil, forallRel]
    refine ⟨rfl, ?_⟩
    go_simp
    exact (O1.out _ (Below.then hbel hw6) (by have := hw6.size; omega)).mono (by rintro e w7 ⟨v, rfl, h, b⟩; exact ⟨_, rfl, h, b⟩)
  iterate 2 (refine wpX_step (by rfl) (fun K hK => ?_); go_simp; first | (refine hK _ ?_; clear hK K) | (apply Exists.intro; refine ⟨fun _ => ?_, hK _ ?_⟩; fail; clear hK K))
  refine wpX_rel 8 (TxO (w.heap.size + 2) v) rfl (of_decide_eq_true rfl) (TxO.mono _ _) (fun w6 hw6 => ?_) ?_
  · change forallRel w6 [] _ _
    simp only [forallRel]
    refine ⟨rfl, ?_⟩
    go_simp
    exact (O2.out _ (Below.then hbel hw6) (by have := hw6.size; omega)).mono (by rintro e w7 ⟨v, rfl, h, b⟩; exact ⟨_, rfl, h, b⟩)
  refine wpX_rel 9 (NdT (w.heap.size + 2) (.mk 1 p v [])) rfl (of_decide_eq_true rfl) (NdT.mono _ _) (fun w6 hw6 => ?_) ?_
  · change forallRel w6 [(8, _), (5, _)] _ _
    rintro v8 ⟨h8, o8⟩ v5 ⟨h5, o5⟩
    obtain ⟨a8, c8, rfl, _, _⟩ := h8.form
    obtain ⟨a5, c5, rfl, _, _⟩ := h5.form
    simp only [forallRel]
    refine ⟨rfl, ?_⟩
    go_simp
    exact ⟨Below.refl _ _, .mk 1 _ p _ v (.slice none 0 0) [], rfl, .mk 1 _ p _ v (.slice none 0 0) [] h5 o5 h8 o8 (RowOf.nil ndcells 4 _) (by intro k e; cases e) (by simp), rfl⟩
  refine wpX_nil ?_
  intro u2 hb2 v5 _ v8 _ v9 h9
  change wpList _ _ _ [_] _ _
  simp only [Act.put, List.setIfInBounds_toArray, List.set_cons_zero, List.set_cons_succ]
  obtain ⟨t, rfl, ot, et⟩ := h9
  have bb2 := Below.then hbel hb2
  have hz2 := Hz.out.kept hb2
  have hone := ot.is.one
  have hlen := ndcells_len t
  clear k0 k1
  go_wp2_with ((with_reducible show wpList _ _ _ (⟨none, Op.store _ _ (Operand.tmp 9), _, _, _, _⟩ :: _) _ _); refine wpList_storeA (o := ⟨none, _, _, _, _, _⟩) (by rfl) 25 (.tmp 2) (.tmp 9) (by rfl) (w.heap.size + 1) (ndcells t) (by rfl) (by rfl) aggNode hz2 hlen (by rfl) hone bb2 (by omega) ?_; intro w3 h3 b3 g3)
  exact bodyPost_ret (results_blk rfl _ _ (w.heap.size + 1) aggNode h3 hlen rfl) rfl ⟨t, rfl, (ot.off g3 (by omega)).lower (by omega), et, b3⟩
set_option maxHeartbeats 2000000 in
set_option maxRecDepth 100000 in
theorem plain_road (pa : Option Addr) (pn pc : Nat) (p : List UInt8) (hpn : pn ≤ 1000000000) (k : Nd) (hk3 : k.kd = 3) (ih : PlC k) (w : World) (hp : Bytes w (.slice pa pn pc) p) (hk : IsNv w k) :
    Calls Try.prog 140 #[.agg #[.slice pa pn pc, nv k]] w (GrwPost (.mk 2 p [] [clN k]) w) := by
  obtain ⟨X, hX⟩ := nv_fork hk3
  have cg := fun (u : World) (hu : Below w.heap.size w u) => ih X u hX (hk.kept hu)
  rw [hX]
  obtain ⟨SG, hSG⟩ : ∃ SG, SG = clN k := ⟨_, rfl⟩
  rw [← hSG] at cg ⊢
  obtain ⟨w1, hw1⟩ : ∃ w1, w1 = (w.alloc (.cells #[.slice pa pn pc, .iface 102 X] 98)).alloc (.cells (ndcells zN).toArray 25) := ⟨_, rfl⟩
  have hz0 : Blk 98 w1 w.heap.size [.slice pa pn pc, .iface 102 X] := by rw [hw1]; exact (Blk.new w _ _).alloc _
  have hz : Blk 25 w1 (w.heap.size + 1) (ndcells zN) := by
    have := Blk.new (w.alloc (.cells #[.slice pa pn pc, .iface 102 X] 98)) 25 (ndcells zN)
    simp only [World.size_alloc] at this
    rw [hw1]; exact this
  have hbel : Below w.heap.size w w1 := by rw [hw1]; exact ((Below.refl _ _).alloc (Nat.le_refl _) _).alloc (by simp) _
  have hsz : w1.heap.size = w.heap.size + 2 := by rw [hw1]; simp
  have k0 := fun u : Ext w1 => u.cell (hz0.cell 0)
  have k1 := fun u : Ext w1 => u.cell (hz0.cell 1)
  have O1 := Lib.hid (fun (u : World) (hu : Below w.heap.size w u) (h2 : w.heap.size + 2 ≤ u.heap.size) => own_txo pa pn pc p hpn (w.heap.size + 2) u h2 (hp.below hu))
  have Cg := Lib.hid cg
  have Hw1 := Lib.hid hw1
  have Hz := Lib.hid hz
  clear hw1 hz hz0 hp hk cg ih hX hSG hk3
  go_enter Try.func140, Try.ntmps140
  go_wp2_with fail
  rw [show (w.alloc (.cells #[.slice pa pn pc, .iface 102 X] 98)).alloc (.cells #[.int .i64 0, .slice none 0 0, .slice none 0 0, .slice none 0 0] 25) = w1 from by rw [Hw1.out]; rfl]
  refine wp_region_typed w1 8 (by kernel_rfl) (by kernel_rfl) (Below.refl _ _) ?_; simp only [List.take_succ_cons, List.take_zero, List.take_nil]
  iterate 2 (refine wpX_step (by rfl) (fun K hK => ?_); go_simp; first | (refine hK _ ?_; clear hK K) | (apply Exists.intro; refine ⟨fun _ => ?_, hK _ ?_⟩; fail; clear hK K))
  refine wpX_rel 5 (TxO (w.heap.size + 2) p) rfl (of_decide_eq_true rfl) (TxO.mono _ _) (fun w6 hw6 => ?_) ?_
  · simp only [relOf, List.filter_nil, forallRel]
    refine ⟨rfl, ?_⟩
    go_simp
    exact (O1.out _ (Below.then hbel hw6) (by have := hw6.size; omega)).mono (by rintro e w7 ⟨v, rfl, h, b⟩; exact ⟨_, rfl, h, b⟩)
  iterate 2 (refine wpX_step (by rfl) (fun K hK => ?_); go_simp; first | (refine hK _ ?_; clear hK K) | (apply Exists.intro; refine ⟨fun _ => ?_, hK _ ?_⟩; fail; clear hK K))
  refine wpX_rel 8 (NdT (w.heap.size + 2) SG) rfl (of_decide_eq_true rfl) (NdT.mono _ _) (fun w6 hw6 => ?_) ?_
  · change forallRel w6 [] _ _
    simp only [forallRel]
    refine ⟨rfl, ?_⟩
    go_simp
    rw [meth_fork X _ (by decide) w6, Result.andThen_ok]
    show match (callFunc 141 #[X]).run Try.prog w6 with
      | Result.ok (Next.value u) w' => Below w6.heap.size w6 w' ∧ NdT (w.heap.size + 2) SG u w'
      | Result.ok Next.skip w' => Below w6.heap.size w6 w' ∧ NdT (w.heap.size + 2) SG undef w'
      | Result.ok (Next.enter f args) w' => w' = w6 ∧ Calls Try.prog f args w6 fun e w'' => ∃ v, e = Ending.returned v ∧ NdT (w.heap.size + 2) SG v w'' ∧ Below w6.heap.size w6 w''
      | x => False
    rw [call_fork]
    refine ⟨rfl, ?_⟩
    refine (Cg.out w6 (Below.then hbel hw6)).mono ?_
    rintro e w7 ⟨t, rfl, ot, et, b7⟩
    exact ⟨_, rfl, ⟨t, rfl, ot.lower (by have := hw6.size; omega), et⟩, b7⟩
  refine wpX_rel 9 (NdT1 (w.heap.size + 2) SG) rfl (of_decide_eq_true rfl) (NdT1.mono _ _) (fun w6 hw6 => ?_) ?_
  · change forallRel w6 [(8, _)] _ _
    rintro v53 ⟨t, rfl, ot, et⟩
    obtain ⟨kd, pv, p, vv, v, kv, ks⟩ := t
    have hbu := Row.built ndcells_len w6 25 [.mk kd pv p vv v kv ks] 1 rfl (by unfold maxLen; omega)
    have hbA : Below w6.heap.size w6 (w6.alloc (.cells ([Nd.mk kd pv p vv v kv ks].flatMap ndcells).toArray 25)) := (Below.refl _ _).alloc (Nat.le_refl _) _
    have ot2 := ot.kept hbA
    simp only [ndcells, forallRel]
    refine ⟨rfl, ?_⟩
    go_simp
    exact ⟨hbA, w6.heap.size, .mk kd pv p vv v kv ks, rfl, by have := hw6.size; omega, hbu, ot2, et⟩
  refine wpX_rel 10 (NdT (w.heap.size + 2) (.mk 2 p [] [SG])) rfl (of_decide_eq_true rfl) (NdT.mono _ _) (fun w6 hw6 => ?_) ?_
  · change forallRel w6 [(9, _), (5, _)] _ _
    rintro v54 ⟨g, t, rfl, hg, hr, ot, et⟩ v49 ⟨h49, o49⟩
    obtain ⟨a49, c49, rfl, _, _⟩ := h49.form
    simp only [forallRel]
    refine ⟨rfl, ?_⟩
    go_simp
    refine ⟨Below.refl _ _, .mk 2 _ p (.slice none 0 0) [] _ [t], rfl, .mk 2 _ p (.slice none 0 0) [] _ [t] h49 o49 (RowOf.nil b8 1 _) (by intro k e; cases e) hr (fun k e => by cases e; exact hg) (fun k hk => by rw [List.mem_singleton] at hk; rw [hk]; exact ot), ?_⟩
    simp only [erN, erNL, et]
  refine wpX_nil ?_
  intro u2 hb2 v5 _ v8 _ v9 _ v10 h10
  change wpList _ _ _ [_] _ _
  simp only [Act.put, List.setIfInBounds_toArray, List.set_cons_zero, List.set_cons_succ]
  obtain ⟨t, rfl, ot, et⟩ := h10
  have bb2 := Below.then hbel hb2
  have hz2 := Hz.out.kept hb2
  have hone := ot.is.one
  have hlen := ndcells_len t
  clear k0 k1
  go_wp2_with ((with_reducible show wpList _ _ _ (⟨none, Op.store _ _ (Operand.tmp 10), _, _, _, _⟩ :: _) _ _); refine wpList_storeA (o := ⟨none, _, _, _, _, _⟩) (by rfl) 25 (.tmp 2) (.tmp 10) (by rfl) (w.heap.size + 1) (ndcells t) (by rfl) (by rfl) aggNode hz2 hlen (by rfl) hone bb2 (by omega) ?_; intro w3 h3 b3 g3)
  exact bodyPost_ret (results_blk rfl _ _ (w.heap.size + 1) aggNode h3 hlen rfl) rfl ⟨t, rfl, (ot.off g3 (by omega)).lower (by omega), et, b3⟩
end Go.Proofs.Ytcgpjceopnfahaa
