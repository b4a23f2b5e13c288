/- Inner nodes in a world; tree.own, tree.join, tree.behind. -/
import Derived.Test.YtcgpjceopnfahaaPut3
import Derived.Test.YtcgpjceopnfahaaGet4
set_option linter.unusedSimpArgs false
set_option linter.unusedVariables false
namespace Go.Proofs.Ytcgpjceopnfahaa
open Go.RowKit
/-- an inner node in a world -/
inductive IsNv (w : World) : Nd → Prop where
  | none (pv : Value) (p : List UInt8) (vv : Value) (v : List UInt8) (kv : Value) (ks : List Nd) : IsNv w (.mk 0 pv p vv v kv ks)
  | leaf (pv : Value) (p : List UInt8) (vv : Value) (v : List UInt8) (kv : Value) (ks : List Nd) (hp : Bytes w pv p) (hv : Bytes w vv v) : IsNv w (.mk 1 pv p vv v kv ks)
  | road (pv : Value) (p : List UInt8) (vv : Value) (v : List UInt8) (kv : Value) (k : Nd) (hp : Bytes w pv p) (hk : k.kd = 3) (h : IsNv w k) : IsNv w (.mk 2 pv p vv v kv [k])
  | fork (pv : Value) (p : List UInt8) (vv : Value) (v : List UInt8) (kv : Value) (ks : List Nd) (hv : Bytes w vv v) (hl : ks.length = 16) (h : ∀ k ∈ ks, IsNv w k) : IsNv w (.mk 3 pv p vv v kv ks)
theorem IsNv.kept {w w' : World} {t : Nd} (h : IsNv w t) (hb : Below w.heap.size w w') : IsNv w' t := by
  induction h with
  | none pv p vv v kv ks => exact .none pv p vv v kv ks
  | leaf pv p vv v kv ks hp hv => exact .leaf pv p vv v kv ks (hp.below hb) (hv.below hb)
  | road pv p vv v kv k hp hk _ ih => exact .road pv p vv v kv k (hp.below hb) hk ih
  | fork pv p vv v kv ks hv hl _ ih => exact .fork pv p vv v kv ks (hv.below hb) hl ih
def nilN : Nd := .mk 0 (.slice none 0 0) [] (.slice none 0 0) [] (.slice none 0 0) []
theorem IsNv.nil (w : World) : IsNv w nilN := .none _ _ _ _ _ _
/-- what hands a node back -/
def NvPost (T : Pn) (w : World) (e : Ending) (w' : World) : Prop := ∃ t, e = .returned (nv t) ∧ Below w.heap.size w w' ∧ IsNv w' t ∧ clN t = T
/-- a node, as a value in a region -/
def NvT (T : Pn) : Ty := fun v w => ∃ t, v = nv t ∧ IsNv w t ∧ clN t = T
theorem NvT.mono (T : Pn) : Mono (NvT T) := fun _ _ _ ⟨t, h, h2, h3⟩ hb => ⟨t, h, h2.kept hb, h3⟩
/-- what own and join hand back: a row of their own -/
def OwnGt (l : List UInt8) (w : World) (e : Ending) (w' : World) : Prop := ∃ v, e = .returned v ∧ OwnOf b8 1 5 w' w.heap.size v l ∧ Below w.heap.size w w'
set_option maxRecDepth 100000 in
theorem own2_any (a : Option Addr) (n c : Nat) (l : List UInt8) (hl : n ≤ 1000000000) (w : World) (h : Bytes w (.slice a n c) l) : Calls Try.prog 32 #[.slice a n c] w (OwnGt l w) := by
  have hnl := h.fits.1
  have hm0 : OwnOf b8 1 5 (w.alloc (.cells #[] 5)) w.heap.size (.slice (some ⟨w.heap.size, 0, none⟩) 0 0) [] := OwnOf.made b8 1 5 w w.heap.size [] #[] 0 rfl rfl rfl (Nat.le_refl _) (by unfold maxLen; omega)
  have bA : Below w.heap.size w (w.alloc (.cells #[] 5)) := (Below.refl _ _).alloc (Nat.le_refl _) _
  have h' := h.alloc (.cells #[] 5)
  have hlo := OwnOf.lt hm0
  go_enter Try.func32, Try.ntmps32
  go_wp2_with (refine wpList_appA (o := ⟨some 5, _, _, _, _, _⟩) (by rfl) (.tmp 3) (.tmp 4) 22 (by rfl) elU8 (by rfl) hm0 (by rfl) h' bA.size (by simp <;> omega) (by unfold maxLen; simp <;> omega) ?_; intro v5 w5 o5 g5 _; have b5 := bA.grown g5 bA.size hlo)
  go_ret
  exact ⟨_, rfl, o5, b5⟩
set_option maxHeartbeats 1000000 in
set_option maxRecDepth 100000 in
theorem tjoin_any (a b : Option Addr) (n c m d : Nat) (l k : List UInt8) (hl : l.length = n) (hk : k.length = m) (hn : n ≤ 1000000000) (hm : m ≤ 1000000000) (w : World) (h : Bytes w (.slice a n c) l) (h2 : Bytes w (.slice b m d) k) : Calls Try.prog 57 #[.slice a n c, .slice b m d] w (OwnGt (l ++ k) w) := by
  have C := Lib.hid (own2_any a n c l hn w h)
  have H2 := Lib.hid h2
  have Hl := Lib.hid hl
  have Hk := Lib.hid hk
  clear h h2 hl hk
  go_enter Try.func57, Try.ntmps57
  go_wp2_with (first
    | (go_at_call 32; (with_reducible refine C.out.mono ?_); rintro e w2 ⟨v2, rfl, o2, b2⟩; obtain ⟨a2, c2, rfl, _⟩ := o2.form' n Hl.out; have hlo := OwnOf.lt o2)
    | ((with_reducible show wpList _ _ _ (⟨some 8, _, _, _, _, _⟩ :: _) _ _); refine wpList_appA (o := ⟨some 8, _, _, _, _, _⟩) (by rfl) (.tmp 6) (.tmp 7) 22 (by rfl) elU8 (by rfl) o2 (by rfl) (H2.out.below b2) b2.size (by rw [Hl.out, Hk.out]; omega) (by rw [Hl.out, Hk.out]; unfold maxLen; omega) ?_; intro v3 w3 o3 g3 _; have b3 := b2.grown g3 b2.size hlo))
  go_ret
  exact ⟨_, rfl, o3, b3⟩
/-- a row of bytes as a value in a region -/
def LfT (l : List UInt8) (x : Value) : Ty := fun v w => ∃ (a : Option Addr) (n c : Nat), v = .agg #[.slice a n c, x] ∧ Bytes w (.slice a n c) l
theorem LfT.mono (l : List UInt8) (x : Value) : Mono (LfT l x) := fun _ _ _ ⟨a, n, c, h, h2⟩ hb => ⟨a, n, c, h, h2.below hb⟩
def IfT (ty : TypeId) (l : List UInt8) (x : Value) : Ty := fun v w => ∃ y, v = .iface ty y ∧ LfT l x y w
theorem IfT.mono (ty : TypeId) (l : List UInt8) (x : Value) : Mono (IfT ty l x) := fun _ _ _ ⟨y, h, h2⟩ hb => ⟨y, h, LfT.mono _ _ _ _ _ h2 hb⟩
theorem OwnGt.sl {l : List UInt8} {w w' : World} {e : Ending} (h : OwnGt l w e w') : ∃ a n c, e = .returned (.slice a n c) ∧ Bytes w' (.slice a n c) l ∧ Below w.heap.size w w' := by
  obtain ⟨v, rfl, o, b⟩ := h
  obtain ⟨a, c, rfl, _⟩ := o.form
  exact ⟨a, _, c, rfl, o.row, b⟩
set_option maxHeartbeats 2000000 in
set_option maxRecDepth 100000 in
theorem behind_leaf (pa va qa : Option Addr) (pn pc vn vc qn qc : Nat) (p q u : List UInt8) (hpn : p.length = pn) (hqn : q.length = qn) (hp1 : pn ≤ 1000000000) (hq1 : qn ≤ 1000000000) (h0 : p ≠ []) (w : World) (hp : Bytes w (.slice pa pn pc) p) (hq : Bytes w (.slice qa qn qc) q) (hv : Bytes w (.slice va vn vc) u) :
    Calls Try.prog 76 #[.slice pa pn pc, .iface 95 (.agg #[.slice qa qn qc, .slice va vn vc])] w (NvPost (.mk 1 (p ++ q) u []) w) := by
  have z1 := as1_1
  obtain ⟨w1, hw1⟩ : ∃ w1, w1 = w.alloc (.cells #[.slice qa qn qc, .slice va vn vc] 95) := ⟨_, rfl⟩
  have hz : Blk 95 w1 w.heap.size [.slice qa qn qc, .slice va vn vc] := by rw [hw1]; exact Blk.new w _ _
  have hbel : Below w.heap.size w w1 := by rw [hw1]; exact (Below.refl _ _).alloc (Nat.le_refl _) _
  have k0 := fun x : Ext w1 => x.cell ((hz.cell 0).trans (show _ = some (Value.slice qa qn qc) from rfl))
  have k1 := fun x : Ext w1 => x.cell ((hz.cell 1).trans (show _ = some (Value.slice va vn vc) from rfl))
  have Cj := Lib.hid (fun (x : World) (hx : Below w1.heap.size w1 x) => tjoin_any pa qa pn pc qn qc p q hpn hqn hp1 hq1 x (hp.below (Below.then hbel hx)) (hq.below (Below.then hbel hx)))
  have Hw1 := Lib.hid hw1
  have Hv := Lib.hid hv
  have hpz : ((pn : Int) == 0) = false := by
    rw [beq_eq_false_iff_ne]
    have : 0 < p.length := List.length_pos_iff.2 h0
    omega
  clear hw1 hp hq hv hpn hqn h0
  go_enter Try.func76, Try.ntmps76
  go_wp2_with fail
  rw [show w.alloc (.cells #[.slice qa qn qc, .slice va vn vc] 95) = w1 from Hw1.out.symm]
  refine wp_region_typed w1 8 (by kernel_rfl) (by kernel_rfl) (Below.refl _ _) ?_; simp only [List.take_succ_cons, List.take_zero, List.take_nil]
  iterate 3 (refine wpX_step (by rfl) (fun K hK => ?_); go_simp; first | (refine hK _ ?_; clear hK K) | (apply Exists.intro; refine ⟨fun _ => ?_, hK _ ?_⟩; fail; clear hK K))
  refine wpX_rel 19 (SlG (p ++ q)) rfl (of_decide_eq_true rfl) (SlG.mono _) (fun w6 hw6 => ?_) ?_
  · simp only [relOf, List.filter_nil, forallRel]
    refine ⟨rfl, ?_⟩
    go_simp
    refine (Cj.out w6 hw6).mono ?_
    rintro e w7 h7
    obtain ⟨a, n, c, rfl, r7, b7⟩ := h7.sl
    exact ⟨_, rfl, ⟨a, n, c, rfl, r7⟩, b7⟩
  iterate 2 (refine wpX_step (by rfl) (fun K hK => ?_); go_simp; first | (refine hK _ ?_; clear hK K) | (apply Exists.intro; refine ⟨fun _ => ?_, hK _ ?_⟩; fail; clear hK K))
  refine wpX_rel 22 (LfT (p ++ q) (.slice va vn vc)) rfl (of_decide_eq_true rfl) (LfT.mono _ _) (fun w6 hw6 => ?_) ?_
  · change forallRel w6 [(19, _)] _ _
    rintro v19 ⟨a, n, c, rfl, h19⟩
    simp only [forallRel]
    refine ⟨rfl, ?_⟩
    go_simp
    exact ⟨Below.refl _ _, a, n, c, rfl, h19⟩
  refine wpX_rel 23 (IfT 95 (p ++ q) (.slice va vn vc)) rfl (of_decide_eq_true rfl) (IfT.mono _ _ _) (fun w6 hw6 => ?_) ?_
  · change forallRel w6 [(22, _)] _ _
    rintro v22 h22
    obtain ⟨a, n, c, rfl, h2⟩ := h22
    simp only [forallRel]
    refine ⟨rfl, ?_⟩
    go_simp
    exact ⟨Below.refl _ _, _, rfl, a, n, c, rfl, h2⟩
  refine wpX_nil ?_
  intro y hy v19 _ v22 _ v23 h23
  change wpList _ _ _ [_] _ _
  simp only [Act.put, List.setIfInBounds_toArray, List.set_cons_zero, List.set_cons_succ]
  obtain ⟨_, rfl, a, n, c, rfl, h2⟩ := h23
  go_wp2_with fail
  go_ret
  exact ⟨.mk 1 (.slice a n c) (p ++ q) (.slice va vn vc) u (.slice none 0 0) [], rfl, Below.then hbel hy, .leaf _ _ _ _ _ _ h2 (Hv.out.below (Below.then hbel hy)), rfl⟩
end Go.Proofs.Ytcgpjceopnfahaa
