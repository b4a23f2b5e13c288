/- Nodes of a call's own; sixteen of them in a row; contracts' parts for grown. | The reference's grown: nothing, one route, a road. | The reference's grown: a road. | The reference's grown, a fork: its frame. | The reference's grown: a fork. | The reference's grown of any list. -/
import Derived.Test.YtljbbpcnoajfeaaRtsA
import Derived.Test.YtljbbpcnoajfeaaTreeP
import Derived.Test.YtljbbpcnoajfeaaSumA
/- (Grw1) Nodes of a call's own; sixteen of them in a row; contracts' parts for grown. -/
set_option linter.unusedSimpArgs false
set_option linter.unusedVariables false
namespace Go.Proofs.Ytljbbpcnoajfeaa
open Go.RowKit
/-- bytes that lie in memory made behind 'B' -/
def TxO (B : Nat) (t : List UInt8) : Ty := fun v w => Bytes w v t ∧ ∀ k, v.ownBlock = some k → B ≤ k
theorem TxO.mono (B : Nat) (t : List UInt8) : Mono (TxO B t) := fun _ _ _ ⟨h1, h2⟩ hb => ⟨RowOf.kept h1 hb, h2⟩
theorem RowOf.offV {α : Type} {f : α → List Value} {size : Nat} {w w' : World} {v : Value} {g : Nat} {l : List α} (h : RowOf f size w v l) (hg : w.grownBy w' (some g)) (hne : ∀ x, v.ownBlock = some x → x ≠ g) : RowOf f size w' v l := by
  obtain ⟨a, c, rfl, _⟩ := h.form
  cases a with
  | none =>
    obtain ⟨h0, a, c', hv, h1, h2, h3⟩ := h
    simp only [Value.slice.injEq] at hv
    obtain ⟨rfl, _, rfl⟩ := hv
    refine ⟨h0, none, _, rfl, h1, h2, .inl ?_⟩
    rcases h3 with h3 | ⟨_, _, _, he, _⟩
    · exact h3
    · simp at he
  | some p =>
    obtain ⟨b, off, s⟩ := p
    exact h.grownNe hg (hne b rfl)
inductive OwnNd (w : World) (B : Nat) : Nd → Prop where
  | mk (kd : Int) (pv : Value) (p : List UInt8) (vv : Value) (v : List UInt8) (kv : Value) (ks : List Nd) (hp : Bytes w pv p) (op : ∀ k, pv.ownBlock = some k → B ≤ k) (hv : Bytes w vv v) (ov : ∀ k, vv.ownBlock = some k → B ≤ k)
      (hk : RowOf ndcells 4 w kv ks) (ok : ∀ k, kv.ownBlock = some k → B ≤ k) (h : ∀ k ∈ ks, OwnNd w B k) : OwnNd w B (.mk kd pv p vv v kv ks)
theorem OwnNd.is {w : World} {B : Nat} {x : Nd} (h : OwnNd w B x) : IsNd w x := by
  induction h with
  | mk kd pv p vv v kv ks hp _ hv _ hk _ _ ih => exact .mk kd pv p vv v kv ks hp hv hk ih
theorem OwnNd.kept {w w' : World} {B : Nat} {x : Nd} (h : OwnNd w B x) (hb : Below w.heap.size w w') : OwnNd w' B x := by
  induction h with
  | mk kd pv p vv v kv ks hp op hv ov hk ok _ ih => exact .mk kd pv p vv v kv ks (hp.below hb) op (hv.below hb) ov (hk.below hb) ok ih
theorem OwnNd.lower {w : World} {B B' : Nat} {x : Nd} (h : OwnNd w B x) (hb : B' ≤ B) : OwnNd w B' x := by
  induction h with
  | mk kd pv p vv v kv ks hp op hv ov hk ok _ ih => exact .mk kd pv p vv v kv ks hp (fun k e => Nat.le_trans hb (op k e)) hv (fun k e => Nat.le_trans hb (ov k e)) hk (fun k e => Nat.le_trans hb (ok k e)) ih
theorem OwnNd.off {w w' : World} {B g : Nat} {x : Nd} (h : OwnNd w B x) (hg : w.grownBy w' (some g)) (hlt : g < B) : OwnNd w' B x := by
  induction h with
  | mk kd pv p vv v kv ks hp op hv ov hk ok _ ih => exact .mk kd pv p vv v kv ks (hp.offV hg (fun k e => by have := op k e; omega)) op (hv.offV hg (fun k e => by have := ov k e; omega)) ov (hk.offV hg (fun k e => by have := ok k e; omega)) ok ih
def zN : Nd := .mk 0 (.slice none 0 0) [] (.slice none 0 0) [] (.slice none 0 0) []
theorem OwnNd.zero (w : World) (B : Nat) : OwnNd w B zN := .mk 0 _ [] _ [] _ [] (RowOf.nil b8 1 w) (by intro k e; cases e) (RowOf.nil b8 1 w) (by intro k e; cases e) (RowOf.nil ndcells 4 w) (by intro k e; cases e) (by simp)
mutual
def erN : Nd → Pn
  | .mk kd _ p _ v _ ks => .mk kd p v (erNL ks)
def erNL : List Nd → List Pn
  | [] => []
  | k :: ks => erN k :: erNL ks
end
theorem erNL_map (ks : List Nd) : erNL ks = ks.map erN := by
  induction ks with
  | nil => rfl
  | cons k ks ih => simp [erNL, ih]
/-- a node as a value -/
def NdT (B : Nat) (x : Pn) : Ty := fun v w => ∃ t : Nd, v = .agg (ndcells t).toArray ∧ OwnNd w B t ∧ erN t = x
theorem NdT.mono (B : Nat) (x : Pn) : Mono (NdT B x) := fun _ _ _ ⟨t, h, h2, h3⟩ hb => ⟨t, h, h2.kept hb, h3⟩
/-- a list of one node -/
def NdT1 (B : Nat) (x : Pn) : Ty := fun v w => ∃ (g : Nat) (t : Nd), v = .slice (some ⟨g, 0, none⟩) 1 1 ∧ B ≤ g ∧ RowOf ndcells 4 w v [t] ∧ OwnNd w B t ∧ erN t = x
theorem NdT1.mono (B : Nat) (x : Pn) : Mono (NdT1 B x) := fun _ _ _ ⟨g, t, h, h1, h2, h3, h4⟩ hb => ⟨g, t, h, h1, h2.below hb, h3.kept hb, h4⟩
/-- '[]byte(s)' -/
theorem run_bytes_of (l : List UInt8) (u : World) : (convert 9 22 (.string ⟨l.toArray⟩)).run Try.prog u = .ok (.slice (some ⟨u.heap.size, 0, none⟩) l.length (grownCap u l.length 0 5)) (Lib.bytesWorld u 5 ⟨l.toArray⟩) := by
  have := Lib.run_convert_string_bytes (P := Try.prog) u 9 22 5 ⟨l.toArray⟩ (show Try.prog.underlying 9 = some .string by kernel_rfl) elU8.ht (show Try.prog.underlying 5 = some (.int .u8) by kernel_rfl)
  simpa [ByteArray.size] using this
theorem bytes_own (l : List UInt8) (hl : l.length ≤ 1000000000) (B : Nat) (u : World) (hB : B ≤ u.heap.size) : TxO B l (.slice (some ⟨u.heap.size, 0, none⟩) l.length (grownCap u l.length 0 5)) (Lib.bytesWorld u 5 ⟨l.toArray⟩) ∧ Below u.heap.size u (Lib.bytesWorld u 5 ⟨l.toArray⟩) := by
  have := bytes_of u 5 l (by unfold maxLen; omega)
  exact ⟨⟨this.1, fun k e => by cases e; exact hB⟩, this.2⟩
theorem wpList_makeNd {w : World} {ops : Array Oper} {rest : List Oper} {o : Oper} {a : Act} {Q : Exit → Act → World → Prop} (hg : o.guard = none) (l c : Operand) (hop : o.op = Op.makeSlice 23 l c)
    (hl : a.eval l = .int .i64 16) (hc : a.eval c = .int .i64 16) {B : Nat} {w0 : World} (hbel : Below B w0 w) (hB : B ≤ w.heap.size)
    (hK : ∀ w', Blk 25 w' w.heap.size ((List.replicate 16 zN).flatMap ndcells) → Below B w0 w' → Below w.heap.size w w' → wpList Try.prog ops Q rest (a.put o.dst (.slice (some ⟨w.heap.size, 0, none⟩) 16 16)) w') :
    wpList Try.prog ops Q (o :: rest) a w := by
  obtain ⟨i, hi, hz, hsi, hby⟩ := elNode.info
  refine wpList_make_full w hg l c _ hop B 25 i _ 4 elNode.ht hi hz hsi .i64 .i64 16 16 16 hl hc rfl rfl (by rw [hby]; omega) (by unfold maxLen; omega) hB fun w' h1 h2 => ?_
  have hcs : (madeCells (Value.agg #[.int .i64 0, .slice none 0 0, .slice none 0 0, .slice none 0 0]).cells (16 * 4)).toList = (List.replicate 16 zN).flatMap ndcells := by
    unfold madeCells
    rw [Array.toList_map, Array.toList_range]
    rfl
  have hblk : Blk 25 w' w.heap.size ((List.replicate 16 zN).flatMap ndcells) := by
    rw [← hcs]
    rcases h1.2 with ⟨h', _⟩ | ⟨g', cap', cur, h', _, hgg, _, _, hcs', htake⟩
    · simp at h'
    · simp only [Value.slice.injEq, Option.some.injEq, Addr.mk.injEq, and_true, true_and] at h'
      obtain ⟨rfl, rfl⟩ := h'
      have : cur.toList = (madeCells (Value.agg #[.int .i64 0, .slice none 0 0, .slice none 0 0, .slice none 0 0]).cells (16 * 4)).toList := by
        rw [← htake]; exact (List.take_of_length_le (by simp [hcs'])).symm
      unfold Blk; rw [← this]; simpa using hgg
  exact hK w' hblk (hbel.grown h2 hB (fun k hk => by cases hk)) ((Below.refl w.heap.size w).grown h2 (Nat.le_refl _) (fun k hk => by cases hk))
theorem flat_nd (l : List Nd) : (l.flatMap ndcells).length = l.length * 4 := flat_len ndcells_len l
theorem sets_nd (l : List Nd) (i : Nat) (hi : i < l.length) (t : Nd) : setsL (l.flatMap ndcells) (i * 4) (ndcells t) = (l.set i t).flatMap ndcells := by
  have h1 : l = l.take i ++ (l[i] :: l.drop (i + 1)) := by rw [List.getElem_cons_drop, List.take_append_drop]
  have h2 : l.set i t = l.take i ++ (t :: l.drop (i + 1)) := by rw [List.set_eq_take_append_cons_drop, if_pos hi]
  rw [h2]
  have h3 : l.flatMap ndcells = (l.take i).flatMap ndcells ++ (ndcells l[i] ++ (l.drop (i + 1)).flatMap ndcells) := by
    conv => lhs; rw [h1]
    rw [List.flatMap_append, List.flatMap_cons]
  rw [h3, List.flatMap_append, List.flatMap_cons]
  have h4 : i * 4 = ((l.take i).flatMap ndcells).length := by rw [flat_nd, List.length_take]; omega
  rw [h4]
  exact setsL_app (ndcells l[i]) (ndcells t) (by rw [ndcells_len, ndcells_len]) _ _
end Go.Proofs.Ytljbbpcnoajfeaa
/- (Grw2) The reference's grown: nothing, one route, a road. -/
namespace Go.Proofs.Ytljbbpcnoajfeaa
open Go.RowKit
theorem below_drewN {B : Nat} {a w : World} (h : Below B a w) (n : Nat) : Below B a (w.drewN n) := h.trans ⟨rfl, rfl, rfl, Nat.le_refl _, fun _ _ => rfl⟩
def GrwPost (x : Pn) (w : World) (e : Ending) (w' : World) : Prop := ∃ t : Nd, e = .returned (.agg (ndcells t).toArray) ∧ OwnNd w' w.heap.size t ∧ erN t = x ∧ Below w.heap.size w w'
def Sml (l : List Rt) : Prop := ∀ r ∈ l, r.1.length ≤ 2000000 ∧ r.2.length ≤ 1000000000
def GrwC (n : Nat) : Prop := ∀ (l : List Rt) (a : Option Addr) (L cap : Nat) (w : World), l.length = L → L ≤ 2000000 → Sml l → OkR n l → RowOf rcells 2 w (.slice a L cap) l → Calls Try.prog 56 #[.slice a L cap] w (GrwPost (grw n l) w)
theorem cells_rt {w : World} {a : Option Addr} {L cap : Nat} {l : List Rt} (h : RowOf rcells 2 w (.slice a L cap) l) (k : Nat) (hk : k < l.length) : ∃ b off, a = some ⟨b, off, none⟩ ∧ w.cell? ⟨b, off + k * 2, none⟩ = some (.string ⟨l[k].1.toArray⟩) ∧ w.cell? ⟨b, off + k * 2 + 1, none⟩ = some (.string ⟨l[k].2.toArray⟩) := by
  obtain ⟨b, off, ha, hc⟩ := RowOf.cells (f := rcells) (size := 2) (fun _ => rfl) h k hk
  exact ⟨b, off, ha, by simpa using hc 0 _ rfl, by simpa [Nat.add_assoc] using hc 1 _ rfl⟩
theorem zcells : ndcells zN = [.int .i64 0, .slice none 0 0, .slice none 0 0, .slice none 0 0] := rfl
set_option maxHeartbeats 2000000 in
set_option maxRecDepth 100000 in
theorem grown_none (n : Nat) (a : Option Addr) (cap : Nat) (w : World) : Calls Try.prog 56 #[.slice a 0 cap] w (GrwPost (grw n []) w) := by
  have hz := Blk.new w 25 (ndcells zN)
  have hbel : Below w.heap.size w (w.alloc (.cells (ndcells zN).toArray 25)) := (Below.refl _ _).alloc (Nat.le_refl _) _
  have hfin : ∀ u, Below w.heap.size w u → GrwPost (grw n []) w (.returned (.agg (ndcells zN).toArray)) u := fun u hu => ⟨zN, rfl, OwnNd.zero _ _, by rw [grw_nil]; rfl, hu⟩
  have Hfin := Lib.hid hfin
  clear hfin
  go_enter Try.func56, Try.ntmps56
  go_wp2_with ((with_reducible show wpList _ _ _ (⟨none, Op.store _ _ (Operand.tmp 12), _, _, _, _⟩ :: _) _ _); refine wpList_storeA (o := ⟨none, _, _, _, _, _⟩) (by rfl) 25 (.tmp 2) (.tmp 12) (by rfl) w.heap.size (ndcells zN) (by rfl) (by rfl) aggNode hz (by rfl) (by rfl) (by intro u hu; simp [zcells] at hu; rcases hu with rfl | rfl <;> rfl) hbel (Nat.le_refl _) ?_; intro w2 h2 b2 _)
  exact bodyPost_ret (results_blk rfl _ _ w.heap.size aggNode h2 rfl rfl) rfl (Hfin.out _ b2)
set_option maxHeartbeats 2000000 in
set_option maxRecDepth 100000 in
theorem grown_one (n : Nat) (r : Rt) (a : Option Addr) (cap : Nat) (w : World) (hs : Sml [r]) (h : RowOf rcells 2 w (.slice a 1 cap) [r]) : Calls Try.prog 56 #[.slice a 1 cap] w (GrwPost (grw (n + 1) [r]) w) := by
  obtain ⟨w1, hw1⟩ : ∃ w1, w1 = w.alloc (.cells (ndcells zN).toArray 25) := ⟨_, rfl⟩
  have hz : Blk 25 w1 w.heap.size (ndcells zN) := by rw [hw1]; exact Blk.new w _ _
  have hbel : Below w.heap.size w w1 := by rw [hw1]; exact (Below.refl _ _).alloc (Nat.le_refl _) _
  have hsz : w1.heap.size = w.heap.size + 1 := by rw [hw1]; simp
  have Hw1 := Lib.hid hw1
  obtain ⟨b, off, rfl, c0, c1⟩ := cells_rt (h.below hbel) 0 (by simp)
  simp only [List.getElem_cons_zero, Nat.zero_mul, Nat.add_zero] at c0 c1
  obtain ⟨r1, r2⟩ := r
  obtain ⟨hs1, hs2⟩ := hs _ (List.mem_singleton.2 rfl)
  dsimp only at c0 c1 hs1 hs2
  have k0 := fun u : Ext w1 => u.cell c0
  have k1 := fun u : Ext w1 => u.cell c1
  have v1 := run_bytes_of r1
  have v2 := run_bytes_of r2
  have O1 := Lib.hid (fun u (hu : w.heap.size + 1 ≤ u.heap.size) => bytes_own r1 (by omega) (w.heap.size + 1) u hu)
  have O2 := Lib.hid (fun u (hu : w.heap.size + 1 ≤ u.heap.size) => bytes_own r2 (by omega) (w.heap.size + 1) u hu)
  have Hz := Lib.hid hz
  have hgr : grw (n + 1) [(r1, r2)] = .mk 1 r1 r2 [] := rfl
  rw [hgr]
  clear hw1 c0 c1 hs1 hs2 hs h hz hgr
  go_enter Try.func56, Try.ntmps56
  go_wp2_with fail
  rw [show w.alloc (.cells #[.int .i64 0, .slice none 0 0, .slice none 0 0, .slice none 0 0] 25) = w1 from by rw [Hw1.out]; rfl]
  refine wp_region_typed w1 11 (by kernel_rfl) (by kernel_rfl) (Below.refl _ _) ?_; simp only [List.take_succ_cons, List.take_zero, List.take_nil]
  iterate 4 (refine wpX_step (by rfl) (fun K hK => ?_); go_simp; first | (refine hK _ ?_; clear hK K) | (apply Exists.intro; refine ⟨fun _ => ?_, hK _ ?_⟩; fail; clear hK K))
  refine wpX_rel 20 (TxO (w.heap.size + 1) r1) rfl (of_decide_eq_true rfl) (TxO.mono _ _) (fun w6 hw6 => ?_) ?_
  · simp only [relOf, List.filter_nil, forallRel]
    refine ⟨rfl, ?_⟩
    go_simp
    exact ⟨(O1.out _ (by have := hw6.size; omega)).2, (O1.out _ (by have := hw6.size; omega)).1⟩
  iterate 4 (refine wpX_step (by rfl) (fun K hK => ?_); go_simp; first | (refine hK _ ?_; clear hK K) | (apply Exists.intro; refine ⟨fun _ => ?_, hK _ ?_⟩; fail; clear hK K))
  refine wpX_rel 25 (TxO (w.heap.size + 1) r2) rfl (of_decide_eq_true rfl) (TxO.mono _ _) (fun w6 hw6 => ?_) ?_
  · change forallRel w6 [] _ _
    simp only [forallRel]
    refine ⟨rfl, ?_⟩
    go_simp
    exact ⟨(O2.out _ (by have := hw6.size; omega)).2, (O2.out _ (by have := hw6.size; omega)).1⟩
  refine wpX_rel 26 (NdT (w.heap.size + 1) (.mk 1 r1 r2 [])) rfl (of_decide_eq_true rfl) (NdT.mono _ _) (fun w6 hw6 => ?_) ?_
  · change forallRel w6 [(25, _), (20, _)] _ _
    rintro v25 ⟨h25, o25⟩ v20 ⟨h20, o20⟩
    obtain ⟨a25, c25, rfl, _, _⟩ := h25.form
    obtain ⟨a20, c20, rfl, _, _⟩ := h20.form
    simp only [forallRel]
    refine ⟨rfl, ?_⟩
    go_simp
    exact ⟨Below.refl _ _, .mk 1 _ r1 _ r2 (.slice none 0 0) [], rfl, .mk 1 _ r1 _ r2 (.slice none 0 0) [] h20 o20 h25 o25 (RowOf.nil ndcells 4 _) (by intro k e; cases e) (by simp), rfl⟩
  refine wpX_nil ?_
  intro u2 hb2 v20 _ v25 _ v26 h26
  change wpList _ _ _ [_] _ _
  simp only [Act.put, List.setIfInBounds_toArray, List.set_cons_zero, List.set_cons_succ]
  obtain ⟨t, rfl, ot, et⟩ := h26
  have bb2 := Below.then hbel hb2
  have hz2 := Hz.out.kept hb2
  have hone := ot.is.one
  have hlen := ndcells_len t
  clear k0 k1 v1 v2
  go_wp2_with ((with_reducible show wpList _ _ _ (⟨none, Op.store _ _ (Operand.tmp 26), _, _, _, _⟩ :: _) _ _); refine wpList_storeA (o := ⟨none, _, _, _, _, _⟩) (by rfl) 25 (.tmp 2) (.tmp 26) (by rfl) w.heap.size (ndcells t) (by rfl) (by rfl) aggNode hz2 hlen (by rfl) hone bb2 (Nat.le_refl _) ?_; intro w3 h3 b3 g3)
  exact bodyPost_ret (results_blk rfl _ _ w.heap.size aggNode h3 hlen rfl) rfl ⟨t, rfl, (ot.off g3 (Nat.lt_succ_self _)).lower (Nat.le_succ _), et, b3⟩
end Go.Proofs.Ytljbbpcnoajfeaa
/- (Grw3) The reference's grown: a road. -/
namespace Go.Proofs.Ytljbbpcnoajfeaa
open Go.RowKit
def RtT' (L : Nat) (l : List Rt) : Ty := fun v w => ∃ (a : Option Addr) (c : Nat), v = .slice a L c ∧ RowOf rcells 2 w (.slice a L c) l
theorem RtT'.mono (L : Nat) (l : List Rt) : Mono (RtT' L l) := fun _ _ _ ⟨a, c, h, h2⟩ hb => ⟨a, c, h, h2.below hb⟩
set_option maxHeartbeats 2000000 in
set_option maxRecDepth 100000 in
theorem grown_road (n : Nat) (ih : GrwC n) (l : List Rt) (a : Option Addr) (L cap : Nat) (w : World) (hL : l.length = L) (h2 : 2 ≤ L) (hLs : L ≤ 2000000) (hs : Sml l) (hc : 0 < fl l) (hle : ∀ r ∈ l, fl l ≤ r.1.length) (hok : OkR n (shorterP (fl l) l)) (h : RowOf rcells 2 w (.slice a L cap) l) :
    Calls Try.prog 56 #[.slice a L cap] w (GrwPost (grw (n + 1) l) w) := by
  obtain ⟨w1, hw1⟩ : ∃ w1, w1 = w.alloc (.cells (ndcells zN).toArray 25) := ⟨_, rfl⟩
  have hz : Blk 25 w1 w.heap.size (ndcells zN) := by rw [hw1]; exact Blk.new w _ _
  have hbel : Below w.heap.size w w1 := by rw [hw1]; exact (Below.refl _ _).alloc (Nat.le_refl _) _
  have hsz : w1.heap.size = w.heap.size + 1 := by rw [hw1]; simp
  have Hw1 := Lib.hid hw1
  have hl0 : 0 < l.length := by omega
  have hlz : L - 1 < l.length := by omega
  obtain ⟨b, off, rfl, c0, c1⟩ := cells_rt (h.below hbel) 0 hl0
  obtain ⟨b', off', hab, d0, d1⟩ := cells_rt (h.below hbel) (L - 1) hlz
  clear d1
  simp only [Option.some.injEq, Addr.mk.injEq, and_true] at hab
  obtain ⟨rfl, rfl⟩ := hab
  simp only [Nat.zero_mul, Nat.add_zero] at c0 c1
  have hfl : fl l = com l[0].1 l[L - 1].1 := by
    unfold fl
    rw [List.getLast?_eq_getElem?, hL, List.getElem?_eq_getElem hlz]
    cases l with
    | nil => simp at hl0
    | cons a l => rfl
  have hhd : hdP l = l[0] := by
    cases l with
    | nil => simp at hl0
    | cons a l => rfl
  have s0 := hs _ (List.getElem_mem hl0)
  have sz := hs _ (List.getElem_mem hlz)
  have hm0 := List.getElem_mem hl0
  have hgw := grw_two n l (by omega)
  rw [hhd] at hgw
  obtain ⟨y0, hy0⟩ : ∃ y, y = l[0] := ⟨_, rfl⟩
  obtain ⟨yz, hyz⟩ : ∃ y, y = l[L - 1] := ⟨_, rfl⟩
  rw [← hy0] at c0 c1 hfl s0 hgw hm0 hhd
  rw [← hyz] at d0 hfl sz
  obtain ⟨P1, P2⟩ := y0
  obtain ⟨Z1, Z2⟩ := yz
  dsimp only at c0 c1 d0 hfl s0 sz hgw
  have k0 := fun u : Ext w1 => u.cell c0
  have kz := fun u : Ext w1 => u.cell d0
  have v1 := run_bytes_of P1
  have vz := run_bytes_of Z1
  have hLi : IntKind.i64.wrap ((L - 1 : Nat) : Int) = ((L - 1 : Nat) : Int) := IntWalk.i64_in _ (by omega)
  have hLn : ((L : Int) - 1) = ((L - 1 : Nat) : Int) := by omega
  have hL0 : 0 < L := by omega
  have hL1 : L - 1 < L := by omega
  have hL2 : ((L - 1 : Nat) : Int) < (L : Int) := by omega
  have e0 : ((L : Int) == 0) = false := by rw [beq_eq_false_iff_ne]; omega
  have e1 : ((L : Int) == 1) = false := by rw [beq_eq_false_iff_ne]; omega
  obtain ⟨Zi, hZi⟩ : ∃ Z, Z = L - 1 := ⟨_, rfl⟩
  rw [← hZi] at hLi hLn hL1 hL2
  simp only [← hZi] at kz
  clear hZi
  have O1 := Lib.hid (fun u (hu : w.heap.size + 1 ≤ u.heap.size) => bytes_own P1 (by omega) (w.heap.size + 1) u hu)
  have Oz := Lib.hid (fun u (hu : w.heap.size + 1 ≤ u.heap.size) => bytes_own Z1 (by omega) (w.heap.size + 1) u hu)
  have CC := Lib.hid (fun (u : World) (a1 a2 : Option Addr) (c1 c2 : Nat) (g1 : Bytes u (.slice a1 P1.length c1) P1) (g2 : Bytes u (.slice a2 Z1.length c2) Z1) => (ncommon_any P1 Z1 a1 a2 c1 c2 u g1 g2).mono (fun (e : Ending) (w' : World) (q : e = .returned (.int .i64 (com P1 Z1)) ∧ ∃ m, w' = u.drewN m) => (show e = .returned (.int .i64 ((fl l : Nat) : Int)) ∧ Below u.heap.size u w' from ⟨by rw [hfl]; exact q.1, by obtain ⟨m, hm⟩ := q.2; rw [hm]; exact below_drewN (Below.refl _ _) m⟩)))
  have Hz := Lib.hid hz
  have Hfl := Lib.hid hfl
  rw [if_pos hc] at hgw
  rw [hgw]
  have hcP : fl l ≤ P1.length := hle _ hm0
  have hrow := h.below hbel
  have csh := fun u (hu : RowOf rcells 2 u (.slice (some ⟨b, off, none⟩) L cap) l) => shorter_any _ L cap l hL (fl l) hle (by omega) (by omega) u hu
  have cgr := fun (u : World) (a' : Option Addr) (c' : Nat) (hu : RowOf rcells 2 u (.slice a' L c') (shorterP (fl l) l)) => ih (shorterP (fl l) l) a' L c' u (by unfold shorterP; rw [List.length_map, hL]) hLs (fun r hr => by
    unfold shorterP at hr
    obtain ⟨s, hs', rfl⟩ := List.mem_map.1 hr
    have := hs s hs'
    exact ⟨by simp only [List.length_drop]; omega, this.2⟩) hok hu
  have s48 := str_to (P := Try.prog) (t := 9) (by kernel_rfl) P1 (fl l) ((fl l : Nat) : Int) rfl hcP
  obtain ⟨C, hC⟩ : ∃ C, C = fl l := ⟨_, rfl⟩
  rw [← hC] at hc hcP s48
  simp only [← hC] at csh cgr CC ⊢
  obtain ⟨SL, hSL⟩ : ∃ x, x = shorterP C l := ⟨_, rfl⟩
  obtain ⟨SG, hSG⟩ : ∃ x, x = grw n SL := ⟨_, rfl⟩
  simp only [← hSL] at csh cgr ⊢
  simp only [← hSG] at cgr ⊢
  obtain ⟨PT, hPT⟩ : ∃ x, x = P1.take C := ⟨_, rfl⟩
  have hPTl : PT.length ≤ 2000000 := by rw [hPT, List.length_take]; omega
  rw [← hPT] at s48 ⊢
  have rv49 := run_bytes_of PT
  have O49 := Lib.hid (fun u (hu : w.heap.size + 1 ≤ u.heap.size) => bytes_own PT (by omega) (w.heap.size + 1) u hu)
  have Csh := Lib.hid csh
  have Cgr := Lib.hid cgr
  have Hrow := Lib.hid hrow
  have hci : (0 : Int) < (C : Int) := by omega
  clear hw1 c1 d0 hfl s0 sz hgw hm0 hhd hy0 hyz hs h hle hok ih csh cgr hrow hz hC hSL hSG hPT hPTl hcP Hfl hl0 hlz
  go_enter Try.func56, Try.ntmps56
  go_wp2_with fail
  rw [show w.alloc (.cells #[.int .i64 0, .slice none 0 0, .slice none 0 0, .slice none 0 0] 25) = w1 from by rw [Hw1.out]; rfl]
  refine wp_region_typed w1 14 (by kernel_rfl) (by kernel_rfl) (Below.refl _ _) ?_; simp only [List.take_succ_cons, List.take_zero, List.take_nil]
  iterate 4 (refine wpX_step (by rfl) (fun K hK => ?_); go_simp; first | (refine hK _ ?_; clear hK K) | (apply Exists.intro; refine ⟨fun _ => ?_, hK _ ?_⟩; fail; clear hK K))
  refine wpX_rel 31 (TxO (w.heap.size + 1) P1) rfl (of_decide_eq_true rfl) (TxO.mono _ _) (fun w6 hw6 => ?_) ?_
  · simp only [relOf, List.filter_nil, forallRel]
    refine ⟨rfl, ?_⟩
    go_simp
    exact ⟨(O1.out _ (by have := hw6.size; omega)).2, (O1.out _ (by have := hw6.size; omega)).1⟩
  iterate 7 (refine wpX_step (by rfl) (fun K hK => ?_); go_simp; first | (refine hK _ ?_; clear hK K) | (apply Exists.intro; refine ⟨fun _ => ?_, hK _ ?_⟩; fail; clear hK K))
  refine wpX_rel 39 (TxO (w.heap.size + 1) Z1) rfl (of_decide_eq_true rfl) (TxO.mono _ _) (fun w6 hw6 => ?_) ?_
  · change forallRel w6 [] _ _
    simp only [forallRel]
    refine ⟨rfl, ?_⟩
    go_simp
    exact ⟨(Oz.out _ (by have := hw6.size; omega)).2, (Oz.out _ (by have := hw6.size; omega)).1⟩
  refine wpX_eq (.int .i64 (C : Int)) (fun w6 hw6 => ?_) ?_
  · change forallRel w6 [(39, _), (31, _)] _ _
    rintro v39 ⟨h39, _⟩ v31 ⟨h31, _⟩
    obtain ⟨a39, c39, rfl, _, _⟩ := h39.form
    obtain ⟨a31, c31, rfl, _, _⟩ := h31.form
    simp only [forallRel]
    refine ⟨rfl, ?_⟩
    go_simp
    exact (CC.out w6 _ _ _ _ h31 h39).mono fun e w' q => ⟨_, q.1, rfl, q.2⟩
  refine wpX_nil ?_
  intro u2 hb2 v31 _ v39 _
  change wpList _ _ _ [_] _ _
  simp only [Act.put, List.setIfInBounds_toArray, List.set_cons_zero, List.set_cons_succ]
  have bb2 := Below.then hbel hb2
  have hz2 := Hz.out.kept hb2
  have hsz2 := hb2.size
  have m0 := fun u : Ext u2 => u.cell (show u2.cell? ⟨b, off, none⟩ = some (.string ⟨P1.toArray⟩) from by rw [hb2.cell (World.block_lt_of_cell? w1 _ c0)]; exact c0)
  have hrow2 := Hrow.out.below hb2
  clear k0 kz v1 vz c0
  go_wp2_with fail
  refine wp_region_typed u2 13 (by kernel_rfl) (by kernel_rfl) (Below.refl _ _) ?_; simp only [List.take_succ_cons, List.take_zero, List.take_nil]
  iterate 6 (refine wpX_step (by rfl) (fun K hK => ?_); go_simp; first | (refine hK _ ?_; clear hK K) | (apply Exists.intro; refine ⟨fun _ => ?_, hK _ ?_⟩; fail; clear hK K))
  refine wpX_rel 49 (TxO (w.heap.size + 1) PT) rfl (of_decide_eq_true rfl) (TxO.mono _ _) (fun w6 hw6 => ?_) ?_
  · simp only [relOf, List.filter_nil, forallRel]
    refine ⟨rfl, ?_⟩
    go_simp
    exact ⟨(O49.out _ (by have := hw6.size; omega)).2, (O49.out _ (by have := hw6.size; omega)).1⟩
  iterate 2 (refine wpX_step (by rfl) (fun K hK => ?_); go_simp; first | (refine hK _ ?_; clear hK K) | (apply Exists.intro; refine ⟨fun _ => ?_, hK _ ?_⟩; fail; clear hK K))
  refine wpX_rel 52 (RtT' L SL) rfl (of_decide_eq_true rfl) (RtT'.mono _ _) (fun w6 hw6 => ?_) ?_
  · change forallRel w6 [] _ _
    simp only [forallRel]
    refine ⟨rfl, ?_⟩
    go_simp
    refine (Csh.out w6 (hrow2.below hw6)).mono ?_
    rintro e w7 ⟨a', c', rfl, b7, h7⟩
    exact ⟨_, rfl, ⟨a', c', rfl, h7⟩, b7⟩
  refine wpX_rel 53 (NdT (w.heap.size + 1) SG) rfl (of_decide_eq_true rfl) (NdT.mono _ _) (fun w6 hw6 => ?_) ?_
  · change forallRel w6 [(52, _)] _ _
    rintro v52 ⟨a', c', rfl, h7⟩
    simp only [forallRel]
    refine ⟨rfl, ?_⟩
    go_simp
    refine (Cgr.out w6 a' c' h7).mono ?_
    rintro e w7 ⟨t, rfl, ot, et, b7⟩
    exact ⟨_, rfl, ⟨t, rfl, ot.lower (by have := hw6.size; omega), et⟩, b7⟩
  refine wpX_rel 54 (NdT1 (w.heap.size + 1) SG) rfl (of_decide_eq_true rfl) (NdT1.mono _ _) (fun w6 hw6 => ?_) ?_
  · change forallRel w6 [(53, _)] _ _
    rintro v53 ⟨t, rfl, ot, et⟩
    obtain ⟨kd, pv, p, vv, v, kv, ks⟩ := t
    have hbu := Row.built ndcells_len w6 25 [.mk kd pv p vv v kv ks] 1 rfl (by unfold maxLen; omega)
    have hbA : Below w6.heap.size w6 (w6.alloc (.cells ([Nd.mk kd pv p vv v kv ks].flatMap ndcells).toArray 25)) := (Below.refl _ _).alloc (Nat.le_refl _) _
    have ot2 := ot.kept hbA
    simp only [ndcells, forallRel]
    refine ⟨rfl, ?_⟩
    go_simp
    exact ⟨hbA, w6.heap.size, .mk kd pv p vv v kv ks, rfl, by have := hw6.size; omega, hbu, ot2, et⟩
  refine wpX_rel 55 (NdT (w.heap.size + 1) (.mk 2 PT [] [SG])) rfl (of_decide_eq_true rfl) (NdT.mono _ _) (fun w6 hw6 => ?_) ?_
  · change forallRel w6 [(54, _), (49, _)] _ _
    rintro v54 ⟨g, t, rfl, hg, hr, ot, et⟩ v49 ⟨h49, o49⟩
    obtain ⟨a49, c49, rfl, _, _⟩ := h49.form
    simp only [forallRel]
    refine ⟨rfl, ?_⟩
    go_simp
    refine ⟨Below.refl _ _, .mk 2 _ PT (.slice none 0 0) [] _ [t], rfl, .mk 2 _ PT (.slice none 0 0) [] _ [t] h49 o49 (RowOf.nil b8 1 _) (by intro k e; cases e) hr (fun k e => by cases e; exact hg) (fun k hk => by rw [List.mem_singleton] at hk; rw [hk]; exact ot), ?_⟩
    simp only [erN, erNL, et]
  refine wpX_nil ?_
  intro u3 hb3 v49 _ v52 _ v53 _ v54 _ v55 h55
  change wpList _ _ _ [_] _ _
  simp only [Act.put, List.setIfInBounds_toArray, List.set_cons_zero, List.set_cons_succ]
  obtain ⟨t, rfl, ot, et⟩ := h55
  have bb3 := Below.then bb2 hb3
  have hz3 := hz2.kept hb3
  have hone := ot.is.one
  have hlen := ndcells_len t
  clear m0 s48 rv49
  go_wp2_with ((with_reducible show wpList _ _ _ (⟨none, Op.store _ _ (Operand.tmp 55), _, _, _, _⟩ :: _) _ _); refine wpList_storeA (o := ⟨none, _, _, _, _, _⟩) (by rfl) 25 (.tmp 2) (.tmp 55) (by rfl) w.heap.size (ndcells t) (by rfl) (by rfl) aggNode hz3 hlen (by rfl) hone bb3 (Nat.le_refl _) ?_; intro w3 h3 b3 g3)
  exact bodyPost_ret (results_blk rfl _ _ w.heap.size aggNode h3 hlen rfl) rfl ⟨t, rfl, (ot.off g3 (Nat.lt_succ_self _)).lower (Nat.le_succ _), et, b3⟩
end Go.Proofs.Ytljbbpcnoajfeaa
/- (Grw4) The reference's grown, a fork: its frame. -/
namespace Go.Proofs.Ytljbbpcnoajfeaa
open Go.RowKit
def nilV : Value := .slice none 0 0
def fcells (vv : Value) (R : Nat) : List Value := [.int .i64 3, .slice none 0 0, vv, .slice (some ⟨R, 0, none⟩) 16 16]
structure FkN (w : World) (R F : Nat) (vv : Value) (v : List UInt8) (kids : List Nd) (u : World) : Prop where
  hb : Below w.heap.size w u
  hz : Blk 25 u w.heap.size (ndcells zN)
  hR : Blk 25 u R (kids.flatMap ndcells)
  hF : Blk 25 u F (fcells vv R)
  hRF : R < F
  hv : TxO (R + 1) v vv u
  hk : ∀ k ∈ kids, OwnNd u (R + 1) k
  hl : kids.length = 16
  hlt : w.heap.size < R
theorem FkN.kept {w : World} {R F : Nat} {vv : Value} {v : List UInt8} {kids : List Nd} {u u' : World} (h : FkN w R F vv v kids u) (hb : Below u.heap.size u u') : FkN w R F vv v kids u' :=
  ⟨Below.then h.hb hb, h.hz.kept hb, h.hR.kept hb, h.hF.kept hb, h.hRF, ⟨h.hv.1.below hb, h.hv.2⟩, fun k hk => (h.hk k hk).kept hb, h.hl, h.hlt⟩
theorem FkN.row {w : World} {R F : Nat} {vv : Value} {v : List UInt8} {kids : List Nd} {u : World} (h : FkN w R F vv v kids u) : RowOf ndcells 4 u (.slice (some ⟨R, 0, none⟩) 16 16) kids :=
  Blk.row h.hR kids 16 16 ndcells_len h.hl (fun _ _ e => e) (Nat.le_refl _) (by unfold maxLen; omega)
theorem FkN.there {w : World} {R F : Nat} {vv : Value} {v : List UInt8} {kids : List Nd} {u : World} (h : FkN w R F vv v kids u) (i : Nat) (hi : i < 16) : u.there R (i * 4) 4 := fun j hj => by
  refine ⟨?_, h.hR.free _⟩
  rw [h.hR.cell, List.getElem?_eq_getElem (by rw [flat_nd, h.hl]; omega)]
  rfl
theorem FkN.put {w : World} {R F : Nat} {vv : Value} {v : List UInt8} {kids : List Nd} {u : World} (h : FkN w R F vv v kids u) (i : Nat) (hi : i < 16) (t : Nd) (ht : OwnNd u (R + 1) t) : FkN w R F vv v (kids.set i t) (u.setCells R (i * 4) (ndcells t)) := by
  have hg : u.grownBy (u.setCells R (i * 4) (ndcells t)) (some R) := grown_sets (ndcells t) (i * 4) ⟨rfl, rfl, rfl, Nat.le_refl _, fun _ _ _ => rfl⟩
  have hlt := h.hlt
  have hR := h.hR.sets (ndcells t) (i * 4)
  rw [sets_nd kids i (by rw [h.hl]; exact hi) t] at hR
  refine ⟨h.hb.grown hg h.hb.size (fun k e => by cases e; omega), h.hz.grown hg (fun e => by cases e; omega), hR, h.hF.grown hg (fun e => by have := h.hRF; simp at e; omega), h.hRF, ⟨h.hv.1.offV hg (fun k e => by have := h.hv.2 k e; omega), h.hv.2⟩, fun k hk => ?_, by rw [List.length_set]; exact h.hl, hlt⟩
  rcases List.mem_or_eq_of_mem_set hk with hk | rfl
  · exact (h.hk k hk).off hg (Nat.lt_succ_self _)
  · exact ht.off hg (Nat.lt_succ_self _)
theorem FkN.start {w : World} {R F : Nat} {u : World} (hb : Below w.heap.size w u) (hz : Blk 25 u w.heap.size (ndcells zN)) (hR : Blk 25 u R ((List.replicate 16 zN).flatMap ndcells)) (hF : Blk 25 u F (fcells nilV R)) (hRF : R < F) (hlt : w.heap.size < R) : FkN w R F nilV [] (List.replicate 16 zN) u :=
  ⟨hb, hz, hR, hF, hRF, ⟨RowOf.nil b8 1 _, by intro k e; cases e⟩, fun k hk => by rw [List.eq_of_mem_replicate hk]; exact OwnNd.zero _ _, by simp, hlt⟩
theorem FkN.val {w : World} {R F : Nat} {vv : Value} {v : List UInt8} {u : World} (h : FkN w R F nilV [] (List.replicate 16 zN) u) (hv : TxO (F + 1) v vv u) : FkN w R F vv v (List.replicate 16 zN) (u.setCell ⟨F, 2, none⟩ vv) := by
  have hg : u.grownBy (u.setCell ⟨F, 2, none⟩ vv) (some F) := grown_set ⟨rfl, rfl, rfl, Nat.le_refl _, fun _ _ _ => rfl⟩ 2 vv
  have hlt := h.hlt
  have hRF := h.hRF
  refine FkN.mk (h.hb.grown hg h.hb.size (fun k e => by cases e; omega)) (h.hz.grown hg (fun e => by simp at e; omega)) (h.hR.grown hg (fun e => by simp at e; omega)) (h.hF.set 2 vv) hRF ⟨hv.1.offV hg (fun k e => by have := hv.2 k e; omega), fun k e => by have := hv.2 k e; omega⟩ (fun k hk => by rw [List.eq_of_mem_replicate hk]; exact OwnNd.zero _ _) (by simp) hlt
theorem part_step (i : Nat) (l : List Rt) (j : Nat) (hj : j < l.length) : partP i (l.take (j + 1)) = partP i (l.take j) ++ (if (l[j].1[0]?.getD 0).toNat = i then [l[j]] else []) := by
  unfold partP
  rw [List.take_succ_eq_append_getElem hj, List.filter_append]
  congr 1
  by_cases h : (l[j].1[0]?.getD 0).toNat = i
  · rw [if_pos h]; simp [h]
  · rw [if_neg h]; simp [h]
theorem partP_len (i : Nat) (l : List Rt) : (partP i l).length ≤ l.length := List.length_filter_le _ _
/-- done so far -/
def DoneN (n : Nat) (body : List Rt) (i : Nat) (kids : List Nd) : Prop := ∀ j < i, (kids[j]?).map erN = some (grw n (shorterP 1 (partP j body)))
theorem DoneN.put {n : Nat} {body : List Rt} {i : Nat} {kids : List Nd} (h : DoneN n body i kids) (hi : i < kids.length) (t : Nd) (ht : erN t = grw n (shorterP 1 (partP i body))) : DoneN n body (i + 1) (kids.set i t) := by
  intro j hj
  by_cases e : j = i
  · subst e
    rw [List.getElem?_set_self hi]
    simp [ht]
  · rw [List.getElem?_set_ne (fun h => e h.symm)]
    exact h j (by omega)
theorem DoneN.all {n : Nat} {body : List Rt} {kids : List Nd} (h : DoneN n body 16 kids) (hl : kids.length = 16) : kids.map erN = (List.range 16).map fun i => grw n (shorterP 1 (partP i body)) := by
  apply List.ext_getElem?
  intro j
  by_cases hj : j < 16
  · rw [List.getElem?_map, List.getElem?_map, List.getElem?_range hj, h j hj]
    rfl
  · rw [List.getElem?_eq_none (by simp; omega), List.getElem?_eq_none (by simp; omega)]
/-- what is handed back -/
theorem FkN.done {w : World} {R F : Nat} {vv : Value} {v : List UInt8} {kids : List Nd} {u u' : World} {n : Nat} {body : List Rt} (h : FkN w R F vv v kids u) (hd : DoneN n body 16 kids) (hg : u.grownBy u' (some w.heap.size)) (hb : Below w.heap.size w u') :
    GrwPost (.mk 3 [] v ((List.range 16).map fun i => grw n (shorterP 1 (partP i body)))) w (.returned (.agg (fcells vv R).toArray)) u' := by
  have hlt := h.hlt
  refine ⟨.mk 3 (.slice none 0 0) [] vv v (.slice (some ⟨R, 0, none⟩) 16 16) kids, rfl, ?_, ?_, hb⟩
  · refine .mk 3 _ [] vv v _ kids (RowOf.nil b8 1 _) (by intro k e; cases e) (h.hv.1.offV hg (fun k e => by have := h.hv.2 k e; omega)) (fun k e => by have := h.hv.2 k e; omega) (h.row.offV hg (fun k e => by have e2 : R = k := (by cases e; rfl); omega)) (fun k e => by have e2 : R = k := (by cases e; rfl); omega) (fun k hk => ?_)
    exact ((h.hk k hk).off hg (by omega)).lower (by omega)
  · simp only [erN, erNL_map, hd.all h.hl]
end Go.Proofs.Ytljbbpcnoajfeaa
/- (Grw5) The reference's grown: a fork. -/
namespace Go.Proofs.Ytljbbpcnoajfeaa
open Go.RowKit
def CellIs (a : Addr) (v : Value) : World → Prop := fun u => u.cell? a = some v
set_option maxHeartbeats 4000000 in
set_option maxRecDepth 100000 in
theorem grown_fork (n : Nat) (ih : GrwC n) (l : List Rt) (a : Option Addr) (L cap : Nat) (w : World) (hL : l.length = L) (h2 : 2 ≤ L) (hLs : L ≤ 2000000) (hs : Sml l) (hc : fl l = 0) (hb : ∀ r ∈ bodyP l, r.1 ≠ []) (hok : ∀ i < 16, OkR n (shorterP 1 (partP i (bodyP l)))) (h : RowOf rcells 2 w (.slice a L cap) l) :
    Calls Try.prog 56 #[.slice a L cap] w (GrwPost (grw (n + 1) l) w) := by
  obtain ⟨w1, hw1⟩ : ∃ w1, w1 = w.alloc (.cells (ndcells zN).toArray 25) := ⟨_, rfl⟩
  have hz : Blk 25 w1 w.heap.size (ndcells zN) := by rw [hw1]; exact Blk.new w _ _
  have hbel : Below w.heap.size w w1 := by rw [hw1]; exact (Below.refl _ _).alloc (Nat.le_refl _) _
  have hsz : w1.heap.size = w.heap.size + 1 := by rw [hw1]; simp
  have Hw1 := Lib.hid hw1
  have hl0 : 0 < l.length := by omega
  have hlz : L - 1 < l.length := by omega
  obtain ⟨b, off, rfl, c0, c1⟩ := cells_rt (h.below hbel) 0 hl0
  obtain ⟨b', off', hab, d0, d1⟩ := cells_rt (h.below hbel) (L - 1) hlz
  clear d1
  simp only [Option.some.injEq, Addr.mk.injEq, and_true] at hab
  obtain ⟨rfl, rfl⟩ := hab
  simp only [Nat.zero_mul, Nat.add_zero] at c0 c1
  have hfl : fl l = com l[0].1 l[L - 1].1 := by
    unfold fl
    rw [List.getLast?_eq_getElem?, hL, List.getElem?_eq_getElem hlz]
    cases l with
    | nil => simp at hl0
    | cons a l => rfl
  have hhd : hdP l = l[0] := by
    cases l with
    | nil => simp at hl0
    | cons a l => rfl
  have s0 := hs _ (List.getElem_mem hl0)
  have sz := hs _ (List.getElem_mem hlz)
  have hm0 := List.getElem_mem hl0
  have hgw := grw_two n l (by omega)
  rw [hhd] at hgw
  obtain ⟨y0, hy0⟩ : ∃ y, y = l[0] := ⟨_, rfl⟩
  obtain ⟨yz, hyz⟩ : ∃ y, y = l[L - 1] := ⟨_, rfl⟩
  rw [← hy0] at c0 c1 hfl s0 hgw hm0 hhd
  rw [← hyz] at d0 hfl sz
  obtain ⟨P1, P2⟩ := y0
  obtain ⟨Z1, Z2⟩ := yz
  dsimp only at c0 c1 d0 hfl s0 sz hgw
  have k0 := fun u : Ext w1 => u.cell c0
  have kz := fun u : Ext w1 => u.cell d0
  have v1 := run_bytes_of P1
  have vz := run_bytes_of Z1
  have hLi : IntKind.i64.wrap ((L - 1 : Nat) : Int) = ((L - 1 : Nat) : Int) := IntWalk.i64_in _ (by omega)
  have hLn : ((L : Int) - 1) = ((L - 1 : Nat) : Int) := by omega
  have hL0 : 0 < L := by omega
  have hL1 : L - 1 < L := by omega
  have hL2 : ((L - 1 : Nat) : Int) < (L : Int) := by omega
  have e0 : ((L : Int) == 0) = false := by rw [beq_eq_false_iff_ne]; omega
  have e1 : ((L : Int) == 1) = false := by rw [beq_eq_false_iff_ne]; omega
  obtain ⟨Zi, hZi⟩ : ∃ Z, Z = L - 1 := ⟨_, rfl⟩
  rw [← hZi] at hLi hLn hL1 hL2
  simp only [← hZi] at kz
  clear hZi
  have O1 := Lib.hid (fun u (hu : w.heap.size + 1 ≤ u.heap.size) => bytes_own P1 (by omega) (w.heap.size + 1) u hu)
  have Oz := Lib.hid (fun u (hu : w.heap.size + 1 ≤ u.heap.size) => bytes_own Z1 (by omega) (w.heap.size + 1) u hu)
  have CC := Lib.hid (fun (u : World) (a1 a2 : Option Addr) (c1 c2 : Nat) (g1 : Bytes u (.slice a1 P1.length c1) P1) (g2 : Bytes u (.slice a2 Z1.length c2) Z1) => (ncommon_any P1 Z1 a1 a2 c1 c2 u g1 g2).mono (fun (e : Ending) (w' : World) (q : e = .returned (.int .i64 (com P1 Z1)) ∧ ∃ m, w' = u.drewN m) => (show e = .returned (.int .i64 ((fl l : Nat) : Int)) ∧ Below u.heap.size u w' from ⟨by rw [hfl]; exact q.1, by obtain ⟨m, hm⟩ := q.2; rw [hm]; exact below_drewN (Below.refl _ _) m⟩)))
  have Hz := Lib.hid hz
  have Hfl := Lib.hid hfl
  rw [if_neg (by omega)] at hgw
  change grw (n + 1) l = .mk 3 [] (if P1 = [] then P2 else []) ((List.range 16).map fun i => grw n (shorterP 1 (partP i (if P1 = [] then l.tail else l)))) at hgw
  have hbd : bodyP l = if P1 = [] then l.tail else l := by unfold bodyP; rw [hhd]
  rw [← hbd] at hgw
  rw [hgw]
  have hrow := h.below hbel
  obtain ⟨BD, hBD⟩ : ∃ x, x = bodyP l := ⟨_, rfl⟩
  rw [← hBD] at hbd hb hok ⊢
  obtain ⟨VV0, hVV⟩ : ∃ x, x = if P1 = [] then P2 else [] := ⟨_, rfl⟩
  rw [← hVV]
  have Hvv := Lib.hid hVV
  have hBs : Sml BD := by
    intro r hr
    rw [hbd] at hr
    split at hr
    · exact hs r (List.mem_of_mem_tail hr)
    · exact hs r hr
  have hBl : BD.length ≤ L := by rw [hbd]; split; simp; omega; omega
  have csh := fun (i : Nat) (u : World) (a' : Option Addr) (m c' : Nat) (hm : (partP i BD).length = m) (hu : RowOf rcells 2 u (.slice a' m c') (partP i BD)) => shorter_any a' m c' (partP i BD) hm 1 (fun r hr => by
    have := hb r (List.mem_filter.1 hr).1
    exact List.length_pos_iff.2 this) (by have := partP_len i BD; omega) (by omega) u hu
  have cgr := fun (i : Nat) (hi : i < 16) (u : World) (a' : Option Addr) (m c' : Nat) (hm : (partP i BD).length = m) (hu : RowOf rcells 2 u (.slice a' m c') (shorterP 1 (partP i BD))) => ih (shorterP 1 (partP i BD)) a' m c' u (by unfold shorterP; rw [List.length_map, hm]) (by have := partP_len i BD; omega) (fun r hr => by
    unfold shorterP at hr
    obtain ⟨s, hs', rfl⟩ := List.mem_map.1 hr
    have := hBs s (List.mem_filter.1 hs').1
    exact ⟨by simp only [List.length_drop]; omega, this.2⟩) (hok i hi) hu
  simp only [hc] at CC
  have v2 := run_bytes_of P2
  have O2 := Lib.hid (fun u B (hu : B ≤ u.heap.size) => bytes_own P2 (by omega) B u hu)
  have Csh := Lib.hid csh
  have Cgr := Lib.hid cgr
  have Hrow := Lib.hid hrow
  have Hb := Lib.hid hb
  have HBl := Lib.hid hBl
  have Hbd := Lib.hid hbd
  have HL := Lib.hid hL
  have hr1 := RowOf.from elRt hrow 1 (by omega) 1 rfl
  clear hw1 d0 hfl s0 sz hgw hm0 hhd hy0 hyz hs h hok ih csh cgr hrow hz hBD hBs hVV Hfl hl0 hlz hbd hb hBl hc hL
  go_enter Try.func56, Try.ntmps56
  go_wp2_with fail
  rw [show w.alloc (.cells #[.int .i64 0, .slice none 0 0, .slice none 0 0, .slice none 0 0] 25) = w1 from by rw [Hw1.out]; rfl]
  refine wp_region_typed w1 14 (by kernel_rfl) (by kernel_rfl) (Below.refl _ _) ?_; simp only [List.take_succ_cons, List.take_zero, List.take_nil]
  iterate 4 (refine wpX_step (by rfl) (fun K hK => ?_); go_simp; first | (refine hK _ ?_; clear hK K) | (apply Exists.intro; refine ⟨fun _ => ?_, hK _ ?_⟩; fail; clear hK K))
  refine wpX_rel 31 (TxO (w.heap.size + 1) P1) rfl (of_decide_eq_true rfl) (TxO.mono _ _) (fun w6 hw6 => ?_) ?_
  · simp only [relOf, List.filter_nil, forallRel]
    refine ⟨rfl, ?_⟩
    go_simp
    exact ⟨(O1.out _ (by have := hw6.size; omega)).2, (O1.out _ (by have := hw6.size; omega)).1⟩
  iterate 7 (refine wpX_step (by rfl) (fun K hK => ?_); go_simp; first | (refine hK _ ?_; clear hK K) | (apply Exists.intro; refine ⟨fun _ => ?_, hK _ ?_⟩; fail; clear hK K))
  refine wpX_rel 39 (TxO (w.heap.size + 1) Z1) rfl (of_decide_eq_true rfl) (TxO.mono _ _) (fun w6 hw6 => ?_) ?_
  · change forallRel w6 [] _ _
    simp only [forallRel]
    refine ⟨rfl, ?_⟩
    go_simp
    exact ⟨(Oz.out _ (by have := hw6.size; omega)).2, (Oz.out _ (by have := hw6.size; omega)).1⟩
  refine wpX_eq (.int .i64 0) (fun w6 hw6 => ?_) ?_
  · change forallRel w6 [(39, _), (31, _)] _ _
    rintro v39 ⟨h39, _⟩ v31 ⟨h31, _⟩
    obtain ⟨a39, c39, rfl, _, _⟩ := h39.form
    obtain ⟨a31, c31, rfl, _, _⟩ := h31.form
    simp only [forallRel]
    refine ⟨rfl, ?_⟩
    go_simp
    exact (CC.out w6 _ _ _ _ h31 h39).mono fun e w' q => ⟨_, q.1, rfl, q.2⟩
  refine wpX_nil ?_
  intro u2 hb2 v31 _ v39 _
  change wpList _ _ _ [_] _ _
  simp only [Act.put, List.setIfInBounds_toArray, List.set_cons_zero, List.set_cons_succ]
  have bb2 := Below.then hbel hb2
  have hz2 := Hz.out.kept hb2
  have hsz2 := hb2.size
  have q0 : u2.cell? ⟨b, off, none⟩ = some (.string ⟨P1.toArray⟩) := by rw [hb2.cell (World.block_lt_of_cell? w1 _ c0)]; exact c0
  have q1 : u2.cell? ⟨b, off + 1, none⟩ = some (.string ⟨P2.toArray⟩) := by rw [hb2.cell (World.block_lt_of_cell? w1 _ c1)]; exact c1
  have hrow2 := Hrow.out.below hb2
  have hbu : w.heap.size + 1 ≤ u2.heap.size := by omega
  clear k0 kz v1 vz c0 c1
  by_cases hP : P1 = []
  · subst hP
    have hv : P2 = VV0 := by rw [Hvv.out, if_pos rfl]
    subst hv
    have hBD : BD = l.tail := by rw [Hbd.out, if_pos rfl]
    have Hbd2 := Lib.hid hBD
    clear Hbd
    have hd1 : l.drop 1 = l.tail := by cases l <;> rfl
    rw [hd1, ← hBD] at hr1
    obtain ⟨a69, c69, run69, hr69⟩ := hr1
    have hr692 := hr69.below hb2
    have row69 : ∀ k, (Value.slice a69 (L - 1) c69).ownBlock = some k → k < u2.heap.size := fun k e => by
      obtain ⟨b9, o9, h9, hc9⟩ := RowOf.cells (f := rcells) (size := 2) (fun _ => rfl) hr692 0 (by have := hr692.fits.1; omega)
      subst h9
      cases e
      exact World.block_lt_of_cell? u2 _ (hc9 0 _ rfl)
    clear hd1 hBD hr69
    go_wp2_with (first
      | (refine wpList_makeNd (o := ⟨some 56, _, _, _, _, _⟩) (by rfl) (.const (.int .i64 16)) (.const (.int .i64 16)) (by rfl) (by rfl) (by rfl) bb2 (by omega) ?_; intro w3 hR3 bb3 b3; have bA : Below w.heap.size w (w3.alloc (.cells #[.int .i64 0, .slice none 0 0, .slice none 0 0, .slice none 0 0] 25)) := bb3.alloc (by have := bb3.size; omega) _)
        | ((with_reducible show wpList _ _ _ (⟨none, Op.store _ _ (Operand.tmp 57), _, _, _, _⟩ :: _) _ _); refine wpList_storeA (o := ⟨none, _, _, _, _, _⟩) (by rfl) 25 (.tmp 4) (.tmp 57) (by rfl) w3.heap.size [.int .i64 3, .slice none 0 0, .slice none 0 0, .slice (some ⟨u2.heap.size, 0, none⟩) 16 16] (by rfl) (by rfl) aggNode (Blk.new w3 25 [.int .i64 0, .slice none 0 0, .slice none 0 0, .slice none 0 0]) (by rfl) (by rfl) (by intro u hu; simp at hu; rcases hu with rfl | rfl | rfl <;> rfl) bA (by have := bb3.size; omega) ?_; intro w4 hF4 bb4 g4; have b34 : Below w3.heap.size w3 w4 := ((Below.refl w3.heap.size w3).alloc (Nat.le_refl _) _).grown g4 (by simp) (fun k hk => by cases hk; exact Nat.le_refl _); have b24 : Below u2.heap.size u2 w4 := b3.trans (b34.mono b3.size); have p0 : w4.cell? ⟨b, off, none⟩ = some (.string ⟨([] : List UInt8).toArray⟩) := (by rw [b24.cell (World.block_lt_of_cell? u2 _ q0)]; exact q0)))
    have b24' := b24
    have FK := FkN.start (w := w) (R := u2.heap.size) (F := w3.heap.size) (u := w4) bb4 ((((hz2.kept b3).alloc _).grown g4 (fun e => by have := hR3.lt; simp at e; omega))) ((hR3.alloc _).grown g4 (fun e => by have := hR3.lt; simp at e; omega)) hF4 hR3.lt (by omega)
    have p1 : w4.cell? ⟨b, off + 1, none⟩ = some (.string ⟨P2.toArray⟩) := by rw [b24.cell (World.block_lt_of_cell? u2 _ q1)]; exact q1
    have hF4l := hF4.lt
    refine wp_region_h (CellIs ⟨b, off + 1, none⟩ (.string ⟨P2.toArray⟩)) (by kernel_rfl) ?_; intro u0 hu0; simp only [List.length_cons, List.length_nil, Nat.reduceAdd, List.replicate_succ, List.replicate_zero]
    have b40 : Below w4.heap.size w4 u0 := by rw [hu0]; exact (Below.refl _ _).drew
    have S0 : CellIs ⟨b, off + 1, none⟩ (.string ⟨P2.toArray⟩) u0 := by show u0.cell? _ = _; rw [b40.cell (World.block_lt_of_cell? w4 _ p1)]; exact p1
    have kk : ∀ u : In (CellIs ⟨b, off + 1, none⟩ (.string ⟨P2.toArray⟩)), u.val.cell? ⟨b, off + 1, none⟩ = some (.string ⟨P2.toArray⟩) := fun u => u.held
    clear hu0
    (refine wpH_take 0 (by rfl) (by kernel_rfl) (by intro _ _ _ h; first | exact h | (cases h.1)) (by intro _ _ _ _ h; first | exact h | (cases h.1)) (by assumption) (fun K hK => ?_); simp only [List.setIfInBounds_toArray, List.set_cons_zero, List.set_cons_succ] at hK; go_simp; first | (refine hK _ ?_; clear hK K) | (apply Exists.intro; refine ⟨fun _ => rfl, hK _ ?_⟩; clear hK K)); (refine wpH_take 1 (by rfl) (by kernel_rfl) (by intro _ _ _ h; first | exact h | (cases h.1)) (by intro _ _ _ _ h; first | exact h | (cases h.1)) (by assumption) (fun K hK => ?_); simp only [List.setIfInBounds_toArray, List.set_cons_zero, List.set_cons_succ] at hK; go_simp; first | (refine hK _ ?_; clear hK K) | (apply Exists.intro; refine ⟨fun _ => rfl, hK _ ?_⟩; clear hK K)); (refine wpH_take 2 (by rfl) (by kernel_rfl) (by intro _ _ _ h; first | exact h | (cases h.1)) (by intro _ _ _ _ h; first | exact h | (cases h.1)) (by assumption) (fun K hK => ?_); simp only [List.setIfInBounds_toArray, List.set_cons_zero, List.set_cons_succ] at hK; go_simp; first | (refine hK _ ?_; clear hK K) | (apply Exists.intro; refine ⟨fun _ => rfl, hK _ ?_⟩; clear hK K)); (refine wpH_take 3 (by rfl) (by kernel_rfl) (by intro _ _ _ h; first | exact h | (cases h.1)) (by intro _ _ _ _ h; first | exact h | (cases h.1)) (by assumption) (fun K hK => ?_); simp only [List.setIfInBounds_toArray, List.set_cons_zero, List.set_cons_succ] at hK; go_simp; first | (refine hK _ ?_; clear hK K) | (apply Exists.intro; refine ⟨fun _ => rfl, hK _ ?_⟩; clear hK K)); (refine wpH_take 5 (by rfl) (by kernel_rfl) (by intro _ _ _ h; first | exact h | (cases h.1)) (by intro _ _ _ _ h; first | exact h | (cases h.1)) (by assumption) (fun K hK => ?_); simp only [List.setIfInBounds_toArray, List.set_cons_zero, List.set_cons_succ] at hK; go_simp; first | (refine hK _ ?_; clear hK K) | (apply Exists.intro; refine ⟨fun _ => rfl, hK _ ?_⟩; clear hK K)); (refine wpH_take 6 (by rfl) (by kernel_rfl) (by intro _ _ _ h; first | exact h | (cases h.1)) (by intro _ _ _ _ h; first | exact h | (cases h.1)) (by assumption) (fun K hK => ?_); simp only [List.setIfInBounds_toArray, List.set_cons_zero, List.set_cons_succ] at hK; go_simp; first | (refine hK _ ?_; clear hK K) | (apply Exists.intro; refine ⟨fun _ => rfl, hK _ ?_⟩; clear hK K))
    have FK0 := FK.kept b40
    obtain ⟨h67, b67⟩ := O2.out u0 (w3.heap.size + 1) (by have := b40.size; omega)
    obtain ⟨u5, hu5⟩ : ∃ x, x = Lib.bytesWorld u0 5 ⟨P2.toArray⟩ := ⟨_, rfl⟩
    obtain ⟨c67, hc67⟩ : ∃ x, x = grownCap u0 P2.length 0 5 := ⟨_, rfl⟩
    have v67 := v2 u0
    rw [← hu5, ← hc67] at v67 h67
    rw [← hu5] at b67
    have FK5 := FK0.kept b67
    have S5 : CellIs ⟨b, off + 1, none⟩ (.string ⟨P2.toArray⟩) u5 := by show u5.cell? _ = _; rw [b67.cell (World.block_lt_of_cell? u0 _ S0)]; exact S0
    clear kk v2 hu5 hc67 p1 q1 p0
    (refine wpH_only 4 (by rfl) (by kernel_rfl) (fun K hK => ?_); simp only [List.setIfInBounds_toArray, List.set_cons_zero, List.set_cons_succ] at hK; go_simp)
    refine hK _ _ S5 ?_; clear hK K
    (refine wpH_take 7 (by rfl) (by kernel_rfl) (by intro _ _ _ h; first | exact h | (cases h.1)) (by intro _ _ _ _ h; first | exact h | (cases h.1)) (by assumption) (fun K hK => ?_); simp only [List.setIfInBounds_toArray, List.set_cons_zero, List.set_cons_succ] at hK; go_simp; first | (refine hK _ ?_; clear hK K) | (apply Exists.intro; refine ⟨fun _ => rfl, hK _ ?_⟩; clear hK K))
    have hc5 := FK5.hF.has 2 (by simp [fcells])
    have hf5 := FK5.hF.free 2
    obtain ⟨y5, hy5⟩ := hc5
    have FKS := FK5.val h67
    have HB0 := (hr692.below (b24.trans ((Below.then b40 b67).mono b24.size))).offV (grown_set (w := u5) (u := u5) (g := w3.heap.size) ⟨rfl, rfl, rfl, Nat.le_refl _, fun _ _ _ => rfl⟩ 2 (.slice (some ⟨u0.heap.size, 0, none⟩) P2.length c67)) (fun k e => by have := row69 k e; have := hR3.lt; omega)
    have S6 : CellIs ⟨b, off + 1, none⟩ (.string ⟨P2.toArray⟩) (u5.setCell ⟨w3.heap.size, 2, none⟩ (.slice (some ⟨u0.heap.size, 0, none⟩) P2.length c67)) := (show (u5.setCell ⟨w3.heap.size, 2, none⟩ (.slice (some ⟨u0.heap.size, 0, none⟩) P2.length c67)).cell? ⟨b, off + 1, none⟩ = some (.string ⟨P2.toArray⟩) from by rw [World.cell?_of_block (w := u5) ((grown_cell 2 _).block b (World.block_lt_of_cell? u5 _ S5) (fun e => by have e2 : w3.heap.size = b := (by cases e; rfl); have : b < u2.heap.size := World.block_lt_of_cell? u2 _ q0; have := hR3.lt; omega))]; exact S5)
    (refine wpH_only 8 (by rfl) (by kernel_rfl) (fun K hK => ?_); simp only [List.setIfInBounds_toArray, List.set_cons_zero, List.set_cons_succ] at hK; go_simp)
    refine hK _ _ S6 ?_; clear hK K
    (refine wpH_take 9 (by rfl) (by kernel_rfl) (by intro _ _ _ h; first | exact h | (cases h.1)) (by intro _ _ _ _ h; first | exact h | (cases h.1)) (by assumption) (fun K hK => ?_); simp only [List.setIfInBounds_toArray, List.set_cons_zero, List.set_cons_succ] at hK; go_simp; first | (refine hK _ ?_; clear hK K) | (apply Exists.intro; refine ⟨fun _ => rfl, hK _ ?_⟩; clear hK K))
    refine wpH_done (by kernel_rfl) ?_
    clear q0 run69 hr692 S0 S5 S6 v67 hy5 hf5
    go_wp2_with fail
    have hNB : BD.length = (L - 1) := by rw [Hbd2.out, List.length_tail, HL.out]
    have HNB := Lib.hid hNB
    have HNBle : (L - 1) ≤ 2000000 := by omega
    clear hNB
    go_loopw [71] (fun ix wr => ∃ (i : Nat) (kids : List Nd), i ≤ 16 ∧ ix = .int .i64 (i : Int) ∧ FkN w u2.heap.size w3.heap.size (.slice (some ⟨u0.heap.size, 0, none⟩) P2.length c67) P2 kids wr ∧ DoneN n BD i kids ∧ RowOf rcells 2 wr (.slice a69 (L - 1) c69) BD) (fun ix _ => 16 - (intOf ix).toNat)
    case atStart => exact ⟨0, List.replicate 16 zN, by omega, rfl, FKS, fun j hj => by omega, HB0⟩
    case round =>
      obtain ⟨i, kids, hii, rfl, FK1, hdn, HB1⟩ := hrel
      obtain ⟨wo, rfl⟩ : ∃ x, x = wr := ⟨wr, rfl⟩
      by_cases hlt : i < 16
      · have hki : (i : Int) < 16 := by omega
        have hkl : i < kids.length := by rw [FK1.hl]; exact hlt
        go_wp2_with fail
        go_loopw [6, 76] (fun pv jx wr => ∃ (j : Nat), j ≤ (L - 1) ∧ jx = .int .i64 (j : Int) ∧ OwnOf rcells 2 80 wr wo.heap.size pv (partP i (BD.take j)) ∧ Below wo.heap.size wo wr) (fun _ jx _ => (L - 1) - (intOf jx).toNat)
        case atStart => exact ⟨0, by omega, rfl, OwnOf.nil _ _ _ _ _, Below.refl _ _⟩
        case round =>
          obtain ⟨j, hjj, rfl, hown, hbq⟩ := hrel
          have hpl0 := partP_len i (BD.take j)
          obtain ⟨av6, ac6, rfl, _⟩ := hown.form
          obtain ⟨M6, hM6⟩ : ∃ m, m = (partP i (BD.take j)).length := ⟨_, rfl⟩
          rw [← hM6] at hown
          simp only [← hM6]
          by_cases hltj : j < (L - 1)
          · have hkj : (j : Int) < (((L - 1) : Nat) : Int) := by omega
            have hjl : j < BD.length := by rw [HNB.out]; exact hltj
            obtain ⟨bj, oj, hab, hr⟩ := RowOf.range (f := rcells) (size := 2) (fun _ => rfl) (HB1.below hbq) j hjl
            subst hab
            have hst := part_step i BD j hjl
            have hne := Hb.out _ (List.getElem_mem hjl)
            obtain ⟨y, hy⟩ : ∃ y, y = BD[j] := ⟨_, rfl⟩
            rw [← hy] at hr hst hne
            obtain ⟨y1, y2⟩ := y
            obtain ⟨x, y1', rfl⟩ : ∃ x q, y1 = x :: q := by cases y1 with | nil => exact absurd rfl hne | cons x q => exact ⟨x, q, rfl⟩
            simp only [List.getElem?_cons_zero, Option.getD_some] at hst
            have hr2 : wr.rangeAt bj (oj + j * 2) [.string ⟨(x :: y1').toArray⟩, .string ⟨y2.toArray⟩] := hr
            have s82 := str_at (P := Try.prog) (t := 9) (by kernel_rfl) (x :: y1') 0 0 rfl x rfl
            obtain ⟨S1, hS1⟩ : ∃ S : ByteArray, S = ⟨(x :: y1').toArray⟩ := ⟨_, rfl⟩
            rw [← hS1] at hr2 s82
            have hwx : IntKind.i64.wrap (x.toNat : Int) = (x.toNat : Int) := IntWalk.i64_in _ (by have := x.toNat_lt; omega)
            have hlo := OwnOf.lt hown
            have n0 : ∀ (g : Nat) (u : World), Blk 80 u g [.string S1, .string ⟨y2.toArray⟩] → u.cell? ⟨g, 0, none⟩ = some (.string S1) := fun g u hb => (hb.cell 0).trans rfl
            have N0 := Lib.hid n0
            have bA : Below wr.heap.size wr (wr.alloc (.cells #[.string ByteArray.empty, .string ByteArray.empty] 80)) := (Below.refl _ _).alloc (Nat.le_refl _) _
            have hbuilt := fun u : World => Row.built (f := rcells) (size := 2) (fun _ => rfl) u 80 [(x :: y1', y2)] 1 rfl (by unfold maxLen; omega)
            have hbuilt2 : ∀ u : World, RowOf rcells 2 (u.alloc (.cells #[.string S1, .string ⟨y2.toArray⟩] 80)) (.slice (some ⟨u.heap.size, 0, none⟩) 1 1) [(x :: y1', y2)] := by rw [hS1]; exact hbuilt
            have Hbuilt := Lib.hid hbuilt2
            have hM7 : M6 ≤ 2000000 := by rw [List.length_take] at hpl0; omega
            have hb1 : ((partP i (BD.take j)).length + [(x :: y1', y2)].length) * 32 ≤ 140737488355328 := by rw [← hM6]; simp only [List.length_singleton]; omega
            have hb2' : (partP i (BD.take j)).length + [(x :: y1', y2)].length ≤ maxLen := by rw [← hM6]; unfold maxLen; simp only [List.length_singleton]; omega
            have Hst := Lib.hid hst
            have Hb1 := Lib.hid hb1
            have Hb2 := Lib.hid hb2'
            have HM6 := Lib.hid hM6
            have Hhr2 := Lib.hid hr2
            by_cases hxi : x.toNat = i
            · have hxe : ((x.toNat : Int) == (i : Int)) = true := by rw [beq_iff_eq]; omega
              rw [if_pos hxi] at hst
              have Hst2 := Lib.hid hst
              clear hst n0 hy hr hne hS1 hpl0 hbuilt hbuilt2 hM6 hb1 hb2' hltj hxi hr2
              go_wp2_with (first
                  | (refine wpList_loadW (o := ⟨some 79, _, _, _, _, _⟩) 80 (.tmp 78) (by rfl) bj (oj + j * 2) (by rfl) aggRoute (by rfl) Hhr2.out (by rfl) ?_)
                  | ((with_reducible show wpList _ _ _ (⟨none, Op.store _ _ (Operand.tmp 79), _, _, _, _⟩ :: _) _ _); refine wpList_storeA (o := ⟨none, _, _, _, _, _⟩) (by rfl) 80 (.tmp 8) (.tmp 79) (by rfl) wr.heap.size [.string S1, .string ⟨y2.toArray⟩] (by rfl) (by rfl) aggRoute (Blk.new wr 80 [.string ByteArray.empty, .string ByteArray.empty]) (by rfl) (by rfl) (by intro u hu; simp at hu; rcases hu with rfl | rfl <;> rfl) bA (Nat.le_refl _) ?_; intro w5 h7 b5 _; have bb5 := Below.then hbq b5; have o5 := hown.kept b5; have i0 := N0.out _ _ h7)
                  | (refine wpList_loadA (o := ⟨some 87, _, _, _, _, _⟩) (by rfl) 80 (.tmp 8) (by rfl) wr.heap.size (by rfl) aggRoute h7 (by rfl) ?_; have bA5 : Below w5.heap.size w5 (w5.alloc (.cells #[.string S1, .string ⟨y2.toArray⟩] 80)) := (Below.refl _ _).alloc (Nat.le_refl _) _; have o6 := o5.kept bA5; have bb6 := Below.then bb5 bA5)
                  | (refine wpList_appA (o := ⟨some 89, _, _, _, _, _⟩) (by rfl) (.tmp 86) (.tmp 88) 76 (by rfl) elRt (by rfl) o6 (by rfl) (Hbuilt.out w5) bb6.size Hb1.out Hb2.out ?_; intro v7 w7 o7 g7 _; have b7 := bb6.grown g7 bb6.size hlo; rw [← Hst2.out] at o7))
              go_roundw
              case rel => exact ⟨j + 1, by omega, by go_num, o7, b7⟩
              case measure => simp [intOf]; omega
            · have hxe : ((x.toNat : Int) == (i : Int)) = false := by rw [beq_eq_false_iff_ne]; omega
              rw [if_neg hxi, List.append_nil] at hst
              have Hst2 := Lib.hid hst
              clear hst n0 hy hr hne hS1 hpl0 hbuilt hbuilt2 hM6 hb1 hb2' hltj hxi hr2
              go_wp2_with (first
                  | (refine wpList_loadW (o := ⟨some 79, _, _, _, _, _⟩) 80 (.tmp 78) (by rfl) bj (oj + j * 2) (by rfl) aggRoute (by rfl) Hhr2.out (by rfl) ?_)
                  | ((with_reducible show wpList _ _ _ (⟨none, Op.store _ _ (Operand.tmp 79), _, _, _, _⟩ :: _) _ _); refine wpList_storeA (o := ⟨none, _, _, _, _, _⟩) (by rfl) 80 (.tmp 8) (.tmp 79) (by rfl) wr.heap.size [.string S1, .string ⟨y2.toArray⟩] (by rfl) (by rfl) aggRoute (Blk.new wr 80 [.string ByteArray.empty, .string ByteArray.empty]) (by rfl) (by rfl) (by intro u hu; simp at hu; rcases hu with rfl | rfl <;> rfl) bA (Nat.le_refl _) ?_; intro w5 h7 b5 _; have bb5 := Below.then hbq b5; have o5 := hown.kept b5; have i0 := N0.out _ _ h7))
              go_roundw
              case rel => exact ⟨j + 1, by omega, by go_num, by rw [Hst2.out]; exact o5, bb5⟩
              case measure => simp [intOf]; omega
          · obtain rfl : (L - 1) = j := by omega
            have htk : BD.take (L - 1) = BD := by rw [← HNB.out, List.take_length]
            rw [htk] at hown hM6
            have hrowp := hown.row
            have FK2 := FK1.kept hbq
            have HB2 := HB1.below hbq
            have j3 := fun u : Ext wr => u.cell ((FK2.hF.cell 3).trans (show _ = some (Value.slice (some ⟨u2.heap.size, 0, none⟩) 16 16) from rfl))
            have Csh2 := Lib.hid (fun u (hu : RowOf rcells 2 u (.slice av6 M6 ac6) (partP i BD)) => Csh.out i u av6 M6 ac6 hM6.symm hu)
            have Cgr2 := Lib.hid (fun u a' c' (hu : RowOf rcells 2 u (.slice a' M6 c') (shorterP 1 (partP i BD))) => Cgr.out i hlt u a' M6 c' hM6.symm hu)
            have hRlt := FK2.hR.lt
            clear htk hM6 hltj hpl0 hown
            go_wp2_with fail
            refine wp_region_typed wr 7 (by kernel_rfl) (by kernel_rfl) (Below.refl _ _) ?_; simp only [List.take_succ_cons, List.take_zero, List.take_nil]
            iterate 4 (refine wpX_step (by rfl) (fun K hK => ?_); go_simp; first | (refine hK _ ?_; clear hK K) | (apply Exists.intro; refine ⟨fun _ => ?_, hK _ ?_⟩; fail; clear hK K))
            refine wpX_rel 95 (RtT' M6 (shorterP 1 (partP i BD))) rfl (of_decide_eq_true rfl) (RtT'.mono _ _) (fun w6 hw6 => ?_) ?_
            · change forallRel w6 [] _ _
              simp only [forallRel]
              refine ⟨rfl, ?_⟩
              go_simp
              refine (Csh2.out w6 (hrowp.below hw6)).mono ?_
              rintro e w7 ⟨a', c', rfl, b7, h7⟩
              exact ⟨_, rfl, ⟨a', c', rfl, h7⟩, b7⟩
            refine wpX_rel 96 (NdT (u2.heap.size + 1) (grw n (shorterP 1 (partP i BD)))) rfl (of_decide_eq_true rfl) (NdT.mono _ _) (fun w6 hw6 => ?_) ?_
            · change forallRel w6 [(95, _)] _ _
              rintro v95 ⟨a', c', rfl, h7⟩
              simp only [forallRel]
              refine ⟨rfl, ?_⟩
              go_simp
              refine (Cgr2.out w6 a' c' h7).mono ?_
              rintro e w7 ⟨t, rfl, ot, et, b7⟩
              exact ⟨_, rfl, ⟨t, rfl, ot.lower (by have := hw6.size; omega), et⟩, b7⟩
            (refine wpX_step (by rfl) (fun K hK => ?_); go_simp; first | (refine hK _ ?_; clear hK K) | (apply Exists.intro; refine ⟨fun _ => ?_, hK _ ?_⟩; fail; clear hK K))
            refine wpX_nil ?_
            intro u3 hb3 v95 _ v96 h96
            change wpList _ _ _ [_] _ _
            simp only [Act.put, List.setIfInBounds_toArray, List.set_cons_zero, List.set_cons_succ]
            obtain ⟨t, rfl, ot, et⟩ := h96
            have FK3 := FK2.kept hb3
            have HB3 := HB2.below hb3
            have hone := ot.is.one
            have hlen := ndcells_len t
            have hsz4 : (ndcells t).toArray.size = 4 := by rw [List.size_toArray, hlen]
            have hth := FK3.there i hlt
            have FK4 := FK3.put i hlt t ot
            have hdn' := hdn.put hkl t et
            have HB4 : RowOf rcells 2 (u3.setCells u2.heap.size (i * 4) (ndcells t)) (.slice a69 (L - 1) c69) BD := HB3.offV (grown_sets (ndcells t) (i * 4) ⟨rfl, rfl, rfl, Nat.le_refl _, fun _ _ _ => rfl⟩) (fun k e => by have := row69 k e; omega)
            clear j3
            go_wp2_with (refine wpList_store_mid (by rfl) 25 (.tmp 97) (.tmp 96) (by rfl) u2.heap.size (i * 4) (ndcells t).toArray (by rfl) (by rfl) (by rw [hsz4]; exact hth) (by rw [hsz4]; kernel_rfl) (all_oneCell_toArray hone) ?_)
            go_roundw
            case rel => exact ⟨i + 1, kids.set i t, by omega, by go_num, FK4, hdn', HB4⟩
            case measure => simp [intOf]; omega
      · obtain rfl : i = 16 := by omega
        have hzq := FK1.hz
        have hFq := FK1.hF
        have hbq := FK1.hb
        have honeF : ∀ u ∈ fcells (.slice (some ⟨u0.heap.size, 0, none⟩) P2.length c67) u2.heap.size, u.oneCell' = true := by intro u hu; simp [fcells, nilV] at hu; rcases hu with rfl | rfl | rfl | rfl <;> rfl
        clear hlt
        go_wp2_with (first
            | (refine wpList_loadA (o := ⟨some 99, _, _, _, _, _⟩) (by rfl) 25 (.tmp 4) (by rfl) w3.heap.size (by rfl) aggNode hFq (by rfl) ?_)
            | ((with_reducible show wpList _ _ _ (⟨none, Op.store _ _ (Operand.tmp 99), _, _, _, _⟩ :: _) _ _); refine wpList_storeA (o := ⟨none, _, _, _, _, _⟩) (by rfl) 25 (.tmp 2) (.tmp 99) (by rfl) w.heap.size (fcells (.slice (some ⟨u0.heap.size, 0, none⟩) P2.length c67) u2.heap.size) (by rfl) (by rfl) aggNode hzq (by rfl) (by rfl) honeF hbq (Nat.le_refl _) ?_; intro w7 h7 b7 g7))
        exact bodyPost_ret (results_blk rfl _ _ w.heap.size aggNode h7 (by rfl) rfl) rfl (FK1.done hdn g7 b7)
  · have hPe : (P1 == []) = false := by rw [beq_eq_false_iff_ne]; exact hP
    have hv : [] = VV0 := by rw [Hvv.out, if_neg hP]
    subst hv
    have hBD : BD = l := by rw [Hbd.out, if_neg hP]
    have Hbd2 := Lib.hid hBD
    clear Hbd
    clear hBD hP
    go_wp2_with (first
      | (refine wpList_makeNd (o := ⟨some 56, _, _, _, _, _⟩) (by rfl) (.const (.int .i64 16)) (.const (.int .i64 16)) (by rfl) (by rfl) (by rfl) bb2 (by omega) ?_; intro w3 hR3 bb3 b3; have bA : Below w.heap.size w (w3.alloc (.cells #[.int .i64 0, .slice none 0 0, .slice none 0 0, .slice none 0 0] 25)) := bb3.alloc (by have := bb3.size; omega) _)
        | ((with_reducible show wpList _ _ _ (⟨none, Op.store _ _ (Operand.tmp 57), _, _, _, _⟩ :: _) _ _); refine wpList_storeA (o := ⟨none, _, _, _, _, _⟩) (by rfl) 25 (.tmp 4) (.tmp 57) (by rfl) w3.heap.size [.int .i64 3, .slice none 0 0, .slice none 0 0, .slice (some ⟨u2.heap.size, 0, none⟩) 16 16] (by rfl) (by rfl) aggNode (Blk.new w3 25 [.int .i64 0, .slice none 0 0, .slice none 0 0, .slice none 0 0]) (by rfl) (by rfl) (by intro u hu; simp at hu; rcases hu with rfl | rfl | rfl <;> rfl) bA (by have := bb3.size; omega) ?_; intro w4 hF4 bb4 g4; have b34 : Below w3.heap.size w3 w4 := ((Below.refl w3.heap.size w3).alloc (Nat.le_refl _) _).grown g4 (by simp) (fun k hk => by cases hk; exact Nat.le_refl _); have b24 : Below u2.heap.size u2 w4 := b3.trans (b34.mono b3.size); have p0 : w4.cell? ⟨b, off, none⟩ = some (.string ⟨P1.toArray⟩) := (by rw [b24.cell (World.block_lt_of_cell? u2 _ q0)]; exact q0)))
    have FK := FkN.start (w := w) (R := u2.heap.size) (F := w3.heap.size) (u := w4) bb4 ((((hz2.kept b3).alloc _).grown g4 (fun e => by have := hR3.lt; simp at e; omega))) ((hR3.alloc _).grown g4 (fun e => by have := hR3.lt; simp at e; omega)) hF4 hR3.lt (by omega)
    have HB0 := hrow2.below b24
    rw [← Hbd2.out] at HB0
    have row69 : ∀ k, (Value.slice (some ⟨b, off, none⟩) L cap).ownBlock = some k → k < u2.heap.size := fun k e => by cases e; exact World.block_lt_of_cell? u2 _ q0
    have hNB : BD.length = L := by rw [Hbd2.out]; exact HL.out
    have HNB := Lib.hid hNB
    have HNBle : L ≤ 2000000 := by omega
    clear hNB
    go_loopw [71] (fun ix wr => ∃ (i : Nat) (kids : List Nd), i ≤ 16 ∧ ix = .int .i64 (i : Int) ∧ FkN w u2.heap.size w3.heap.size nilV [] kids wr ∧ DoneN n BD i kids ∧ RowOf rcells 2 wr (.slice (some ⟨b, off, none⟩) L cap) BD) (fun ix _ => 16 - (intOf ix).toNat)
    case atStart => exact ⟨0, List.replicate 16 zN, by omega, rfl, FK, fun j hj => by omega, HB0⟩
    case round =>
      obtain ⟨i, kids, hii, rfl, FK1, hdn, HB1⟩ := hrel
      obtain ⟨wo, rfl⟩ : ∃ x, x = wr := ⟨wr, rfl⟩
      by_cases hlt : i < 16
      · have hki : (i : Int) < 16 := by omega
        have hkl : i < kids.length := by rw [FK1.hl]; exact hlt
        go_wp2_with fail
        go_loopw [6, 76] (fun pv jx wr => ∃ (j : Nat), j ≤ L ∧ jx = .int .i64 (j : Int) ∧ OwnOf rcells 2 80 wr wo.heap.size pv (partP i (BD.take j)) ∧ Below wo.heap.size wo wr) (fun _ jx _ => L - (intOf jx).toNat)
        case atStart => exact ⟨0, by omega, rfl, OwnOf.nil _ _ _ _ _, Below.refl _ _⟩
        case round =>
          obtain ⟨j, hjj, rfl, hown, hbq⟩ := hrel
          have hpl0 := partP_len i (BD.take j)
          obtain ⟨av6, ac6, rfl, _⟩ := hown.form
          obtain ⟨M6, hM6⟩ : ∃ m, m = (partP i (BD.take j)).length := ⟨_, rfl⟩
          rw [← hM6] at hown
          simp only [← hM6]
          by_cases hltj : j < L
          · have hkj : (j : Int) < ((L : Nat) : Int) := by omega
            have hjl : j < BD.length := by rw [HNB.out]; exact hltj
            obtain ⟨bj, oj, hab, hr⟩ := RowOf.range (f := rcells) (size := 2) (fun _ => rfl) (HB1.below hbq) j hjl
            simp only [Option.some.injEq, Addr.mk.injEq, and_true] at hab
            obtain ⟨rfl, rfl⟩ := hab
            have hst := part_step i BD j hjl
            have hne := Hb.out _ (List.getElem_mem hjl)
            obtain ⟨y, hy⟩ : ∃ y, y = BD[j] := ⟨_, rfl⟩
            rw [← hy] at hr hst hne
            obtain ⟨y1, y2⟩ := y
            obtain ⟨x, y1', rfl⟩ : ∃ x q, y1 = x :: q := by cases y1 with | nil => exact absurd rfl hne | cons x q => exact ⟨x, q, rfl⟩
            simp only [List.getElem?_cons_zero, Option.getD_some] at hst
            have hr2 : wr.rangeAt b (off + j * 2) [.string ⟨(x :: y1').toArray⟩, .string ⟨y2.toArray⟩] := hr
            have s82 := str_at (P := Try.prog) (t := 9) (by kernel_rfl) (x :: y1') 0 0 rfl x rfl
            obtain ⟨S1, hS1⟩ : ∃ S : ByteArray, S = ⟨(x :: y1').toArray⟩ := ⟨_, rfl⟩
            rw [← hS1] at hr2 s82
            have hwx : IntKind.i64.wrap (x.toNat : Int) = (x.toNat : Int) := IntWalk.i64_in _ (by have := x.toNat_lt; omega)
            have hlo := OwnOf.lt hown
            have n0 : ∀ (g : Nat) (u : World), Blk 80 u g [.string S1, .string ⟨y2.toArray⟩] → u.cell? ⟨g, 0, none⟩ = some (.string S1) := fun g u hb => (hb.cell 0).trans rfl
            have N0 := Lib.hid n0
            have bA : Below wr.heap.size wr (wr.alloc (.cells #[.string ByteArray.empty, .string ByteArray.empty] 80)) := (Below.refl _ _).alloc (Nat.le_refl _) _
            have hbuilt := fun u : World => Row.built (f := rcells) (size := 2) (fun _ => rfl) u 80 [(x :: y1', y2)] 1 rfl (by unfold maxLen; omega)
            have hbuilt2 : ∀ u : World, RowOf rcells 2 (u.alloc (.cells #[.string S1, .string ⟨y2.toArray⟩] 80)) (.slice (some ⟨u.heap.size, 0, none⟩) 1 1) [(x :: y1', y2)] := by rw [hS1]; exact hbuilt
            have Hbuilt := Lib.hid hbuilt2
            have hM7 : M6 ≤ 2000000 := by rw [List.length_take] at hpl0; omega
            have hb1 : ((partP i (BD.take j)).length + [(x :: y1', y2)].length) * 32 ≤ 140737488355328 := by rw [← hM6]; simp only [List.length_singleton]; omega
            have hb2' : (partP i (BD.take j)).length + [(x :: y1', y2)].length ≤ maxLen := by rw [← hM6]; unfold maxLen; simp only [List.length_singleton]; omega
            have Hst := Lib.hid hst
            have Hb1 := Lib.hid hb1
            have Hb2 := Lib.hid hb2'
            have HM6 := Lib.hid hM6
            have Hhr2 := Lib.hid hr2
            by_cases hxi : x.toNat = i
            · have hxe : ((x.toNat : Int) == (i : Int)) = true := by rw [beq_iff_eq]; omega
              rw [if_pos hxi] at hst
              have Hst2 := Lib.hid hst
              clear hst n0 hy hr hne hS1 hpl0 hbuilt hbuilt2 hM6 hb1 hb2' hltj hxi hr2
              go_wp2_with (first
                  | (refine wpList_loadW (o := ⟨some 79, _, _, _, _, _⟩) 80 (.tmp 78) (by rfl) b (off + j * 2) (by rfl) aggRoute (by rfl) Hhr2.out (by rfl) ?_)
                  | ((with_reducible show wpList _ _ _ (⟨none, Op.store _ _ (Operand.tmp 79), _, _, _, _⟩ :: _) _ _); refine wpList_storeA (o := ⟨none, _, _, _, _, _⟩) (by rfl) 80 (.tmp 8) (.tmp 79) (by rfl) wr.heap.size [.string S1, .string ⟨y2.toArray⟩] (by rfl) (by rfl) aggRoute (Blk.new wr 80 [.string ByteArray.empty, .string ByteArray.empty]) (by rfl) (by rfl) (by intro u hu; simp at hu; rcases hu with rfl | rfl <;> rfl) bA (Nat.le_refl _) ?_; intro w5 h7 b5 _; have bb5 := Below.then hbq b5; have o5 := hown.kept b5; have i0 := N0.out _ _ h7)
                  | (refine wpList_loadA (o := ⟨some 87, _, _, _, _, _⟩) (by rfl) 80 (.tmp 8) (by rfl) wr.heap.size (by rfl) aggRoute h7 (by rfl) ?_; have bA5 : Below w5.heap.size w5 (w5.alloc (.cells #[.string S1, .string ⟨y2.toArray⟩] 80)) := (Below.refl _ _).alloc (Nat.le_refl _) _; have o6 := o5.kept bA5; have bb6 := Below.then bb5 bA5)
                  | (refine wpList_appA (o := ⟨some 89, _, _, _, _, _⟩) (by rfl) (.tmp 86) (.tmp 88) 76 (by rfl) elRt (by rfl) o6 (by rfl) (Hbuilt.out w5) bb6.size Hb1.out Hb2.out ?_; intro v7 w7 o7 g7 _; have b7 := bb6.grown g7 bb6.size hlo; rw [← Hst2.out] at o7))
              go_roundw
              case rel => exact ⟨j + 1, by omega, by go_num, o7, b7⟩
              case measure => simp [intOf]; omega
            · have hxe : ((x.toNat : Int) == (i : Int)) = false := by rw [beq_eq_false_iff_ne]; omega
              rw [if_neg hxi, List.append_nil] at hst
              have Hst2 := Lib.hid hst
              clear hst n0 hy hr hne hS1 hpl0 hbuilt hbuilt2 hM6 hb1 hb2' hltj hxi hr2
              go_wp2_with (first
                  | (refine wpList_loadW (o := ⟨some 79, _, _, _, _, _⟩) 80 (.tmp 78) (by rfl) b (off + j * 2) (by rfl) aggRoute (by rfl) Hhr2.out (by rfl) ?_)
                  | ((with_reducible show wpList _ _ _ (⟨none, Op.store _ _ (Operand.tmp 79), _, _, _, _⟩ :: _) _ _); refine wpList_storeA (o := ⟨none, _, _, _, _, _⟩) (by rfl) 80 (.tmp 8) (.tmp 79) (by rfl) wr.heap.size [.string S1, .string ⟨y2.toArray⟩] (by rfl) (by rfl) aggRoute (Blk.new wr 80 [.string ByteArray.empty, .string ByteArray.empty]) (by rfl) (by rfl) (by intro u hu; simp at hu; rcases hu with rfl | rfl <;> rfl) bA (Nat.le_refl _) ?_; intro w5 h7 b5 _; have bb5 := Below.then hbq b5; have o5 := hown.kept b5; have i0 := N0.out _ _ h7))
              go_roundw
              case rel => exact ⟨j + 1, by omega, by go_num, by rw [Hst2.out]; exact o5, bb5⟩
              case measure => simp [intOf]; omega
          · obtain rfl : L = j := by omega
            have htk : BD.take L = BD := by rw [← HNB.out, List.take_length]
            rw [htk] at hown hM6
            have hrowp := hown.row
            have FK2 := FK1.kept hbq
            have HB2 := HB1.below hbq
            have j3 := fun u : Ext wr => u.cell ((FK2.hF.cell 3).trans (show _ = some (Value.slice (some ⟨u2.heap.size, 0, none⟩) 16 16) from rfl))
            have Csh2 := Lib.hid (fun u (hu : RowOf rcells 2 u (.slice av6 M6 ac6) (partP i BD)) => Csh.out i u av6 M6 ac6 hM6.symm hu)
            have Cgr2 := Lib.hid (fun u a' c' (hu : RowOf rcells 2 u (.slice a' M6 c') (shorterP 1 (partP i BD))) => Cgr.out i hlt u a' M6 c' hM6.symm hu)
            have hRlt := FK2.hR.lt
            clear htk hM6 hltj hpl0 hown
            go_wp2_with fail
            refine wp_region_typed wr 7 (by kernel_rfl) (by kernel_rfl) (Below.refl _ _) ?_; simp only [List.take_succ_cons, List.take_zero, List.take_nil]
            iterate 4 (refine wpX_step (by rfl) (fun K hK => ?_); go_simp; first | (refine hK _ ?_; clear hK K) | (apply Exists.intro; refine ⟨fun _ => ?_, hK _ ?_⟩; fail; clear hK K))
            refine wpX_rel 95 (RtT' M6 (shorterP 1 (partP i BD))) rfl (of_decide_eq_true rfl) (RtT'.mono _ _) (fun w6 hw6 => ?_) ?_
            · change forallRel w6 [] _ _
              simp only [forallRel]
              refine ⟨rfl, ?_⟩
              go_simp
              refine (Csh2.out w6 (hrowp.below hw6)).mono ?_
              rintro e w7 ⟨a', c', rfl, b7, h7⟩
              exact ⟨_, rfl, ⟨a', c', rfl, h7⟩, b7⟩
            refine wpX_rel 96 (NdT (u2.heap.size + 1) (grw n (shorterP 1 (partP i BD)))) rfl (of_decide_eq_true rfl) (NdT.mono _ _) (fun w6 hw6 => ?_) ?_
            · change forallRel w6 [(95, _)] _ _
              rintro v95 ⟨a', c', rfl, h7⟩
              simp only [forallRel]
              refine ⟨rfl, ?_⟩
              go_simp
              refine (Cgr2.out w6 a' c' h7).mono ?_
              rintro e w7 ⟨t, rfl, ot, et, b7⟩
              exact ⟨_, rfl, ⟨t, rfl, ot.lower (by have := hw6.size; omega), et⟩, b7⟩
            (refine wpX_step (by rfl) (fun K hK => ?_); go_simp; first | (refine hK _ ?_; clear hK K) | (apply Exists.intro; refine ⟨fun _ => ?_, hK _ ?_⟩; fail; clear hK K))
            refine wpX_nil ?_
            intro u3 hb3 v95 _ v96 h96
            change wpList _ _ _ [_] _ _
            simp only [Act.put, List.setIfInBounds_toArray, List.set_cons_zero, List.set_cons_succ]
            obtain ⟨t, rfl, ot, et⟩ := h96
            have FK3 := FK2.kept hb3
            have HB3 := HB2.below hb3
            have hone := ot.is.one
            have hlen := ndcells_len t
            have hsz4 : (ndcells t).toArray.size = 4 := by rw [List.size_toArray, hlen]
            have hth := FK3.there i hlt
            have FK4 := FK3.put i hlt t ot
            have hdn' := hdn.put hkl t et
            have HB4 : RowOf rcells 2 (u3.setCells u2.heap.size (i * 4) (ndcells t)) (.slice (some ⟨b, off, none⟩) L cap) BD := HB3.offV (grown_sets (ndcells t) (i * 4) ⟨rfl, rfl, rfl, Nat.le_refl _, fun _ _ _ => rfl⟩) (fun k e => by have := row69 k e; omega)
            clear j3
            go_wp2_with (refine wpList_store_mid (by rfl) 25 (.tmp 97) (.tmp 96) (by rfl) u2.heap.size (i * 4) (ndcells t).toArray (by rfl) (by rfl) (by rw [hsz4]; exact hth) (by rw [hsz4]; kernel_rfl) (all_oneCell_toArray hone) ?_)
            go_roundw
            case rel => exact ⟨i + 1, kids.set i t, by omega, by go_num, FK4, hdn', HB4⟩
            case measure => simp [intOf]; omega
      · obtain rfl : i = 16 := by omega
        have hzq := FK1.hz
        have hFq := FK1.hF
        have hbq := FK1.hb
        have honeF : ∀ u ∈ fcells nilV u2.heap.size, u.oneCell' = true := by intro u hu; simp [fcells, nilV] at hu; rcases hu with rfl | rfl | rfl | rfl <;> rfl
        clear hlt
        go_wp2_with (first
            | (refine wpList_loadA (o := ⟨some 99, _, _, _, _, _⟩) (by rfl) 25 (.tmp 4) (by rfl) w3.heap.size (by rfl) aggNode hFq (by rfl) ?_)
            | ((with_reducible show wpList _ _ _ (⟨none, Op.store _ _ (Operand.tmp 99), _, _, _, _⟩ :: _) _ _); refine wpList_storeA (o := ⟨none, _, _, _, _, _⟩) (by rfl) 25 (.tmp 2) (.tmp 99) (by rfl) w.heap.size (fcells nilV u2.heap.size) (by rfl) (by rfl) aggNode hzq (by rfl) (by rfl) honeF hbq (Nat.le_refl _) ?_; intro w7 h7 b7 g7))
        exact bodyPost_ret (results_blk rfl _ _ w.heap.size aggNode h7 (by rfl) rfl) rfl (FK1.done hdn g7 b7)
end Go.Proofs.Ytljbbpcnoajfeaa
/- (Grw6) The reference's grown of any list. -/
namespace Go.Proofs.Ytljbbpcnoajfeaa
open Go.RowKit
theorem grown_any : ∀ n, GrwC n
  | 0 => by
    intro l a L cap w hL _ _ hok h
    have hl : l = [] := hok
    subst hl
    subst hL
    exact grown_none 0 a cap w
  | n + 1 => by
    intro l a L cap w hL hLs hs hok h
    match l, hL with
    | [], hL => subst hL; exact grown_none (n + 1) a cap w
    | [r], hL => subst hL; exact grown_one n r a cap w hs h
    | r :: r' :: l', hL =>
      have h2 : 2 ≤ L := by rw [← hL]; simp
      rcases hok with h0 | ⟨h0, h1, h3⟩ | ⟨h0, h1, h3⟩
      · simp at h0
      · exact grown_road n (grown_any n) _ a L cap w hL h2 hLs hs h0 h1 h3 h
      · exact grown_fork n (grown_any n) _ a L cap w hL h2 hLs hs h0 h1 h3 h
end Go.Proofs.Ytljbbpcnoajfeaa
