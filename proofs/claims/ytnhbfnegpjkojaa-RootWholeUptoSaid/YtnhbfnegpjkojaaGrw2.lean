/- The reference's grown: nothing, one route, a road. -/
import Derived.Test.YtnhbfnegpjkojaaGrw1
set_option linter.unusedSimpArgs false
set_option linter.unusedVariables false
namespace Go.Proofs.Ytnhbfnegpjkojaa
open Go.RowKit
theorem below_drewN {B : Nat} {a w : World} (h : Below B a w) (n : Nat) : Below B a (w.drewN n) := h.trans ⟨rfl, rfl, rfl, Nat.le_refl _, fun _ _ => rfl⟩
def GrwPost (x : Pn) (w : World) (e : Ending) (w' : World) : Prop := ∃ t : Nd, e = .returned (.agg (ndcells t).toArray) ∧ OwnNd w' w.heap.size t ∧ erN t = x ∧ Below w.heap.size w w'
def Sml (l : List Rt) : Prop := ∀ r ∈ l, r.1.length ≤ 2000000 ∧ r.2.length ≤ 1000000000
def GrwC (n : Nat) : Prop := ∀ (l : List Rt) (a : Option Addr) (L cap : Nat) (w : World), l.length = L → L ≤ 2000000 → Sml l → OkR n l → RowOf rcells 2 w (.slice a L cap) l → Calls Try.prog 117 #[.slice a L cap] w (GrwPost (grw n l) w)
theorem cells_rt {w : World} {a : Option Addr} {L cap : Nat} {l : List Rt} (h : RowOf rcells 2 w (.slice a L cap) l) (k : Nat) (hk : k < l.length) : ∃ b off, a = some ⟨b, off, none⟩ ∧ w.cell? ⟨b, off + k * 2, none⟩ = some (.string ⟨l[k].1.toArray⟩) ∧ w.cell? ⟨b, off + k * 2 + 1, none⟩ = some (.string ⟨l[k].2.toArray⟩) := by
  obtain ⟨b, off, ha, hc⟩ := RowOf.cells (f := rcells) (size := 2) (fun _ => rfl) h k hk
  exact ⟨b, off, ha, by simpa using hc 0 _ rfl, by simpa [Nat.add_assoc] using hc 1 _ rfl⟩
theorem zcells : ndcells zN = [.int .i64 0, .slice none 0 0, .slice none 0 0, .slice none 0 0] := rfl
set_option maxHeartbeats 2000000 in
set_option maxRecDepth 100000 in
theorem grown_none (n : Nat) (a : Option Addr) (cap : Nat) (w : World) : Calls Try.prog 117 #[.slice a 0 cap] w (GrwPost (grw n []) w) := by
  have hz := Blk.new w 25 (ndcells zN)
  have hbel : Below w.heap.size w (w.alloc (.cells (ndcells zN).toArray 25)) := (Below.refl _ _).alloc (Nat.le_refl _) _
  have hfin : ∀ u, Below w.heap.size w u → GrwPost (grw n []) w (.returned (.agg (ndcells zN).toArray)) u := fun u hu => ⟨zN, rfl, OwnNd.zero _ _, by rw [grw_nil]; rfl, hu⟩
  have Hfin := Lib.hid hfin
  clear hfin
  go_enter Try.func117, Try.ntmps117
  go_wp2_with ((with_reducible show wpList _ _ _ (⟨none, Op.store _ _ (Operand.tmp 12), _, _, _, _⟩ :: _) _ _); refine wpList_storeA (o := ⟨none, _, _, _, _, _⟩) (by rfl) 25 (.tmp 2) (.tmp 12) (by rfl) w.heap.size (ndcells zN) (by rfl) (by rfl) aggNode hz (by rfl) (by rfl) (by intro u hu; simp [zcells] at hu; rcases hu with rfl | rfl <;> rfl) hbel (Nat.le_refl _) ?_; intro w2 h2 b2 _)
  exact bodyPost_ret (results_blk rfl _ _ w.heap.size aggNode h2 rfl rfl) rfl (Hfin.out _ b2)
set_option maxHeartbeats 2000000 in
set_option maxRecDepth 100000 in
theorem grown_one (n : Nat) (r : Rt) (a : Option Addr) (cap : Nat) (w : World) (hs : Sml [r]) (h : RowOf rcells 2 w (.slice a 1 cap) [r]) : Calls Try.prog 117 #[.slice a 1 cap] w (GrwPost (grw (n + 1) [r]) w) := by
  obtain ⟨w1, hw1⟩ : ∃ w1, w1 = w.alloc (.cells (ndcells zN).toArray 25) := ⟨_, rfl⟩
  have hz : Blk 25 w1 w.heap.size (ndcells zN) := by rw [hw1]; exact Blk.new w _ _
  have hbel : Below w.heap.size w w1 := by rw [hw1]; exact (Below.refl _ _).alloc (Nat.le_refl _) _
  have hsz : w1.heap.size = w.heap.size + 1 := by rw [hw1]; simp
  have Hw1 := Lib.hid hw1
  obtain ⟨b, off, rfl, c0, c1⟩ := cells_rt (h.below hbel) 0 (by simp)
  simp only [List.getElem_cons_zero, Nat.zero_mul, Nat.add_zero] at c0 c1
  obtain ⟨r1, r2⟩ := r
  obtain ⟨hs1, hs2⟩ := hs _ (List.mem_singleton.2 rfl)
  dsimp only at c0 c1 hs1 hs2
  have k0 := fun u : Ext w1 => u.cell c0
  have k1 := fun u : Ext w1 => u.cell c1
  have v1 := run_bytes_of r1
  have v2 := run_bytes_of r2
  have O1 := Lib.hid (fun u (hu : w.heap.size + 1 ≤ u.heap.size) => bytes_own r1 (by omega) (w.heap.size + 1) u hu)
  have O2 := Lib.hid (fun u (hu : w.heap.size + 1 ≤ u.heap.size) => bytes_own r2 (by omega) (w.heap.size + 1) u hu)
  have Hz := Lib.hid hz
  have hgr : grw (n + 1) [(r1, r2)] = .mk 1 r1 r2 [] := rfl
  rw [hgr]
  clear hw1 c0 c1 hs1 hs2 hs h hz hgr
  go_enter Try.func117, Try.ntmps117
  go_wp2_with fail
  rw [show w.alloc (.cells #[.int .i64 0, .slice none 0 0, .slice none 0 0, .slice none 0 0] 25) = w1 from by rw [Hw1.out]; rfl]
  refine wp_region_typed w1 11 (by kernel_rfl) (by kernel_rfl) (Below.refl _ _) ?_; simp only [List.take_succ_cons, List.take_zero, List.take_nil]
  iterate 4 (refine wpX_step (by rfl) (fun K hK => ?_); go_simp; first | (refine hK _ ?_; clear hK K) | (apply Exists.intro; refine ⟨fun _ => ?_, hK _ ?_⟩; fail; clear hK K))
  refine wpX_rel 20 (TxO (w.heap.size + 1) r1) rfl (of_decide_eq_true rfl) (TxO.mono _ _) (fun w6 hw6 => ?_) ?_
  · simp only [relOf, List.filter_nil, forallRel]
    refine ⟨rfl, ?_⟩
    go_simp
    exact ⟨(O1.out _ (by have := hw6.size; omega)).2, (O1.out _ (by have := hw6.size; omega)).1⟩
  iterate 4 (refine wpX_step (by rfl) (fun K hK => ?_); go_simp; first | (refine hK _ ?_; clear hK K) | (apply Exists.intro; refine ⟨fun _ => ?_, hK _ ?_⟩; fail; clear hK K))
  refine wpX_rel 25 (TxO (w.heap.size + 1) r2) rfl (of_decide_eq_true rfl) (TxO.mono _ _) (fun w6 hw6 => ?_) ?_
  · change forallRel w6 [] _ _
    simp only [forallRel]
    refine ⟨rfl, ?_⟩
    go_simp
    exact ⟨(O2.out _ (by have := hw6.size; omega)).2, (O2.out _ (by have := hw6.size; omega)).1⟩
  refine wpX_rel 26 (NdT (w.heap.size + 1) (.mk 1 r1 r2 [])) rfl (of_decide_eq_true rfl) (NdT.mono _ _) (fun w6 hw6 => ?_) ?_
  · change forallRel w6 [(25, _), (20, _)] _ _
    rintro v25 ⟨h25, o25⟩ v20 ⟨h20, o20⟩
    obtain ⟨a25, c25, rfl, _, _⟩ := h25.form
    obtain ⟨a20, c20, rfl, _, _⟩ := h20.form
    simp only [forallRel]
    refine ⟨rfl, ?_⟩
    go_simp
    exact ⟨Below.refl _ _, .mk 1 _ r1 _ r2 (.slice none 0 0) [], rfl, .mk 1 _ r1 _ r2 (.slice none 0 0) [] h20 o20 h25 o25 (RowOf.nil ndcells 4 _) (by intro k e; cases e) (by simp), rfl⟩
  refine wpX_nil ?_
  intro u2 hb2 v20 _ v25 _ v26 h26
  change wpList _ _ _ [_] _ _
  simp only [Act.put, List.setIfInBounds_toArray, List.set_cons_zero, List.set_cons_succ]
  obtain ⟨t, rfl, ot, et⟩ := h26
  have bb2 := Below.then hbel hb2
  have hz2 := Hz.out.kept hb2
  have hone := ot.is.one
  have hlen := ndcells_len t
  clear k0 k1 v1 v2
  go_wp2_with ((with_reducible show wpList _ _ _ (⟨none, Op.store _ _ (Operand.tmp 26), _, _, _, _⟩ :: _) _ _); refine wpList_storeA (o := ⟨none, _, _, _, _, _⟩) (by rfl) 25 (.tmp 2) (.tmp 26) (by rfl) w.heap.size (ndcells t) (by rfl) (by rfl) aggNode hz2 hlen (by rfl) hone bb2 (Nat.le_refl _) ?_; intro w3 h3 b3 g3)
  exact bodyPost_ret (results_blk rfl _ _ w.heap.size aggNode h3 hlen rfl) rfl ⟨t, rfl, (ot.off g3 (Nat.lt_succ_self _)).lower (Nat.le_succ _), et, b3⟩
end Go.Proofs.Ytnhbfnegpjkojaa
