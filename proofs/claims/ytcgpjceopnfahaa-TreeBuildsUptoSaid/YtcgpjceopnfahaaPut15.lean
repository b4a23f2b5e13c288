/- tree's show: forks. -/
import Derived.Test.YtcgpjceopnfahaaPut14
set_option linter.unusedSimpArgs false
set_option linter.unusedVariables false
namespace Go.Proofs.Ytcgpjceopnfahaa
open Go.RowKit
theorem blk_same {e e' : TypeId} {w : World} {g : Nat} {cs cs' : List Value} (h : Blk e w g cs) (h' : Blk e' w g cs') : cs = cs' := by
  unfold Blk at h h'
  have e := Option.some.inj (h.symm.trans h')
  injection e with e1 _
  simpa using congrArg Array.toList e1
theorem nd_no8 {w : World} {k : Nd} (h : IsNd w k) : ∀ u ∈ ndcells k, ∀ x, u ≠ .int .u8 x := by
  obtain ⟨kd, pv, p, vv, v, kv, ks⟩ := k
  obtain ⟨hp, hv, hk, _⟩ := h.inv
  obtain ⟨a1, c1, rfl, _, _⟩ := hp.form
  obtain ⟨a2, c2, rfl, _, _⟩ := hv.form
  obtain ⟨a3, c3, rfl, _, _⟩ := hk.form
  intro u hu x
  simp only [ndcells, List.mem_cons, List.not_mem_nil, or_false] at hu
  rcases hu with rfl | rfl | rfl | rfl <;> simp
theorem nds_no8 {w : World} {ks : List Nd} (h : ∀ k ∈ ks, IsNd w k) : ∀ u ∈ ks.flatMap ndcells, ∀ x, u ≠ .int .u8 x := by
  intro u hu
  obtain ⟨k, hk, hu⟩ := List.mem_flatMap.1 hu
  exact nd_no8 (h k hk) u hu
structure FpN (w : World) (R F : Nat) (vv : Value) (v : List UInt8) (kids : List Nd) (u : World) : Prop where
  hb : Below w.heap.size w u
  hz : Blk 25 u (w.heap.size + 1) (ndcells zN)
  hR : Blk 25 u R (kids.flatMap ndcells)
  hF : Blk 25 u F (fcells vv R)
  hv : TxO (w.heap.size + 2) v vv u
  hk : ∀ k ∈ kids, OwnNd u (R + 1) k
  hl : kids.length = 16
  hlR : w.heap.size + 2 ≤ R
  hlF : w.heap.size + 2 ≤ F
theorem FpN.ne {w : World} {R F : Nat} {vv : Value} {v : List UInt8} {kids : List Nd} {u : World} (h : FpN w R F vv v kids u) : R ≠ F := by
  rintro rfl
  have := congrArg List.length (blk_same h.hR h.hF)
  rw [flat_nd, h.hl] at this
  simp [fcells] at this
theorem FpN.kept {w : World} {R F : Nat} {vv : Value} {v : List UInt8} {kids : List Nd} {u u' : World} (h : FpN w R F vv v kids u) (hb : Below u.heap.size u u') : FpN w R F vv v kids u' :=
  ⟨Below.then h.hb hb, h.hz.kept hb, h.hR.kept hb, h.hF.kept hb, ⟨h.hv.1.below hb, h.hv.2⟩, fun k hk => (h.hk k hk).kept hb, h.hl, h.hlR, h.hlF⟩
theorem FpN.row {w : World} {R F : Nat} {vv : Value} {v : List UInt8} {kids : List Nd} {u : World} (h : FpN w R F vv v kids u) : RowOf ndcells 4 u (.slice (some ⟨R, 0, none⟩) 16 16) kids :=
  Blk.row h.hR kids 16 16 ndcells_len h.hl (fun _ _ e => e) (Nat.le_refl _) (by unfold maxLen; omega)
theorem FpN.there {w : World} {R F : Nat} {vv : Value} {v : List UInt8} {kids : List Nd} {u : World} (h : FpN w R F vv v kids u) (i : Nat) (hi : i < 16) : u.there R (i * 4) 4 := fun j hj => by
  refine ⟨?_, h.hR.free _⟩
  rw [h.hR.cell, List.getElem?_eq_getElem (by rw [flat_nd, h.hl]; omega)]
  rfl
theorem FpN.put {w : World} {R F : Nat} {vv : Value} {v : List UInt8} {kids : List Nd} {u : World} (h : FpN w R F vv v kids u) (i : Nat) (hi : i < 16) (t : Nd) (ht : OwnNd u (R + 1) t) : FpN w R F vv v (kids.set i t) (u.setCells R (i * 4) (ndcells t)) := by
  have hg : u.grownBy (u.setCells R (i * 4) (ndcells t)) (some R) := grown_sets (ndcells t) (i * 4) ⟨rfl, rfl, rfl, Nat.le_refl _, fun _ _ _ => rfl⟩
  have hlR := h.hlR
  have hne := h.ne
  have hR := h.hR.sets (ndcells t) (i * 4)
  rw [sets_nd kids i (by rw [h.hl]; exact hi) t] at hR
  have hno := nds_no8 (fun k hk => (h.hk k hk).is)
  refine ⟨h.hb.grown hg h.hb.size (fun k e => by cases e; omega), h.hz.grown hg (fun e => by simp at e; omega), hR, h.hF.grown hg (fun e => by simp at e; omega), ⟨Bytes.off_v h.hv.1 h.hR hno hg, h.hv.2⟩, fun k hk => ?_, by rw [List.length_set]; exact h.hl, hlR, h.hlF⟩
  rcases List.mem_or_eq_of_mem_set hk with hk | rfl
  · exact (h.hk k hk).off hg (Nat.lt_succ_self _)
  · exact ht.off hg (Nat.lt_succ_self _)
/-- what is handed back -/
theorem FpN.done {w : World} {R F : Nat} {vv : Value} {v : List UInt8} {kids : List Nd} {u u' : World} (h : FpN w R F vv v kids u) (hg : u.grownBy u' (some (w.heap.size + 1))) (hb : Below w.heap.size w u') :
    GrwPost (.mk 3 [] v (kids.map erN)) w (.returned (.agg (fcells vv R).toArray)) u' := by
  have hlR := h.hlR
  refine ⟨.mk 3 (.slice none 0 0) [] vv v (.slice (some ⟨R, 0, none⟩) 16 16) kids, rfl, ?_, ?_, hb⟩
  · refine .mk 3 _ [] vv v _ kids (RowOf.nil b8 1 _) (by intro k e; cases e) (h.hv.1.offV hg (fun k e => by have := h.hv.2 k e; omega)) (fun k e => by have := h.hv.2 k e; omega) (h.row.offV hg (fun k e => by have e2 : R = k := (by cases e; rfl); omega)) (fun k e => by have e2 : R = k := (by cases e; rfl); omega) (fun k hk => ?_)
    exact ((h.hk k hk).off hg (by omega)).lower (by omega)
  · simp only [erN, erNL_map]
/-- the row of kids, made -/
def RwT (B : Nat) : Ty := fun v w => ∃ R, v = .slice (some ⟨R, 0, none⟩) 16 16 ∧ Blk 25 w R ((List.replicate 16 zN).flatMap ndcells) ∧ B ≤ R
theorem RwT.mono (B : Nat) : Mono (RwT B) := fun _ _ _ ⟨R, h, h2, h3⟩ hb => ⟨R, h, h2.kept hb, h3⟩
def FcT (B : Nat) (v : List UInt8) : Ty := fun x w => ∃ vv R, x = .agg (fcells vv R).toArray ∧ TxO B v vv w ∧ (∃ a n c, vv = .slice a n c) ∧ Blk 25 w R ((List.replicate 16 zN).flatMap ndcells) ∧ B ≤ R
theorem FcT.mono (B : Nat) (v : List UInt8) : Mono (FcT B v) := fun _ _ _ ⟨vv, R, h, h2, h3, h4, h5⟩ hb => ⟨vv, R, h, TxO.mono _ _ _ _ _ h2 hb, h3, h4.kept hb, h5⟩
def PtrN (e : TypeId) (cs : List Value) (B : Nat) : Ty := fun v w => ∃ g, v = .pointer (some ⟨g, 0, none⟩) ∧ Blk e w g cs ∧ B ≤ g
theorem PtrN.mono (e : TypeId) (cs : List Value) (B : Nat) : Mono (PtrN e cs B) := fun _ _ _ ⟨g, h1, h2, h3⟩ hb => ⟨g, h1, h2.kept hb, h3⟩
theorem make_nds (w : World) : ∃ w', (Instr.makeSlice 23 (.int .i64 16) (.int .i64 16)).run Try.prog w = .ok (.slice (some ⟨w.heap.size, 0, none⟩) 16 16) w' ∧ Blk 25 w' w.heap.size ((List.replicate 16 zN).flatMap ndcells) ∧ Below w.heap.size w w' := by
  obtain ⟨i, hi, hz, hsi, hby⟩ := elNode.info
  obtain ⟨w', h1, h2, h3⟩ := run_make_full (P := Try.prog) w w.heap.size 23 25 i _ 4 elNode.ht hi hz hsi .i64 .i64 16 (by rw [hby]; omega) (by unfold maxLen; omega) (Nat.le_refl _)
  refine ⟨w', h1, ?_, (Below.refl _ _).grown h3 (Nat.le_refl _) (fun k hk => by cases hk)⟩
  have hcs : (madeCells (Value.agg #[.int .i64 0, .slice none 0 0, .slice none 0 0, .slice none 0 0]).cells (16 * 4)).toList = (List.replicate 16 zN).flatMap ndcells := by
    unfold madeCells
    rw [Array.toList_map, Array.toList_range]
    rfl
  rw [← hcs]
  rcases h2.2 with ⟨h', _⟩ | ⟨g', cap', cur, h', _, hgg, _, _, hcs', htake⟩
  · simp at h'
  · simp only [Value.slice.injEq, Option.some.injEq, Addr.mk.injEq, and_true, true_and] at h'
    obtain ⟨rfl, rfl⟩ := h'
    have : cur.toList = (madeCells (Value.agg #[.int .i64 0, .slice none 0 0, .slice none 0 0, .slice none 0 0]).cells (16 * 4)).toList := by
      rw [← htake]; exact (List.take_of_length_le (by simp [hcs'])).symm
    unfold Blk; rw [← this]; simpa using hgg
/-- the contract of show -/
def ShC (k : Nd) : Prop := ∀ w : World, IsNv w k → Calls Try.prog 20 #[nv k] w (GrwPost (clN k) w)
set_option maxHeartbeats 4000000 in
set_option maxRecDepth 100000 in
theorem plain_fork (va : Option Addr) (vn vc : Nat) (v : List UInt8) (hvn : vn ≤ 1000000000) (ks : List Nd) (hks : ks.length = 16) (ih : ∀ k ∈ ks, ShC k) (w : World) (hv : Bytes w (.slice va vn vc) v) (hk : ∀ k ∈ ks, IsNv w k) :
    Calls Try.prog 141 #[.agg (nvL ks ++ [Value.slice va vn vc]).toArray] w (GrwPost (.mk 3 [] v (clNL ks)) w) := by
  obtain ⟨FC, hFC⟩ : ∃ FC, FC = nvL ks ++ [Value.slice va vn vc] := ⟨_, rfl⟩
  have hNl : (nvL ks).length = 16 := by rw [nvL_map]; simp [hks]
  have hat : ∀ i (hi : i < 16), (nvL ks)[i]? = some (nv (ks[i]'(by omega))) := by
    intro i hi
    rw [nvL_map, List.getElem?_map, List.getElem?_eq_getElem (by omega)]; rfl
  have h16 : FC[16]? = some (.slice va vn vc) := by rw [hFC, List.getElem?_append_right (by omega), hNl]; rfl
  have hpre : ∀ (j : Nat) v, (nvL ks)[j]? = some v → FC[j]? = some v := by
    intro j v h
    rw [hFC, List.getElem?_append_left (List.getElem?_eq_some_iff.1 h).1]; exact h
  obtain ⟨w1, hw1⟩ : ∃ w1, w1 = (w.alloc (.cells FC.toArray 102)).alloc (.cells (ndcells zN).toArray 25) := ⟨_, rfl⟩
  have hz0 : Blk 102 w1 w.heap.size FC := by rw [hw1]; exact (Blk.new w _ _).alloc _
  have hz : Blk 25 w1 (w.heap.size + 1) (ndcells zN) := by
    have := Blk.new (w.alloc (.cells FC.toArray 102)) 25 (ndcells zN)
    simp only [World.size_alloc] at this
    rw [hw1]; exact this
  have hbel : Below w.heap.size w w1 := by rw [hw1]; exact ((Below.refl _ _).alloc (Nat.le_refl _) _).alloc (by simp) _
  have hsz : w1.heap.size = w.heap.size + 2 := by rw [hw1]; simp
  have k1 := fun u : Ext w1 => u.cell ((hz0.cell 16).trans h16)
  have r16 : w1.rangeAt w.heap.size 0 (nvL ks) := fun j v hv => by rw [Nat.zero_add, hz0.cell]; exact hpre j v hv
  have O1 := Lib.hid (fun (u : World) (hu : Below w.heap.size w u) (h2 : w.heap.size + 2 ≤ u.heap.size) => own_txo va vn vc v hvn (w.heap.size + 2) u h2 (hv.below hu))
  obtain ⟨KC, hKC⟩ : ∃ KC, KC = nvL ks := ⟨_, rfl⟩
  rw [← hFC]
  rw [← hKC] at r16 hNl
  have Hat : Hid (∀ i < 16, KC[i]? = some (nv (ks.getD i nilN))) := Lib.hid (fun i hi => by rw [hKC, hat i hi, List.getD_eq_getElem?_getD, List.getElem?_eq_getElem (by omega)]; rfl)
  have Hks := Lib.hid hks
  have Hmem : Hid (∀ i < 16, ks.getD i nilN ∈ ks) := Lib.hid (fun i hi => by rw [List.getD_eq_getElem?_getD, List.getElem?_eq_getElem (by omega)]; exact List.getElem_mem _)
  have Hsh : Hid (∀ i < 16, ∀ u, Below w.heap.size w u → Calls Try.prog 20 #[nv (ks.getD i nilN)] u (GrwPost (clN (ks.getD i nilN)) u)) := Lib.hid (fun i hi u hu => ih _ (Hmem.out i hi) u ((hk _ (Hmem.out i hi)).kept hu))
  have HNl := Lib.hid hNl
  have Hr16 := Lib.hid r16
  have Hw1 := Lib.hid hw1
  have Hz := Lib.hid hz
  clear hat hpre hw1 hFC hKC hks hv hk ih hNl h16 hz0 hz r16 Hmem
  go_enter Try.func141, Try.ntmps141
  go_wp2_with fail
  rw [show (w.alloc (.cells FC.toArray 102)).alloc (.cells #[.int .i64 0, .slice none 0 0, .slice none 0 0, .slice none 0 0] 25) = w1 from by rw [Hw1.out]; rfl]
  refine wp_region_typed w1 6 (by kernel_rfl) (by kernel_rfl) (Below.refl _ _) ?_; simp only [List.take_succ_cons, List.take_zero, List.take_nil]
  iterate 2 (refine wpX_step (by rfl) (fun K hK => ?_); go_simp; first | (refine hK _ ?_; clear hK K) | (apply Exists.intro; refine ⟨fun _ => ?_, hK _ ?_⟩; fail; clear hK K))
  refine wpX_rel 8 (TxO (w.heap.size + 2) v) rfl (of_decide_eq_true rfl) (TxO.mono _ _) (fun w6 hw6 => ?_) ?_
  · simp only [relOf, List.filter_nil, forallRel]
    refine ⟨rfl, ?_⟩
    go_simp
    exact (O1.out _ (Below.then hbel hw6) (by have := hw6.size; omega)).mono (by rintro e w7 ⟨v, rfl, h, b⟩; exact ⟨_, rfl, h, b⟩)
  refine wpX_rel 9 (RwT (w.heap.size + 2)) rfl (of_decide_eq_true rfl) (RwT.mono _) (fun w6 hw6 => ?_) ?_
  · change forallRel w6 [] _ _
    simp only [forallRel]
    refine ⟨rfl, ?_⟩
    obtain ⟨w7, hrun, hR7, b7⟩ := make_nds w6
    go_simp
    exact ⟨w6.heap.size, rfl, hR7, by have := hw6.size; omega⟩
  refine wpX_rel 10 (FcT (w.heap.size + 2) v) rfl (of_decide_eq_true rfl) (FcT.mono _ _) (fun w6 hw6 => ?_) ?_
  · change forallRel w6 [(9, _), (8, _)] _ _
    rintro v9 ⟨R, rfl, hR9, hlR⟩ v8 ⟨h8, o8⟩
    obtain ⟨a8, c8, rfl, _, _⟩ := h8.form
    simp only [forallRel]
    refine ⟨rfl, ?_⟩
    go_simp
    exact ⟨Below.refl _ _, .slice a8 v.length c8, R, rfl, ⟨h8, o8⟩, ⟨_, _, _, rfl⟩, hR9, hlR⟩
  refine wpX_rel 3 (PtrN 25 (ndcells zN) (w.heap.size + 2)) rfl (of_decide_eq_true rfl) (PtrN.mono _ _ _) (fun w6 hw6 => ?_) ?_
  · show _ ∧ _
    refine ⟨by rfl, ?_⟩
    go_simp
    exact ⟨(Below.refl _ _).alloc (Nat.le_refl _) _, w6.heap.size, rfl, Blk.new w6 25 (ndcells zN), by have := hw6.size; omega⟩
  refine wpX_nil ?_
  intro u2 hb2 v8 _ v9 _ v10 h10 v3 h3
  change wpList _ _ _ [_] _ _
  simp only [Act.put, List.setIfInBounds_toArray, List.set_cons_zero, List.set_cons_succ]
  obtain ⟨vv, R, rfl, hvv, ⟨a8, n8, c8, rfl⟩, hR2, hlR⟩ := h10
  obtain ⟨F, rfl, hF2, hlF⟩ := h3
  have bb2 := Below.then hbel hb2
  have hz2 := Hz.out.kept hb2
  have honeF : ∀ u ∈ fcells (.slice a8 n8 c8) R, u.oneCell' = true := by intro u hu; simp [fcells, nilV] at hu; rcases hu with rfl | rfl | rfl | rfl <;> rfl
  have hrz : ((List.replicate 16 zN).flatMap ndcells).length = 64 := by rw [flat_nd]; rfl
  have hRF : R ≠ F := by
    rintro rfl
    have := congrArg List.length (blk_same hR2 hF2)
    rw [hrz] at this
    simp [ndcells_len] at this
  have hzl : (ndcells zN).length = 4 := rfl
  have r162 : u2.rangeAt w.heap.size 0 KC := rangeAt.ext Hr16.out ⟨u2, hb2⟩
  clear k1
  have hpre : ∀ u, Below u2.heap.size u2 u → u.rangeAt w.heap.size 0 KC := fun u hu => rangeAt.ext r162 ⟨u, hu⟩
  have hlt3 := hF2.lt
  go_wp2_with (first
    | ((with_reducible show wpList _ _ _ (⟨none, Op.store _ _ (Operand.tmp 10), _, _, _, _⟩ :: _) _ _); refine wpList_storeA (o := ⟨none, _, _, _, _, _⟩) (by rfl) 25 (.tmp 3) (.tmp 10) (by rfl) F (fcells (.slice a8 n8 c8) R) (by rfl) (by rfl) aggNode hF2 rfl hzl honeF bb2 (by omega) ?_; intro w3 hF3 bb3 g3; have r163 : w3.rangeAt w.heap.size 0 KC := rangeAt.ext Hr16.out ⟨w3, (hb2.grown g3 hb2.size (fun k hk => by cases hk; omega))⟩)
    | ((with_reducible show wpList _ _ _ (⟨some 12, _, _, _, _, _⟩ :: _) _ _); refine wpList_loadW (o := ⟨some 12, _, _, _, _, _⟩) 100 (.tmp 11) (by rfl) w.heap.size 0 (by rfl) aggKids HNl.out r163 (by rfl) ?_))
  have FP : FpN w R F (.slice a8 n8 c8) v (List.replicate 16 zN) w3 := ⟨bb3, hz2.grown g3 (fun e => by simp at e; omega), hR2.grown g3 (fun e => by simp at e; omega), hF3, ⟨Bytes.off_v hvv.1 hF2 (nd_no8 (OwnNd.zero u2 0).is) g3, hvv.2⟩, fun k hk => by rw [List.eq_of_mem_replicate hk]; exact OwnNd.zero _ _, by simp, hlR, hlF⟩
  clear hpre r162 r163 hR2 hF2 hF3 hz2 g3 hvv bb2 hb2 hrz hzl O1 Hz Hr16 HNl hbel hsz hlt3
  go_loopw [13] (fun ix wr => ∃ (i : Nat) (kids : List Nd), i ≤ 16 ∧ ix = .int .i64 (i : Int) ∧ FpN w R F (.slice a8 n8 c8) v kids wr ∧ ∀ j < i, (kids[j]?).map erN = (ks[j]?).map clN) (fun ix _ => 16 - (intOf ix).toNat)
  case atStart => exact ⟨0, List.replicate 16 zN, by omega, rfl, FP, fun j hj => by omega⟩
  case round =>
    obtain ⟨i, kids, hii, rfl, FK1, hdn⟩ := hrel
    obtain ⟨wo, rfl⟩ : ∃ x, x = wr := ⟨wr, rfl⟩
    by_cases hlt : i < 16
    · have hki : (i : Int) < 16 := by omega
      have hkl : i < kids.length := by rw [FK1.hl]; exact hlt
      have hix := index_node KC i hlt _ (Hat.out i hlt)
      have j3 := fun u : Ext wo => u.cell ((FK1.hF.cell 3).trans (show _ = some (Value.slice (some ⟨R, 0, none⟩) 16 16) from rfl))
      have cs := fun (u : World) (hu : Below wo.heap.size wo u) => Hsh.out i hlt u (Below.then FK1.hb hu)
      have hkd : ks[i]? = some (ks.getD i nilN) := by rw [List.getD_eq_getElem?_getD, List.getElem?_eq_getElem (by have := Hks.out; omega)]; rfl
      obtain ⟨K, hK⟩ : ∃ K, K = ks.getD i nilN := ⟨_, rfl⟩
      rw [← hK] at hix hkd
      simp only [← hK] at cs
      obtain ⟨V, hV⟩ : ∃ V, V = nv K := ⟨_, rfl⟩
      rw [← hV] at hix
      simp only [← hV] at cs
      have Cs := Lib.hid cs
      have Hkd := Lib.hid hkd
      have Hdn := Lib.hid hdn
      have hwi : IntKind.i64.wrap ((i : Int) + 1) = ((i + 1 : Nat) : Int) := by rw [IntWalk.i64_in _ (by omega)]; omega
      have hRlt := FK1.hR.lt
      clear cs hK hV hkd hdn hlt
      go_wp2_with fail
      refine wp_region_typed wo 6 (by kernel_rfl) (by kernel_rfl) (Below.refl _ _) ?_; simp only [List.take_succ_cons, List.take_zero, List.take_nil]
      iterate 4 (refine wpX_step (by rfl) (fun K hK => ?_); go_simp; first | (refine hK _ ?_; clear hK K) | (apply Exists.intro; refine ⟨fun _ => ?_, hK _ ?_⟩; fail; clear hK K))
      refine wpX_rel 21 (NdT (R + 1) (clN K)) rfl (of_decide_eq_true rfl) (NdT.mono _ _) (fun w6 hw6 => ?_) ?_
      · simp only [relOf, List.filter_nil, forallRel]
        refine ⟨rfl, ?_⟩
        go_simp
        refine (Cs.out w6 hw6).mono ?_
        rintro e w7 ⟨t, rfl, ot, et, b7⟩
        exact ⟨_, rfl, ⟨t, rfl, ot.lower (by have := hw6.size; omega), et⟩, b7⟩
      (refine wpX_step (by rfl) (fun K hK => ?_); go_simp; first | (refine hK _ ?_; clear hK K) | (apply Exists.intro; refine ⟨fun _ => ?_, hK _ ?_⟩; fail; clear hK K))
      refine wpX_nil ?_
      intro u3 hb3 v21 h21
      change wpList _ _ _ [_] _ _
      simp only [Act.put, List.setIfInBounds_toArray, List.set_cons_zero, List.set_cons_succ]
      obtain ⟨t, rfl, ot, et⟩ := h21
      have hlt : i < 16 := by omega
      have FK3 := FK1.kept hb3
      have hone := ot.is.one
      have hlen := ndcells_len t
      have hsz4 : (ndcells t).toArray.size = 4 := by rw [List.size_toArray, hlen]
      have hth := FK3.there i hlt
      have FK4 := FK3.put i hlt t ot
      have hdn' : Hid (∀ j < i + 1, ((kids.set i t)[j]?).map erN = (ks[j]?).map clN) := Lib.hid (fun j hj => by
        by_cases e : j = i
        · subst e
          rw [List.getElem?_set_self hkl, Hkd.out]
          simp [et]
        · rw [List.getElem?_set_ne (fun h => e h.symm)]
          exact Hdn.out j (by omega))
      clear j3 hlt
      go_wp2_with (refine wpList_store_mid (by rfl) 25 (.tmp 22) (.tmp 21) (by rfl) R (i * 4) (ndcells t).toArray (by rfl) (by rfl) (by rw [hsz4]; exact hth) (by rw [hsz4]; kernel_rfl) (all_oneCell_toArray hone) ?_)
      go_roundw
      case rel => exact ⟨i + 1, kids.set i t, by omega, by go_num, FK4, hdn'.out⟩
      case measure => simp [intOf]; omega
    · obtain rfl : i = 16 := by omega
      have hzq := FK1.hz
      have hFq := FK1.hF
      have hbq := FK1.hb
      have hkids : kids.map erN = clNL ks := by
        rw [clNL_map]
        apply List.ext_getElem?
        intro j
        by_cases hj : j < 16
        · rw [List.getElem?_map, List.getElem?_map]; exact hdn j hj
        · rw [List.getElem?_eq_none (by rw [List.length_map, FK1.hl]; omega), List.getElem?_eq_none (by rw [List.length_map, Hks.out]; omega)]
      have hfin := fun u' hg hb => FK1.done (u' := u') hg hb
      rw [hkids] at hfin
      have Hfin := Lib.hid hfin
      clear hfin hkids hlt hdn
      go_wp2_with (first
        | (refine wpList_loadA (o := ⟨some 24, _, _, _, _, _⟩) (by rfl) 25 (.tmp 3) (by rfl) F (by rfl) aggNode hFq (by rfl) ?_)
        | ((with_reducible show wpList _ _ _ (⟨none, Op.store _ _ (Operand.tmp 24), _, _, _, _⟩ :: _) _ _); refine wpList_storeA (o := ⟨none, _, _, _, _, _⟩) (by rfl) 25 (.tmp 2) (.tmp 24) (by rfl) (w.heap.size + 1) (fcells (.slice a8 n8 c8) R) (by rfl) (by rfl) aggNode hzq (by rfl) (by rfl) honeF hbq (by omega) ?_; intro w7 h7 b7 g7))
      exact bodyPost_ret (results_blk rfl _ _ (w.heap.size + 1) aggNode h7 (by rfl) rfl) rfl (Hfin.out _ g7 b7)
end Go.Proofs.Ytcgpjceopnfahaa
