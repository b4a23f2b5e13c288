/- tree.inner of a right tree. -/
import Derived.Test.YtcgpjceopnfahaaGet1
import Derived.Test.YtcgpjceopnfahaaNodeA
set_option linter.unusedSimpArgs false
set_option linter.unusedVariables false
namespace Go.Proofs.Ytcgpjceopnfahaa
open Go.RowKit
mutual
/-- a right tree's inner node as a value -/
def nv : Nd → Value
  | .mk kd pv _ vv _ _ ks => if kd = 1 then .iface 95 (.agg #[pv, vv]) else if kd = 2 then .iface 98 (.agg #[pv, (nvL ks).headD .nilIface]) else if kd = 3 then .iface 102 (.agg (nvL ks ++ [vv]).toArray) else .nilIface
def nvL : List Nd → List Value
  | [] => []
  | k :: ks => nv k :: nvL ks
end
theorem nvL_map (ks : List Nd) : nvL ks = ks.map nv := by
  induction ks with
  | nil => rfl
  | cons k ks ih => simp [nvL, ih]
theorem nv_shape (t : Nd) : nv t = .nilIface ∨ ∃ ty x, nv t = .iface ty x := by
  obtain ⟨kd, pv, p, vv, v, kv, ks⟩ := t
  unfold nv
  split
  · exact .inr ⟨_, _, rfl⟩
  · split
    · exact .inr ⟨_, _, rfl⟩
    · split
      · exact .inr ⟨_, _, rfl⟩
      · exact .inl rfl
theorem nv_fork {t : Nd} (h : t.kd = 3) : ∃ x, nv t = .iface 102 x := by
  obtain ⟨kd, pv, p, vv, v, kv, ks⟩ := t
  change kd = 3 at h
  subst h
  exact ⟨_, by unfold nv; rfl⟩
def nfill (ks : List Nd) (vv : Value) (i : Nat) : List Value := nvL (ks.take i) ++ (List.replicate (16 - i) .nilIface ++ [vv])
theorem nfill_len (ks : List Nd) (vv : Value) (i : Nat) (hl : ks.length = 16) (hi : i ≤ 16) : (nfill ks vv i).length = 17 := by
  unfold nfill
  rw [nvL_map]
  simp only [List.length_append, List.length_map, List.length_take, List.length_replicate, List.length_singleton]
  omega
theorem nfill_set (ks : List Nd) (vv : Value) (i : Nat) (hl : ks.length = 16) (hi : i < 16) : (nfill ks vv i).set i (nv (ks[i]'(by omega))) = nfill ks vv (i + 1) := by
  unfold nfill
  rw [nvL_map, nvL_map, List.take_succ_eq_append_getElem (by omega), List.map_append]
  have h1 : ((ks.take i).map nv).length = i := by simp; omega
  have h2 : 16 - i = (16 - (i + 1)) + 1 := by omega
  rw [List.set_append_right _ _ (by omega), h1, Nat.sub_self, h2, List.replicate_succ, List.cons_append, List.set_cons_zero]
  simp
theorem aggFork : Agg Try.prog 102 17 := ⟨_, Try.underlying102, rfl, by kernel_rfl⟩
def InC (k : Nd) : Prop := ∀ (d : Nat) (u : World), IsNd u k → rgt d k = true → Calls Try.prog 22 #[.agg (ndcells k).toArray] u fun e w' => e = .returned (nv k) ∧ Below u.heap.size u w'
section
variable (pa va ka : Option Addr) (pn pc vn vc kn kc : Nat) (p v : List UInt8) (ks : List Nd) (w : World)
set_option maxHeartbeats 1000000 in
set_option maxRecDepth 100000 in
theorem inner_leaf : Calls Try.prog 22 #[.agg #[.int .i64 1, .slice pa pn pc, .slice va vn vc, .slice ka kn kc]] w fun e w' => e = .returned (.iface 95 (.agg #[.slice pa pn pc, .slice va vn vc])) ∧ Below w.heap.size w w' := by
  have hz := Blk.new w 25 [.int .i64 1, .slice pa pn pc, .slice va vn vc, .slice ka kn kc]
  have hbel : Below w.heap.size w (w.alloc (.cells #[.int .i64 1, .slice pa pn pc, .slice va vn vc, .slice ka kn kc] 25)) := (Below.refl _ _).alloc (Nat.le_refl _) _
  have k0 := (hz.cell 0).trans (show _ = some (Value.int .i64 1) from rfl)
  have k1 := (hz.cell 1).trans (show _ = some (Value.slice pa pn pc) from rfl)
  have k2 := (hz.cell 2).trans (show _ = some (Value.slice va vn vc) from rfl)
  have hcon : Try.prog.concrete 95 = true := by kernel_rfl
  go_enter Try.func22, Try.ntmps22
  go_wp2_with fail
  go_ret
  exact ⟨rfl, hbel⟩
set_option maxHeartbeats 1000000 in
set_option maxRecDepth 100000 in
theorem inner_none : Calls Try.prog 22 #[.agg #[.int .i64 0, .slice pa pn pc, .slice va vn vc, .slice ka kn kc]] w fun e w' => e = .returned .nilIface ∧ Below w.heap.size w w' := by
  have hz := Blk.new w 25 [.int .i64 0, .slice pa pn pc, .slice va vn vc, .slice ka kn kc]
  have hbel : Below w.heap.size w (w.alloc (.cells #[.int .i64 0, .slice pa pn pc, .slice va vn vc, .slice ka kn kc] 25)) := (Below.refl _ _).alloc (Nat.le_refl _) _
  have k0 := (hz.cell 0).trans (show _ = some (Value.int .i64 0) from rfl)
  go_enter Try.func22, Try.ntmps22
  go_wp2_with fail
  go_ret
  exact ⟨rfl, hbel⟩
set_option maxHeartbeats 1000000 in
set_option maxRecDepth 100000 in
theorem inner_road (k : Nd) (hk3 : k.kd = 3) (d : Nat) (hr : rgt d k = true) (hk : RowOf ndcells 4 w (.slice ka 1 kc) [k]) (hI : IsNd w k) (ih : InC k) :
    Calls Try.prog 22 #[.agg #[.int .i64 2, .slice pa pn pc, .slice va vn vc, .slice ka 1 kc]] w fun e w' => e = .returned (.iface 98 (.agg #[.slice pa pn pc, nv k])) ∧ Below w.heap.size w w' := by
  obtain ⟨w1, hw1⟩ : ∃ w1, w1 = w.alloc (.cells #[.int .i64 2, .slice pa pn pc, .slice va vn vc, .slice ka 1 kc] 25) := ⟨_, rfl⟩
  have hz : Blk 25 w1 w.heap.size [.int .i64 2, .slice pa pn pc, .slice va vn vc, .slice ka 1 kc] := by rw [hw1]; exact Blk.new w _ _
  have hbel : Below w.heap.size w w1 := by rw [hw1]; exact (Below.refl _ _).alloc (Nat.le_refl _) _
  have m0 := (hz.cell 0).trans (show _ = some (Value.int .i64 2) from rfl)
  rw [hw1] at m0
  obtain ⟨b, off, rfl, hrr⟩ := RowOf.range ndcells_len (hk.below hbel) 0 (by simp)
  simp only [List.getElem_cons_zero, Nat.zero_mul, Nat.add_zero] at hrr
  have k1 := fun u : Ext w1 => u.cell ((hz.cell 1).trans (show _ = some (Value.slice pa pn pc) from rfl))
  have k3 := fun u : Ext w1 => u.cell ((hz.cell 3).trans (show _ = some (Value.slice (some ⟨b, off, none⟩) 1 kc) from rfl))
  have c1 := fun (u : Ext w1) => ih d u.val (u.nd (hI.kept hbel)) hr
  have hKl := ndcells_len k
  obtain ⟨x, hx⟩ := nv_fork hk3
  rw [hx] at c1 ⊢
  obtain ⟨K, hK⟩ : ∃ K, K = ndcells k := ⟨_, rfl⟩
  simp only [← hK] at c1 hKl hrr
  have hcon : Try.prog.concrete 98 = true := by kernel_rfl
  have Hw1 := Lib.hid hw1
  have C1 := Lib.hid c1
  have HKl := Lib.hid hKl
  have Hrr := Lib.hid hrr
  clear hw1 c1 hKl hrr hK hx hI ih hk hz
  go_enter Try.func22, Try.ntmps22
  go_wp2_with fail
  rw [← Hw1.out]
  refine wp_region_typed w1 9 (by kernel_rfl) (by kernel_rfl) (Below.refl _ _) ?_; simp only [List.take_succ_cons, List.take_zero, List.take_nil]
  iterate 5 (refine wpX_step (by rfl) (fun K hK => ?_); go_simp; first | (refine hK _ ?_; clear hK K) | (apply Exists.intro; refine ⟨fun _ => ?_, hK _ ?_⟩; fail; clear hK K))
  (refine wpX_step (by rfl) (fun K hK => ?_); rw [if_pos (by rfl)]; refine ⟨_, fun u => const_loadm _ (.tmp 22) (by rfl) _ _ (by rfl) aggNode HKl.out (rangeAt.ext Hrr.out u), hK _ ?_⟩; clear hK K; simp only [Act.put, List.setIfInBounds_toArray, List.set_cons_zero, List.set_cons_succ])
  (refine wpX_step (by rfl) (fun K hK => ?_); go_simp; first | (refine hK _ ?_; clear hK K) | (apply Exists.intro; refine ⟨fun _ => ?_, hK _ ?_⟩; exact C1.out _; clear hK K))
  iterate 2 (refine wpX_step (by rfl) (fun K hK => ?_); go_simp; first | (refine hK _ ?_; clear hK K) | (apply Exists.intro; refine ⟨fun _ => ?_, hK _ ?_⟩; fail; clear hK K))
  refine wpX_nil ?_
  intro u2 hb2
  simp only [List.reverse_nil, forallRel]
  change wpList _ _ _ [_] _ _
  go_wp2_with fail
  go_ret
  exact ⟨rfl, Below.then hbel hb2⟩
set_option maxHeartbeats 2000000 in
set_option maxRecDepth 100000 in
theorem inner_fork (hkn : ks.length = 16) (d : Nat) (hr : ∀ k ∈ ks, rgt d k = true) (hk : RowOf ndcells 4 w (.slice ka 16 kc) ks) (hI : ∀ k ∈ ks, IsNd w k) (ih : ∀ k ∈ ks, InC k) :
    Calls Try.prog 22 #[.agg #[.int .i64 3, .slice pa pn pc, .slice va vn vc, .slice ka 16 kc]] w fun e w' => e = .returned (.iface 102 (.agg (nvL ks ++ [Value.slice va vn vc]).toArray)) ∧ Below w.heap.size w w' := by
  obtain ⟨w1, hw1⟩ : ∃ w1, w1 = w.alloc (.cells #[.int .i64 3, .slice pa pn pc, .slice va vn vc, .slice ka 16 kc] 25) := ⟨_, rfl⟩
  have hz : Blk 25 w1 w.heap.size [.int .i64 3, .slice pa pn pc, .slice va vn vc, .slice ka 16 kc] := by rw [hw1]; exact Blk.new w _ _
  have hbel : Below w.heap.size w w1 := by rw [hw1]; exact (Below.refl _ _).alloc (Nat.le_refl _) _
  have hsz : w1.heap.size = w.heap.size + 1 := by rw [hw1]; simp
  have m0 := (hz.cell 0).trans (show _ = some (Value.int .i64 3) from rfl)
  have m2 := (hz.cell 2).trans (show _ = some (Value.slice va vn vc) from rfl)
  rw [hw1] at m0 m2
  have Hw1 := Lib.hid hw1
  have Hkn := Lib.hid hkn
  have hcon : Try.prog.concrete 102 = true := by kernel_rfl
  have hf0 : nfill ks (Value.slice va vn vc) 0 = List.replicate 16 Value.nilIface ++ [Value.slice va vn vc] := rfl
  clear hw1 hkn
  go_enter Try.func22, Try.ntmps22
  go_wp2_with fail
  rw [← Hw1.out]
  have h4 : Blk 102 (w1.alloc (.cells #[.nilIface, .nilIface, .nilIface, .nilIface, .nilIface, .nilIface, .nilIface, .nilIface, .nilIface, .nilIface, .nilIface, .nilIface, .nilIface, .nilIface, .nilIface, .nilIface, .slice va vn vc] 102)) (w.heap.size + 1) (nfill ks (Value.slice va vn vc) 0) := by
    have := Blk.new w1 102 (nfill ks (Value.slice va vn vc) 0)
    rw [hsz] at this
    exact this
  have bb4 : Below w.heap.size w (w1.alloc (.cells #[.nilIface, .nilIface, .nilIface, .nilIface, .nilIface, .nilIface, .nilIface, .nilIface, .nilIface, .nilIface, .nilIface, .nilIface, .nilIface, .nilIface, .nilIface, .nilIface, .slice va vn vc] 102)) := hbel.alloc hbel.size _
  obtain ⟨B, hB⟩ : ∃ B, B = w.heap.size + 1 := ⟨_, rfl⟩
  have hwB : w.heap.size ≤ B := by omega
  simp only [← hB] at h4 ⊢
  clear m0 m2 hB hf0
  go_loopw [35] (fun ix wr => ∃ i : Nat, i ≤ 16 ∧ ix = .int .i64 (i : Int) ∧ Below w.heap.size w wr ∧ Blk 102 wr B (nfill ks (Value.slice va vn vc) i)) (fun ix _ => 16 - (intOf ix).toNat)
  case atStart => exact ⟨0, by omega, rfl, bb4, h4⟩
  case round =>
    obtain ⟨i, hii, rfl, hbr, hBr⟩ := hrel
    by_cases hlt : i < 16
    · have hki : (i : Int) < 16 := by omega
      have hil : i < ks.length := by rw [Hkn.out]; exact hlt
      obtain ⟨bk, ok, rfl, hrr⟩ := RowOf.range ndcells_len (hk.below hbr) i hil
      have hIs := (hI _ (List.getElem_mem hil)).kept hbr
      have hse := nfill_set ks (Value.slice va vn vc) i Hkn.out hlt
      have hln := nfill_len ks (Value.slice va vn vc) i Hkn.out hii
      have c3 := fun (u : World) (hu : Below wr.heap.size wr u) => ih _ (List.getElem_mem hil) d u (hIs.kept hu) (hr _ (List.getElem_mem hil))
      have hv1 := nv_shape ks[i]
      have hKl := ndcells_len ks[i]
      have hone := hIs.one
      obtain ⟨V, hV⟩ : ∃ V, V = nv ks[i] := ⟨_, rfl⟩
      obtain ⟨K, hK⟩ : ∃ K, K = ndcells ks[i] := ⟨_, rfl⟩
      simp only [← hV] at c3 hse hv1
      simp only [← hK] at c3 hKl hone hrr
      have C3 := Lib.hid c3
      have HKl := Lib.hid hKl
      have Hone := Lib.hid hone
      have Hrr := Lib.hid hrr
      have Hse := Lib.hid hse
      have Hln := Lib.hid hln
      have bA1 : Below wr.heap.size wr (wr.alloc (.cells #[.int .i64 0, .slice none 0 0, .slice none 0 0, .slice none 0 0] 25)) := (Below.refl _ _).alloc (Nat.le_refl _) _
      clear hIs hse hln c3 hKl hone hV hK hrr hlt
      rcases hv1 with rfl | ⟨ty, xx, rfl⟩
      · go_wp2_with (first
          | (refine wpList_loadW (o := ⟨some 39, _, _, _, _, _⟩) 25 (.tmp 38) (by rfl) bk (ok + i * 4) (by rfl) aggNode HKl.out Hrr.out (by rfl) ?_)
          | ((with_reducible show wpList _ _ _ (⟨none, Op.store _ _ (Operand.tmp 39), _, _, _, _⟩ :: _) _ _); refine wpList_storeA (o := ⟨none, _, _, _, _, _⟩) (by rfl) 25 (.tmp 5) (.tmp 39) (by rfl) wr.heap.size K (by rfl) (by rfl) aggNode (Blk.new wr 25 [.int .i64 0, .slice none 0 0, .slice none 0 0, .slice none 0 0]) HKl.out (by rfl) Hone.out bA1 (Nat.le_refl _) ?_; intro w5 h7 b5 _; have bb5 := Below.then hbr b5)
          | (refine wpList_loadA (o := ⟨some 41, _, _, _, _, _⟩) (by rfl) 25 (.tmp 5) (by rfl) wr.heap.size (by rfl) aggNode h7 HKl.out ?_)
          | (go_at_call 22; (with_reducible refine (C3.out _ b5).mono ?_); rintro e w6 ⟨rfl, b6⟩; have bb6 := Below.then bb5 b6; have hB6 := (hBr.kept b5).kept b6; have hf6 := hB6.free i; have hc6 := hB6.has i (by rw [Hln.out]; omega); obtain ⟨y6, hy6⟩ := hc6; have hB7 := hB6.set i .nilIface; rw [Hse.out] at hB7; have bb7 : Below w.heap.size w (w6.setCell ⟨B, i, none⟩ .nilIface) := bb6.setCell (by show w.heap.size ≤ B; exact hwB) _))
        go_roundw
        case rel => exact ⟨i + 1, by omega, by go_num, bb7, hB7⟩
        case measure => simp [intOf]; omega
      · go_wp2_with (first
          | (refine wpList_loadW (o := ⟨some 39, _, _, _, _, _⟩) 25 (.tmp 38) (by rfl) bk (ok + i * 4) (by rfl) aggNode HKl.out Hrr.out (by rfl) ?_)
          | ((with_reducible show wpList _ _ _ (⟨none, Op.store _ _ (Operand.tmp 39), _, _, _, _⟩ :: _) _ _); refine wpList_storeA (o := ⟨none, _, _, _, _, _⟩) (by rfl) 25 (.tmp 5) (.tmp 39) (by rfl) wr.heap.size K (by rfl) (by rfl) aggNode (Blk.new wr 25 [.int .i64 0, .slice none 0 0, .slice none 0 0, .slice none 0 0]) HKl.out (by rfl) Hone.out bA1 (Nat.le_refl _) ?_; intro w5 h7 b5 _; have bb5 := Below.then hbr b5)
          | (refine wpList_loadA (o := ⟨some 41, _, _, _, _, _⟩) (by rfl) 25 (.tmp 5) (by rfl) wr.heap.size (by rfl) aggNode h7 HKl.out ?_)
          | (go_at_call 22; (with_reducible refine (C3.out _ b5).mono ?_); rintro e w6 ⟨rfl, b6⟩; have bb6 := Below.then bb5 b6; have hB6 := (hBr.kept b5).kept b6; have hf6 := hB6.free i; have hc6 := hB6.has i (by rw [Hln.out]; omega); obtain ⟨y6, hy6⟩ := hc6; have hB7 := hB6.set i (.iface ty xx); rw [Hse.out] at hB7; have bb7 : Below w.heap.size w (w6.setCell ⟨B, i, none⟩ (.iface ty xx)) := bb6.setCell (by show w.heap.size ≤ B; exact hwB) _))
        go_roundw
        case rel => exact ⟨i + 1, by omega, by go_num, bb7, hB7⟩
        case measure => simp [intOf]; omega
    · obtain rfl : i = 16 := by omega
      have hf16 : nfill ks (Value.slice va vn vc) 16 = nvL ks ++ [Value.slice va vn vc] := by
        unfold nfill
        rw [← Hkn.out, List.take_length]; simp
      have hln := nfill_len ks (Value.slice va vn vc) 16 Hkn.out (Nat.le_refl _)
      rw [hf16] at hBr hln
      clear hf16 hlt
      go_wp2_with (refine wpList_loadA (o := ⟨some 46, _, _, _, _, _⟩) (by rfl) 102 (.tmp 3) (by rfl) B (by rfl) aggFork hBr hln ?_)
      go_ret
      exact ⟨rfl, hbr⟩
end
end Go.Proofs.Ytcgpjceopnfahaa
