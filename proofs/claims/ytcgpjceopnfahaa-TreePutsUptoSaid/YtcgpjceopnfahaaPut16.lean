/- tree.show. -/
import Derived.Test.YtcgpjceopnfahaaPut15
import Derived.Handy
set_option linter.unusedSimpArgs false
set_option linter.unusedVariables false
namespace Go.Proofs.Ytcgpjceopnfahaa
open Go.RowKit
set_option maxHeartbeats 2000000 in
set_option maxRecDepth 100000 in
theorem show_none (w : World) : Calls Try.prog 20 #[.nilIface] w (GrwPost nP w) := by
  have hz := Blk.new w 25 (ndcells zN)
  have hbel : Below w.heap.size w (w.alloc (.cells (ndcells zN).toArray 25)) := (Below.refl _ _).alloc (Nat.le_refl _) _
  have hfin : ∀ u, Below w.heap.size w u → GrwPost nP w (.returned (.agg (ndcells zN).toArray)) u := fun u hu => ⟨zN, rfl, OwnNd.zero _ _, rfl, hu⟩
  have Hfin := Lib.hid hfin
  clear hfin
  go_enter Try.func20, Try.ntmps20
  go_wp2_with ((with_reducible show wpList _ _ _ (⟨none, Op.store _ _ (Operand.tmp 5), _, _, _, _⟩ :: _) _ _); refine wpList_storeA (o := ⟨none, _, _, _, _, _⟩) (by rfl) 25 (.tmp 2) (.tmp 5) (by rfl) w.heap.size (ndcells zN) (by rfl) (by rfl) aggNode hz (by rfl) (by rfl) (by intro u hu; simp [zcells] at hu; rcases hu with rfl | rfl <;> rfl) hbel (Nat.le_refl _) ?_; intro w2 h2 b2 _)
  exact bodyPost_ret (results_blk rfl _ _ w.heap.size aggNode h2 rfl rfl) rfl (Hfin.out _ b2)
set_option maxHeartbeats 2000000 in
set_option maxRecDepth 100000 in
theorem show_leaf (X : Value) (T : Pn) (w : World) (hc : ∀ u, Below w.heap.size w u → Calls Try.prog 139 #[X] u (GrwPost T u)) : Calls Try.prog 20 #[.iface 95 X] w (GrwPost T w) := by
  have hz : Blk 25 (w.alloc (.cells #[.int .i64 0, .slice none 0 0, .slice none 0 0, .slice none 0 0] 25)) w.heap.size (ndcells zN) := Blk.new w 25 (ndcells zN)
  have hbel : Below w.heap.size w (w.alloc (.cells #[.int .i64 0, .slice none 0 0, .slice none 0 0, .slice none 0 0] 25)) := (Below.refl _ _).alloc (Nat.le_refl _) _
  have hcc := hc _ hbel
  have Hc := Lib.hid hcc
  clear hc hcc
  go_enter Try.func20, Try.ntmps20
  go_wp2_with (first
    | (go_at_call 139; (with_reducible refine Hc.out.mono ?_); rintro e w3 ⟨t, rfl, ot, et, b3⟩; have hz3 := hz.kept b3; have b3' := Below.then hbel b3; have hone := ot.is.one; have hlen := ndcells_len t)
    | ((with_reducible show wpList _ _ _ (⟨none, Op.store _ _ (Operand.tmp 7), _, _, _, _⟩ :: _) _ _); refine wpList_storeA (o := ⟨none, _, _, _, _, _⟩) (by rfl) 25 (.tmp 2) (.tmp 7) (by rfl) w.heap.size (ndcells t) (by rfl) (by rfl) aggNode hz3 hlen (by rfl) hone b3' (Nat.le_refl _) ?_; intro w4 h4 b4 g4))
  have hs : w.heap.size < (w.alloc (.cells #[.int .i64 0, .slice none 0 0, .slice none 0 0, .slice none 0 0] 25)).heap.size := by simp
  exact bodyPost_ret (results_blk rfl _ _ w.heap.size aggNode h4 hlen rfl) rfl ⟨t, rfl, (ot.off g4 hs).lower (by omega), et, b4⟩
set_option maxHeartbeats 2000000 in
set_option maxRecDepth 100000 in
theorem show_road (X : Value) (T : Pn) (w : World) (hc : ∀ u, Below w.heap.size w u → Calls Try.prog 140 #[X] u (GrwPost T u)) : Calls Try.prog 20 #[.iface 98 X] w (GrwPost T w) := by
  have hz : Blk 25 (w.alloc (.cells #[.int .i64 0, .slice none 0 0, .slice none 0 0, .slice none 0 0] 25)) w.heap.size (ndcells zN) := Blk.new w 25 (ndcells zN)
  have hbel : Below w.heap.size w (w.alloc (.cells #[.int .i64 0, .slice none 0 0, .slice none 0 0, .slice none 0 0] 25)) := (Below.refl _ _).alloc (Nat.le_refl _) _
  have hcc := hc _ hbel
  have Hc := Lib.hid hcc
  clear hc hcc
  go_enter Try.func20, Try.ntmps20
  go_wp2_with (first
    | (go_at_call 140; (with_reducible refine Hc.out.mono ?_); rintro e w3 ⟨t, rfl, ot, et, b3⟩; have hz3 := hz.kept b3; have b3' := Below.then hbel b3; have hone := ot.is.one; have hlen := ndcells_len t)
    | ((with_reducible show wpList _ _ _ (⟨none, Op.store _ _ (Operand.tmp 7), _, _, _, _⟩ :: _) _ _); refine wpList_storeA (o := ⟨none, _, _, _, _, _⟩) (by rfl) 25 (.tmp 2) (.tmp 7) (by rfl) w.heap.size (ndcells t) (by rfl) (by rfl) aggNode hz3 hlen (by rfl) hone b3' (Nat.le_refl _) ?_; intro w4 h4 b4 g4))
  have hs : w.heap.size < (w.alloc (.cells #[.int .i64 0, .slice none 0 0, .slice none 0 0, .slice none 0 0] 25)).heap.size := by simp
  exact bodyPost_ret (results_blk rfl _ _ w.heap.size aggNode h4 hlen rfl) rfl ⟨t, rfl, (ot.off g4 hs).lower (by omega), et, b4⟩
set_option maxHeartbeats 2000000 in
set_option maxRecDepth 100000 in
theorem show_fork (X : Value) (T : Pn) (w : World) (hc : ∀ u, Below w.heap.size w u → Calls Try.prog 141 #[X] u (GrwPost T u)) : Calls Try.prog 20 #[.iface 102 X] w (GrwPost T w) := by
  have hz : Blk 25 (w.alloc (.cells #[.int .i64 0, .slice none 0 0, .slice none 0 0, .slice none 0 0] 25)) w.heap.size (ndcells zN) := Blk.new w 25 (ndcells zN)
  have hbel : Below w.heap.size w (w.alloc (.cells #[.int .i64 0, .slice none 0 0, .slice none 0 0, .slice none 0 0] 25)) := (Below.refl _ _).alloc (Nat.le_refl _) _
  have hcc := hc _ hbel
  have Hc := Lib.hid hcc
  clear hc hcc
  go_enter Try.func20, Try.ntmps20
  go_wp2_with (first
    | (go_at_call 141; (with_reducible refine Hc.out.mono ?_); rintro e w3 ⟨t, rfl, ot, et, b3⟩; have hz3 := hz.kept b3; have b3' := Below.then hbel b3; have hone := ot.is.one; have hlen := ndcells_len t)
    | ((with_reducible show wpList _ _ _ (⟨none, Op.store _ _ (Operand.tmp 7), _, _, _, _⟩ :: _) _ _); refine wpList_storeA (o := ⟨none, _, _, _, _, _⟩) (by rfl) 25 (.tmp 2) (.tmp 7) (by rfl) w.heap.size (ndcells t) (by rfl) (by rfl) aggNode hz3 hlen (by rfl) hone b3' (Nat.le_refl _) ?_; intro w4 h4 b4 g4))
  have hs : w.heap.size < (w.alloc (.cells #[.int .i64 0, .slice none 0 0, .slice none 0 0, .slice none 0 0] 25)).heap.size := by simp
  exact bodyPost_ret (results_blk rfl _ _ w.heap.size aggNode h4 hlen rfl) rfl ⟨t, rfl, (ot.off g4 hs).lower (by omega), et, b4⟩
theorem sml_pre {p : List UInt8} {l : List Rt} (h : Sml (pre p l)) : Sml l := fun r hr => by
  have := h _ (mem_pre (p := p) hr)
  simp only [List.length_append] at this
  exact ⟨by omega, this.2⟩
theorem PlC.leaf {pv : Value} {p : List UInt8} {vv : Value} {v : List UInt8} {kv : Value} {ks : List Nd} : PlC (.mk 1 pv p vv v kv ks) := fun X w h _ => by
  have h2 : Value.iface 95 _ = Value.iface 102 X := h
  injection h2 with h1 _
  exact absurd h1 (by decide)
theorem PlC.road {pv : Value} {p : List UInt8} {vv : Value} {v : List UInt8} {kv : Value} {k : Nd} : PlC (.mk 2 pv p vv v kv [k]) := fun X w h _ => by
  have h2 : Value.iface 98 _ = Value.iface 102 X := h
  injection h2 with h1 _
  exact absurd h1 (by decide)
set_option maxRecDepth 100000 in
theorem show_all : ∀ (n : Nat) (t : Nd), SizeOf.sizeOf t ≤ n → ∀ l, Grows l (clN t) → Sml l → ShC t ∧ PlC t
  | 0, .mk kd pv p vv v kv ks, h => by simp at h
  | n + 1, .mk kd pv p vv v kv ks, h => by
    intro l hg hB
    have hks : ∀ k ∈ ks, ∀ l, Grows l (clN k) → Sml l → ShC k ∧ PlC k := by
      intro k hk
      refine show_all n k ?_
      have := List.sizeOf_lt_of_mem hk
      simp only [Nd.mk.sizeOf_spec] at h
      omega
    have hforkc : ∀ w, IsNv w (.mk 3 pv p vv v kv ks) → kd = 3 → ∃ va vn vc, vv = .slice va vn vc ∧ Calls Try.prog 141 #[.agg (nvL ks ++ [Value.slice va vn vc]).toArray] w (GrwPost (.mk 3 [] v (clNL ks)) w) := by
      intro w hI h3
      subst h3
      generalize hT : (Nd.mk 3 pv p vv v kv ks) = T at hI
      cases hI with
      | none => cases hT
      | leaf => cases hT
      | road => cases hT
      | fork pv p vv v kv ks hv hl hk =>
        cases hT
        obtain ⟨ua, uc, rfl, _, _⟩ := hv.form
        rw [show clN (.mk 3 pv p (.slice ua v.length uc) v kv ks) = .mk 3 [] v (clNL ks) from rfl] at hg
        have hkk : (v.length ≤ 1000000000) ∧ ∀ (i : Nat) (k : Nd), ks[i]? = some k → ∃ l', Grows l' (clN k) ∧ Sml l' := by
          generalize hT : (Pn.mk 3 [] v (clNL ks)) = T at hg
          cases hg with
          | none => cases hT
          | leaf => cases hT
          | road => cases hT
          | fork v2 ls ks2 hl2 hk2 h2 hm =>
            cases hT
            refine ⟨?_, fun i k hi => ?_⟩
            · by_cases h0 : v = []
              · rw [h0]; simp
              · exact (hB ([], v) (List.mem_append_left _ (by rw [if_neg h0]; exact List.mem_singleton.2 rfl))).2
            · have hi16 : i < 16 := by have := (List.getElem?_eq_some_iff.1 hi).1; omega
              have h1 : ls[i]? = some (ls[i]'(by omega)) := List.getElem?_eq_getElem _
              refine ⟨ls[i]'(by omega), h2 i _ _ h1 (by rw [clNL_map, List.getElem?_map, hi]; rfl), fun r hr => ?_⟩
              have := hB _ (List.mem_append_right _ (mem_cat (i := 0) h1 hr))
              simp only [List.length_cons] at this
              exact ⟨by omega, this.2⟩
        refine ⟨ua, _, uc, rfl, plain_fork ua _ uc v hkk.1 ks hl (fun k hk2 => ?_) w hv hk⟩
        obtain ⟨i, hi⟩ := List.getElem?_of_mem hk2
        obtain ⟨l', h1, h2⟩ := hkk.2 i k hi
        exact (hks k hk2 l' h1 h2).1
    refine ⟨fun w hI => ?_, ?_⟩
    · cases hI with
      | none pv p vv v kv ks => exact show_none w
      | leaf pv p vv v kv ks hp hv =>
        obtain ⟨pa, pc, rfl, _, _⟩ := hp.form
        obtain ⟨ua, uc, rfl, _, _⟩ := hv.form
        rw [show clN (.mk 1 (.slice pa p.length pc) p (.slice ua v.length uc) v kv ks) = .mk 1 p v [] from rfl] at hg ⊢
        have hb : p.length ≤ 2000000 ∧ v.length ≤ 1000000000 := by
          generalize hT : (Pn.mk 1 p v []) = T at hg
          cases hg with
          | none => cases hT
          | leaf p2 v2 hv2 hp2 => cases hT; exact hB (p, v) (List.mem_singleton.2 rfl)
          | road => cases hT
          | fork => cases hT
        exact show_leaf _ _ w (fun u hu => plain_leaf pa ua _ pc _ uc p v (by omega) (by omega) u (hp.below hu) (hv.below hu))
      | road pv p vv v kv k hp hk3 hk =>
        obtain ⟨pa, pc, rfl, _, _⟩ := hp.form
        rw [show clN (.mk 2 (.slice pa p.length pc) p vv v kv [k]) = .mk 2 p [] [clN k] from rfl] at hg ⊢
        have hpl : p.length ≤ 2000000 := grows_path hg 2000000 (fun r hr => (hB r hr).1)
        obtain ⟨l', rfl, hgk⟩ : ∃ l', l = pre p l' ∧ Grows l' (clN k) := by
          generalize hT : (Pn.mk 2 p [] [clN k]) = T at hg
          cases hg with
          | none => cases hT
          | leaf => cases hT
          | road p2 l2 k2 hp0 hn h2 hk2 => cases hT; exact ⟨l2, rfl, h2⟩
          | fork => cases hT
        have hsk := (hks k (List.mem_singleton.2 rfl) l' hgk (sml_pre hB)).2
        exact show_road _ _ w (fun u hu => plain_road pa _ pc p (by omega) k hk3 hsk u (hp.below hu) (hk.kept hu))
      | fork pv p vv v kv ks hv hl hk =>
        obtain ⟨ua, uc, rfl, _, _⟩ := hv.form
        refine show_fork _ _ w (fun u hu => ?_)
        obtain ⟨a, n', c, e, hc⟩ := hforkc u (.fork pv p _ v kv ks (hv.below hu) hl (fun k hk2 => (hk k hk2).kept hu)) rfl
        cases e
        exact hc
    · intro X w hX hI
      cases hI with
      | none pv p vv v kv ks => exact absurd hX (by unfold nv; simp)
      | leaf pv p vv v kv ks hp hv => exact PlC.leaf X w hX (.leaf _ _ _ _ _ _ hp hv)
      | road pv p vv v kv k hp hk3 hk => exact PlC.road X w hX (.road _ _ _ _ _ _ hp hk3 hk)
      | fork pv p vv v kv ks hv hl hk =>
        obtain ⟨a, n', c, e, hc⟩ := hforkc w (.fork pv p _ v kv ks hv hl hk) rfl
        subst e
        rw [show nv (.mk 3 pv p (.slice a n' c) v kv ks) = .iface 102 (.agg (nvL ks ++ [Value.slice a n' c]).toArray) from rfl] at hX
        exact (Value.iface.inj hX).2 ▸ hc
end Go.Proofs.Ytcgpjceopnfahaa
