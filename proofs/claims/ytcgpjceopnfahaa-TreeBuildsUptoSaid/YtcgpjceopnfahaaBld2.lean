/- tree.Of. -/
import Derived.Test.YtcgpjceopnfahaaBld1
set_option linter.unusedSimpArgs false
set_option linter.unusedVariables false
namespace Go.Proofs.Ytcgpjceopnfahaa
open Go.RowKit
theorem pn_of {ps : List Kvp} {T : Pn} {E : Int} {w : World} (h : bldP ps = (T, E)) (y : Nd) (u : World) (hy : IsNd u y) (he : erN y = T) (hb : Below w.heap.size w u) : PnPost (bldP ps) w (.returned (.tuple #[.agg (ndcells y).toArray, .int .i64 E])) u := by
  rw [h]; exact ⟨y, rfl, hy, he, hb⟩
theorem BytesG (a : Option Addr) (n c : Nat) (l : List UInt8) (w : World) (h : Bytes w (.slice a n c) l) : SlG l (.slice a n c) w := ⟨a, n, c, rfl, h⟩
set_option maxHeartbeats 4000000 in
set_option maxRecDepth 100000 in
theorem of_any (a : Option Addr) (n c : Nat) (ps : List Kvp) (hn : ps.length = n) (hN : n ≤ 1048576) (w : World) (h : RowOf kvc 2 w (.slice a n c) ps) (hk : ∀ p ∈ ps, IsKv w p) :
    Calls Try.prog 10 #[.slice a n c] w (PnPost (bldP ps) w) := by
  obtain ⟨w1, hw1⟩ : ∃ w1, w1 = w.alloc (.cells (ndcells zN).toArray 25) := ⟨_, rfl⟩
  have hz : Blk 25 w1 w.heap.size (ndcells zN) := by rw [hw1]; exact Blk.new w _ _
  have hbel : Below w.heap.size w w1 := by rw [hw1]; exact (Below.refl _ _).alloc (Nat.le_refl _) _
  have hwe : w1 = w.alloc (.cells #[.int .i64 0, .slice none 0 0, .slice none 0 0, .slice none 0 0] 25) := by rw [hw1]; rfl
  have Hwe := Lib.hid hwe
  have hone : ∀ u ∈ ndcells zN, u.oneCell' = true := by intro u hu; simp [zcells] at hu; rcases hu with rfl | rfl <;> rfl
  have hzl : (ndcells zN).length = 4 := rfl
  have hbw : w.heap.size < w1.heap.size := by rw [hw1]; simp
  have Hn := Lib.hid hn
  have H := Lib.hid (h.below hbel)
  have Hk : Hid (∀ p ∈ ps, IsKv w1 p) := Lib.hid (fun p hp => (hk p hp).kept hbel)
  clear hw1 hwe h hk hn
  go_enter Try.func10, Try.ntmps10
  go_wp2_with fail
  rw [show w.alloc (.cells #[.int .i64 0, .slice none 0 0, .slice none 0 0, .slice none 0 0] 25) = w1 from Hwe.out.symm]
  go_loopw [4, 9] (fun nx ix wr => ∃ (i : Nat) (t : Nd), i ≤ n ∧ ix = .int .i64 (i : Int) ∧ nx = nv t ∧ IsNv wr t ∧ clN t = trB (ps.take i) ∧ (∀ p ∈ ps.take i, fineK p) ∧ Below w1.heap.size w1 wr) (fun _ ix _ => n - (intOf ix).toNat)
  case atStart => exact ⟨0, nilN, by omega, rfl, rfl, IsNv.nil _, rfl, by simp, Below.refl _ _⟩
  case round =>
    obtain ⟨i, t, hii, rfl, hnv, hit, hct, hfi, hbr⟩ := hrel
    obtain ⟨wo, rfl⟩ : ∃ x, x = wr := ⟨wr, rfl⟩
    have HNV := Lib.hid hnv
    clear hnv
    have bb1 := Below.then hbel hbr
    have zz := hz.kept hbr
    have hgr := build_grows (ps.take i) hfi
    rw [← hct] at hgr
    by_cases hlt : i < n
    · have hki : (i : Int) < (n : Int) := by omega
      have hil : i < ps.length := by rw [Hn.out]; exact hlt
      obtain ⟨b1, o1, rfl, r1⟩ := RowOf.range kvc_len (H.out.below hbr) i hil
      obtain ⟨kb, vb⟩ := (Hk.out _ (List.getElem_mem hil)).kept hbr
      have hE := bldE_at ps i hil hfi
      have hst := trB_step ps i hil
      have hfs : fineK ps[i] → ∀ p ∈ ps.take (i + 1), fineK p := fun hf p hp => by
        rw [List.take_succ_eq_append_getElem hil] at hp
        rcases List.mem_append.1 hp with hp | hp
        · exact hfi p hp
        · rw [List.mem_singleton] at hp; rw [hp]; exact hf
      obtain ⟨p, hp⟩ : ∃ p, p = ps[i] := ⟨_, rfl⟩
      rw [← hp] at r1 kb vb hE hst hfs
      obtain ⟨kv, key, vv, v⟩ := p
      dsimp only at kb vb hE hst
      obtain ⟨ka, kc, rfl, _⟩ := kb.form
      obtain ⟨va, vc, rfl, _⟩ := vb.form
      obtain ⟨kn, hkn⟩ : ∃ m, m = key.length := ⟨_, rfl⟩
      obtain ⟨vn, hvn⟩ : ∃ m, m = v.length := ⟨_, rfl⟩
      rw [← hkn] at kb hE r1
      rw [← hvn] at vb hE r1
      have hr2 : wo.rangeAt b1 (o1 + i * 2) [.slice ka kn kc, .slice va vn vc] := r1
      have hwi : IntKind.i64.wrap ((i : Int) + 1) = ((i + 1 : Nat) : Int) := by rw [IntWalk.i64_in _ (by omega)]; omega
      obtain ⟨w2, hw2⟩ : ∃ w2, w2 = wo.alloc (.cells #[.slice ka kn kc, .slice va vn vc] 62) := ⟨_, rfl⟩
      have zp : Blk 62 w2 wo.heap.size [.slice ka kn kc, .slice va vn vc] := by rw [hw2]; exact Blk.new wo _ _
      have b2 : Below wo.heap.size wo w2 := by rw [hw2]; exact (Below.refl _ _).alloc (Nat.le_refl _) _
      have bb2 := Below.then bb1 b2
      have zz2 := zz.kept b2
      have Hr2 := Lib.hid hr2
      have HE := Lib.hid hE
      have Hst := Lib.hid hst
      have Hct := Lib.hid hct
      have Hfs := Lib.hid hfs
      have Hw2 := Lib.hid hw2
      have Hkn := Lib.hid hkn
      have Hvn := Lib.hid hvn
      clear r1 hr2 hE hst hw2 hp hlt hil hct hfi hfs hkn hvn
      by_cases h32 : 32 < kn
      · have hRf : bldP ps = (nP, 3) := by
          unfold bldP; rw [HE.out, if_pos h32]; rfl
        have Hpost := Lib.hid (pn_of (w := w) hRf)
        have h32i : (32 : Int) < (kn : Int) := by omega
        clear h32 hRf kb vb hgr hit
        go_wp2_with (first
          | (refine wpList_loadW (o := ⟨some 12, _, _, _, _, _⟩) 62 (.tmp 11) (by rfl) b1 (o1 + i * 2) (by rfl) aggPair (by rfl) Hr2.out (by rfl) ?_)
          | ((with_reducible show wpList _ _ _ (⟨none, Op.store _ _ (Operand.tmp 18), _, _, _, _⟩ :: _) _ _); rw [← Hw2.out]; refine wpList_storeA (o := ⟨none, _, _, _, _, _⟩) (by rfl) 25 (.tmp 2) (.tmp 18) (by rfl) w.heap.size (ndcells zN) (by rfl) (by rfl) aggNode zz2 hzl hzl hone bb2 (Nat.le_refl _) ?_; intro w4 h4 b4 g4))
        exact bodyPost_ret (v := .tuple #[.agg (ndcells zN).toArray, .int .i64 3]) (results_blk_tmp rfl _ _ w.heap.size aggNode h4 hzl rfl rfl) rfl (Hpost.out zN w4 (OwnNd.zero w4 0).is rfl b4)
      · have h32i : ¬ (32 : Int) < (kn : Int) := by omega
        by_cases hv24 : 1024 < vn
        · have hRf : bldP ps = (nP, 2) := by
            unfold bldP; rw [HE.out, if_neg h32, if_pos hv24]; rfl
          have Hpost := Lib.hid (pn_of (w := w) hRf)
          have hvi : (1024 : Int) < (vn : Int) := by omega
          clear h32 hRf hv24 kb vb hgr hit
          go_wp2_with (first
            | (refine wpList_loadW (o := ⟨some 12, _, _, _, _, _⟩) 62 (.tmp 11) (by rfl) b1 (o1 + i * 2) (by rfl) aggPair (by rfl) Hr2.out (by rfl) ?_)
            | ((with_reducible show wpList _ _ _ (⟨none, Op.store _ _ (Operand.tmp 24), _, _, _, _⟩ :: _) _ _); rw [← Hw2.out]; refine wpList_storeA (o := ⟨none, _, _, _, _, _⟩) (by rfl) 25 (.tmp 2) (.tmp 24) (by rfl) w.heap.size (ndcells zN) (by rfl) (by rfl) aggNode zz2 hzl hzl hone bb2 (Nat.le_refl _) ?_; intro w4 h4 b4 g4))
          exact bodyPost_ret (v := .tuple #[.agg (ndcells zN).toArray, .int .i64 2]) (results_blk_tmp rfl _ _ w.heap.size aggNode h4 hzl rfl rfl) rfl (Hpost.out zN w4 (OwnNd.zero w4 0).is rfl b4)
        · have hvi : ¬ (1024 : Int) < (vn : Int) := by omega
          have hhl := halvesL_len key
          have cH := fun (u : World) (hu : Below w2.heap.size w2 u) => halves_any ka kc key u (by rw [← Hkn.out]; exact (kb.below b2).below hu) (by have := Hkn.out; omega)
          rw [← Hkn.out] at cH
          have cP := fun (u : World) (hu : Below w2.heap.size w2 u) (qa : Option Addr) (qn qc : Nat) (hq : Bytes u (.slice qa qn qc) (halvesL key)) => put_any (SizeOf.sizeOf t) t (Nat.le_refl _) _ hgr.1 (fun r hr => by have := (hgr.2.2.1 r hr).1; omega) qa va qn qc vn vc (halvesL key) v u hq.fits.1.symm Hvn.out.symm (by have := hq.fits.1; have := Hkn.out; omega) (halves_small key) ((hit.kept b2).kept hu) hq ((vb.below b2).below hu)
          have hT : putQ (clN t) (halvesL key) v = trB (ps.take (i + 1)) := by rw [Hst.out, Hct.out]
          rw [hT] at cP
          have hff := Hfs.out ⟨by show key.length ≤ 32; have := Hkn.out; omega, by show v.length ≤ 1024; have := Hvn.out; omega⟩
          rw [← HNV.out] at cP
          have CH := Lib.hid cH
          have CP := Lib.hid cP
          have Hff := Lib.hid hff
          have Hkb := Lib.hid kb
          clear h32 hv24 cH cP hT hff kb vb hgr hit
          have k0 := fun u : Ext w2 => u.cell ((zp.cell 0).trans (show _ = some (Value.slice ka kn kc) from rfl))
          have k1 := fun u : Ext w2 => u.cell ((zp.cell 1).trans (show _ = some (Value.slice va vn vc) from rfl))
          go_wp2_with (refine wpList_loadW (o := ⟨some 12, _, _, _, _, _⟩) 62 (.tmp 11) (by rfl) b1 (o1 + i * 2) (by rfl) aggPair (by rfl) Hr2.out (by rfl) ?_)
          rw [show wo.alloc (.cells #[.slice ka kn kc, .slice va vn vc] 62) = w2 from Hw2.out.symm]
          refine wp_region_typed w2 7 (by kernel_rfl) (by kernel_rfl) (Below.refl _ _) ?_; simp only [List.take_succ_cons, List.take_zero, List.take_nil]
          iterate 3 (refine wpX_step (by rfl) (fun K hK => ?_); go_simp; first | (refine hK _ ?_; clear hK K) | (apply Exists.intro; refine ⟨fun _ => ?_, hK _ ?_⟩; fail; clear hK K))
          refine wpX_rel 28 (SlG (halvesL key)) rfl (of_decide_eq_true rfl) (SlG.mono _) (fun w6 hw6 => ?_) ?_
          · simp only [relOf, List.filter_nil, forallRel]
            refine ⟨rfl, ?_⟩
            go_simp
            refine (CH.out w6 hw6).mono ?_
            rintro e w7 ⟨v7, rfl, o7, b7⟩
            obtain ⟨a7, c7, rfl, _⟩ := o7.form
            exact ⟨_, rfl, ⟨_, _, _, rfl, o7.row⟩, b7⟩
          iterate 2 (refine wpX_step (by rfl) (fun K hK => ?_); go_simp; first | (refine hK _ ?_; clear hK K) | (apply Exists.intro; refine ⟨fun _ => ?_, hK _ ?_⟩; fail; clear hK K))
          refine wpX_rel 31 (NvT (trB (ps.take (i + 1)))) rfl (of_decide_eq_true rfl) (NvT.mono _) (fun w6 hw6 => ?_) ?_
          · change forallRel w6 [(28, _)] _ _
            rintro v28 ⟨a28, n28, c28, rfl, h28⟩
            simp only [forallRel]
            refine ⟨rfl, ?_⟩
            go_simp
            refine (CP.out w6 hw6 a28 n28 c28 h28).mono ?_
            rintro e w7 ⟨t7, rfl, b7, i7, c7⟩
            exact ⟨_, rfl, ⟨t7, rfl, i7, c7⟩, b7⟩
          refine wpX_nil ?_
          intro u5 hu5 v28 _ v31 h31
          change wpList _ _ _ [_] _ _
          simp only [Act.put, List.setIfInBounds_toArray, List.set_cons_zero, List.set_cons_succ]
          obtain ⟨t7, rfl, i7, c7⟩ := h31
          obtain ⟨V7, hV7⟩ : ∃ V, V = nv t7 := ⟨_, rfl⟩
          rw [← hV7]
          have HV7 := Lib.hid hV7
          have bb5 := Below.then hbr (Below.then b2 hu5)
          clear hV7 k0 k1
          go_wp2_with fail
          go_roundw
          case rel => exact ⟨i + 1, t7, by omega, by go_num, HV7.out, i7, c7, Hff.out, bb5⟩
          case measure => simp [intOf]; omega
    · obtain rfl : n = i := by omega
      have htk : ps.take n = ps := by rw [← Hn.out, List.take_length]
      rw [htk] at hct hfi hgr
      have hE0 := bldE_all ps hfi
      have hRf : bldP ps = (trB ps, 0) := by unfold bldP; rw [if_pos hE0]
      have Hpost := Lib.hid (pn_of (w := w) hRf)
      have cS := (show_all (SizeOf.sizeOf t) t (Nat.le_refl _) _ hgr.1 (fun r hr => by have := hgr.2.2.1 r hr; omega)).1 wo hit
      rw [hct, ← HNV.out] at cS
      have CS := Lib.hid cS
      clear cS hgr hit hct hfi hE0 hRf hlt
      go_wp2_with (first
        | (go_at_call 20; (with_reducible refine CS.out.mono ?_); rintro e w6 ⟨y, rfl, oy, ey, b6⟩; have bb6 := Below.then bb1 b6; have zz6 := zz.kept b6; have hone2 := oy.is.one; have hlen := ndcells_len y)
        | ((with_reducible show wpList _ _ _ (⟨none, Op.store _ _ (Operand.tmp 34), _, _, _, _⟩ :: _) _ _); refine wpList_storeA (o := ⟨none, _, _, _, _, _⟩) (by rfl) 25 (.tmp 2) (.tmp 34) (by rfl) w.heap.size (ndcells y) (by rfl) (by rfl) aggNode zz6 hlen hzl hone2 bb6 (Nat.le_refl _) ?_; intro w7 h7 b7 g7))
      have hs5 : w.heap.size < wo.heap.size := zz.lt
      exact bodyPost_ret (v := .tuple #[.agg (ndcells y).toArray, .int .i64 0]) (results_blk_tmp rfl _ _ w.heap.size aggNode h7 hlen rfl rfl) rfl (Hpost.out y w7 (oy.off g7 hs5).is ey b7)
end Go.Proofs.Ytcgpjceopnfahaa
