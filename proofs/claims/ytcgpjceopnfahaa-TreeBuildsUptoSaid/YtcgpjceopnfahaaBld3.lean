/- The reference's GOf. -/
import Derived.Test.YtcgpjceopnfahaaBld2
import Derived.Test.YtcgpjceopnfahaaPut23
set_option linter.unusedSimpArgs false
set_option linter.unusedVariables false
namespace Go.Proofs.Ytcgpjceopnfahaa
open Go.RowKit
set_option maxHeartbeats 4000000 in
set_option maxRecDepth 100000 in
theorem gof_any (a : Option Addr) (n c : Nat) (ps : List Kvp) (hn : ps.length = n) (hN : n ≤ 1048576) (w : World) (h : RowOf kvc 2 w (.slice a n c) ps) (hk : ∀ p ∈ ps, IsKv w p) :
    Calls Try.prog 11 #[.slice a n c] w (PnPost (bldP ps) w) := by
  obtain ⟨w1, hw1⟩ : ∃ w1, w1 = w.alloc (.cells (ndcells zN).toArray 25) := ⟨_, rfl⟩
  have hz : Blk 25 w1 w.heap.size (ndcells zN) := by rw [hw1]; exact Blk.new w _ _
  have hbel : Below w.heap.size w w1 := by rw [hw1]; exact (Below.refl _ _).alloc (Nat.le_refl _) _
  have hwe : w1 = w.alloc (.cells #[.int .i64 0, .slice none 0 0, .slice none 0 0, .slice none 0 0] 25) := by rw [hw1]; rfl
  have Hwe := Lib.hid hwe
  have hone : ∀ u ∈ ndcells zN, u.oneCell' = true := by intro u hu; simp [zcells] at hu; rcases hu with rfl | rfl <;> rfl
  have hzl : (ndcells zN).length = 4 := rfl
  have Hn := Lib.hid hn
  have H := Lib.hid (h.below hbel)
  have Hk : Hid (∀ p ∈ ps, IsKv w1 p) := Lib.hid (fun p hp => (hk p hp).kept hbel)
  clear hw1 hwe h hk hn
  go_enter Try.func11, Try.ntmps11
  go_wp2_with fail
  rw [show w.alloc (.cells #[.int .i64 0, .slice none 0 0, .slice none 0 0, .slice none 0 0] 25) = w1 from Hwe.out.symm]
  go_loopw [4, 10] (fun lx ix wr => ∃ (i : Nat) (la : Option Addr) (ln lc : Nat), i ≤ n ∧ ix = .int .i64 (i : Int) ∧ lx = .slice la ln lc ∧ RowOf rcells 2 wr (.slice la ln lc) (lsB (ps.take i)) ∧ (∀ p ∈ ps.take i, fineK p) ∧ Below w1.heap.size w1 wr) (fun _ ix _ => n - (intOf ix).toNat)
  case atStart => exact ⟨0, none, 0, 0, by omega, rfl, rfl, RowOf.nil rcells 2 _, by simp, Below.refl _ _⟩
  case round =>
    obtain ⟨i, la, ln, lc, hii, rfl, rfl, hrow, hfi, hbr⟩ := hrel
    obtain ⟨wo, rfl⟩ : ∃ x, x = wr := ⟨wr, rfl⟩
    have bb1 := Below.then hbel hbr
    have zz := hz.kept hbr
    have hgr := build_grows (ps.take i) hfi
    have hlls : (lsB (ps.take i)).length ≤ 1048576 := by have := hgr.2.2.2; rw [List.length_take] at this; omega
    by_cases hlt : i < n
    · have hki : (i : Int) < (n : Int) := by omega
      have hil : i < ps.length := by rw [Hn.out]; exact hlt
      obtain ⟨b1, o1, rfl, r1⟩ := RowOf.range kvc_len (H.out.below hbr) i hil
      obtain ⟨kb, vb⟩ := (Hk.out _ (List.getElem_mem hil)).kept hbr
      have hE := bldE_at ps i hil hfi
      have hst := lsB_step ps i hil
      have hfs : fineK ps[i] → ∀ p ∈ ps.take (i + 1), fineK p := fun hf p hp => by
        rw [List.take_succ_eq_append_getElem hil] at hp
        rcases List.mem_append.1 hp with hp | hp
        · exact hfi p hp
        · rw [List.mem_singleton] at hp; rw [hp]; exact hf
      obtain ⟨p, hp⟩ : ∃ p, p = ps[i] := ⟨_, rfl⟩
      rw [← hp] at r1 kb vb hE hst hfs
      obtain ⟨kv, key, vv, v⟩ := p
      dsimp only at kb vb hE hst
      obtain ⟨ka, kc, rfl, _⟩ := kb.form
      obtain ⟨va, vc, rfl, _⟩ := vb.form
      obtain ⟨kn, hkn⟩ : ∃ m, m = key.length := ⟨_, rfl⟩
      obtain ⟨vn, hvn⟩ : ∃ m, m = v.length := ⟨_, rfl⟩
      rw [← hkn] at kb hE r1
      rw [← hvn] at vb hE r1
      have hr2 : wo.rangeAt b1 (o1 + i * 2) [.slice ka kn kc, .slice va vn vc] := r1
      have hwi : IntKind.i64.wrap ((i : Int) + 1) = ((i + 1 : Nat) : Int) := by rw [IntWalk.i64_in _ (by omega)]; omega
      obtain ⟨w2, hw2⟩ : ∃ w2, w2 = wo.alloc (.cells #[.slice ka kn kc, .slice va vn vc] 62) := ⟨_, rfl⟩
      have b2 : Below wo.heap.size wo w2 := by rw [hw2]; exact (Below.refl _ _).alloc (Nat.le_refl _) _
      have bb2 := Below.then bb1 b2
      have zz2 := zz.kept b2
      have hpe := putError_any ka va kn kc vn vc
      have Hr2 := Lib.hid hr2
      have Hst := Lib.hid hst
      have Hfs := Lib.hid hfs
      have Hw2 := Lib.hid hw2
      have Hkn := Lib.hid hkn
      have Hvn := Lib.hid hvn
      clear r1 hr2 hst hw2 hp hlt hil hfi hfs hkn hvn
      by_cases h32 : 32 < kn ∨ 1024 < vn
      · obtain ⟨E, hEE⟩ : ∃ E, E = putE kn vn := ⟨_, rfl⟩
        have hEn : ¬ E = 0 := by
          rw [hEE]; unfold putE
          split
          · omega
          · rw [if_pos (by omega)]; omega
        have hRf : bldP ps = (nP, E) := by
          have : bldE ps = E := by
            rw [hE, hEE]
            unfold putE
            by_cases h : 32 < kn
            · rw [if_pos h, if_pos h]
            · rw [if_neg h, if_neg h, if_pos (by omega), if_pos (by omega)]
          unfold bldP; rw [this, if_neg hEn]
        rw [← hEE] at hpe
        have Hpe := Lib.hid hpe
        have hEz : (E == 0) = false := beq_eq_false_iff_ne.2 hEn
        have Hpost := Lib.hid (pn_of (w := w) hRf)
        clear h32 hRf kb vb hgr hE hEE hpe hrow
        go_wp2_with (first
          | (refine wpList_loadW (o := ⟨some 13, _, _, _, _, _⟩) 62 (.tmp 12) (by rfl) b1 (o1 + i * 2) (by rfl) aggPair (by rfl) Hr2.out (by rfl) ?_)
          | (go_at_call 25; (with_reducible refine (Hpe.out _).mono ?_); rintro e w3 ⟨rfl, rfl⟩)
          | ((with_reducible show wpList _ _ _ (⟨none, Op.store _ _ (Operand.tmp 21), _, _, _, _⟩ :: _) _ _); rw [← Hw2.out]; refine wpList_storeA (o := ⟨none, _, _, _, _, _⟩) (by rfl) 25 (.tmp 2) (.tmp 21) (by rfl) w.heap.size (ndcells zN) (by rfl) (by rfl) aggNode zz2 hzl hzl hone bb2 (Nat.le_refl _) ?_; intro w4 h4 b4 g4))
        exact bodyPost_ret (v := .tuple #[.agg (ndcells zN).toArray, .int .i64 E]) (results_blk_tmp rfl _ _ w.heap.size aggNode h4 hzl rfl rfl) rfl (Hpost.out zN w4 (OwnNd.zero w4 0).is rfl b4)
      · have hEz : putE kn vn = 0 := by unfold putE; rw [if_neg (by omega), if_neg (by omega)]
        rw [hEz] at hpe
        have Hpe := Lib.hid hpe
        have cP := fun (u : World) (hu : Below wo.heap.size wo u) => routePut_any la ka va ln lc kn kc vn vc (lsB (ps.take i)) key v hrow.fits.1.symm (by have := hrow.fits.1; omega) hgr.2.1 Hkn.out.symm (by omega) Hvn.out.symm u (hrow.below hu) (kb.below hu) (vb.below hu)
        rw [← Hst.out] at cP
        have hff := Hfs.out ⟨by show key.length ≤ 32; have := Hkn.out; omega, by show v.length ≤ 1024; have := Hvn.out; omega⟩
        have CP := Lib.hid cP
        have Hff := Lib.hid hff
        clear h32 cP hff kb vb hgr hpe hE hEz hrow hlls
        go_wp2_with (first
          | (refine wpList_loadW (o := ⟨some 13, _, _, _, _, _⟩) 62 (.tmp 12) (by rfl) b1 (o1 + i * 2) (by rfl) aggPair (by rfl) Hr2.out (by rfl) ?_)
          | (go_at_call 25; (with_reducible refine (Hpe.out _).mono ?_); rintro e w3 ⟨rfl, rfl⟩)
          | (go_at_call 28; rw [← Hw2.out]; (with_reducible refine (CP.out _ b2).mono ?_); rintro e w5 ⟨a5, n5, c5, rfl, h5, b5⟩; have bb5 := Below.then hbr (Below.then b2 b5)))
        go_roundw
        case rel => exact ⟨i + 1, a5, n5, c5, by omega, by go_num, rfl, h5, Hff.out, bb5⟩
        case measure => simp [intOf]; omega
    · obtain rfl : n = i := by omega
      have htk : ps.take n = ps := by rw [← Hn.out, List.take_length]
      rw [htk] at hrow hfi hgr hlls
      have hE0 := bldE_all ps hfi
      have hRf : bldP ps = (trB ps, 0) := by unfold bldP; rw [if_pos hE0]
      have Hpost := Lib.hid (pn_of (w := w) hRf)
      have hLe := hrow.fits.1
      have cS := grown_any 65 (lsB ps) la ln lc wo hLe.symm (by omega) (fun r hr => by have := hgr.2.2.1 r hr; omega) (ord_ok 65 _ hgr.2.1 (fun r hr => by have := (hgr.2.2.1 r hr).1; omega)) hrow
      rw [grows_grw hgr.1 65 (fun r hr => by have := (hgr.2.2.1 r hr).1; omega)] at cS
      have CS := Lib.hid cS
      clear cS hgr hfi hE0 hRf hlt hrow hLe hlls
      go_wp2_with (first
        | (go_at_call 27; (with_reducible refine CS.out.mono ?_); rintro e w6 ⟨y, rfl, oy, ey, b6⟩; have bb6 := Below.then bb1 b6; have zz6 := zz.kept b6; have hone2 := oy.is.one; have hlen := ndcells_len y)
        | ((with_reducible show wpList _ _ _ (⟨none, Op.store _ _ (Operand.tmp 31), _, _, _, _⟩ :: _) _ _); refine wpList_storeA (o := ⟨none, _, _, _, _, _⟩) (by rfl) 25 (.tmp 2) (.tmp 31) (by rfl) w.heap.size (ndcells y) (by rfl) (by rfl) aggNode zz6 hlen hzl hone2 bb6 (Nat.le_refl _) ?_; intro w7 h7 b7 g7))
      have hs5 : w.heap.size < wo.heap.size := zz.lt
      exact bodyPost_ret (v := .tuple #[.agg (ndcells y).toArray, .int .i64 0]) (results_blk_tmp rfl _ _ w.heap.size aggNode h7 hlen rfl rfl) rfl (Hpost.out y w7 (oy.off g7 hs5).is ey b7)
end Go.Proofs.Ytcgpjceopnfahaa
