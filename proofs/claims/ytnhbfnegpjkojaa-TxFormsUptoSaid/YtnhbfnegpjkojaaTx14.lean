/- tx.WriteReceipt. -/
import Derived.Test.YtnhbfnegpjkojaaTx13
import Derived.Test.YtnhbfnegpjkojaaTx2
set_option linter.unusedSimpArgs false
set_option linter.unusedVariables false
namespace Go.Proofs.Ytnhbfnegpjkojaa
open Go.RowKit
theorem lgM_take (ls : List Lgv) (k : Nat) : ((ls.take k).map lgM).sum ≤ (ls.map lgM).sum := by
  induction ls generalizing k with
  | nil => simp
  | cons l ls ih =>
    cases k with
    | zero => simp
    | succ k => simp only [List.take_succ_cons, List.map_cons, List.sum_cons]; have := ih k; omega
set_option maxHeartbeats 8000000 in
set_option maxRecDepth 100000 in
theorem wreceipt_any (r : Rcv) (hs : (r.ls.map lgM).sum ≤ 1048576) (w : World) (h : Logs w r.lv r.ls) : Calls Try.prog 45 #[.agg (rcc r).toArray] w fun e w' => ∃ v, e = .returned v ∧ Bytes w' v (wR r) ∧ Below w.heap.size w w' := by
  have hxl := rcc_len r
  obtain ⟨X, hX⟩ : ∃ X, X = rcc r := ⟨_, rfl⟩
  obtain ⟨w1, hw1⟩ : ∃ w1, w1 = w.alloc (.cells X.toArray 80) := ⟨_, rfl⟩
  have hz : Blk 80 w1 w.heap.size X := by rw [hw1]; exact Blk.new w _ _
  have hbel : Below w.heap.size w w1 := by rw [hw1]; exact (Below.refl _ _).alloc (Nat.le_refl _) _
  have hlt1 := hz.lt
  obtain ⟨a, n, c, hlv⟩ : ∃ a n c, r.lv = .slice a n c := by obtain ⟨_, a, c, hv, _⟩ := h.1; exact ⟨_, _, _, hv⟩
  have HC : Hid (∀ u, Blk 80 u w.heap.size X → u.cell? ⟨w.heap.size, 0, none⟩ = some (.bool r.good) ∧ u.cell? ⟨w.heap.size, 1, none⟩ = some (.int .u64 (r.used : Int)) ∧ u.cell? ⟨w.heap.size, 34, none⟩ = some (.slice a n c) ∧ Bytes u (.slice (some ⟨w.heap.size, 2, none⟩) 32 32) r.bloom) := Lib.hid fun u hu => by
    rw [hX] at hu
    exact ⟨hu.cell 0, hu.cell 1, (hu.cell 34).trans (by rw [← hlv]; exact rcc_logs r), hu.bytesAt 2 32 _ (rcc_bloom r) r.hb (by unfold maxLen; omega)⟩
  rw [hlv] at h
  obtain ⟨WB, hWB⟩ : ∃ W, W = wR r := ⟨_, rfl⟩
  rw [← hWB]
  have HWB := Lib.hid hWB
  clear hWB
  obtain ⟨ls, hls⟩ : ∃ ls, ls = r.ls := ⟨_, rfl⟩
  rw [← hls] at h hs
  have hn : ls.length = n := h.1.fits.1.symm
  have hnn : n ≤ 1048576 := by
    have : ∀ ls : List Lgv, ls.length ≤ (ls.map lgM).sum := fun ls => by
      induction ls with
      | nil => simp
      | cons l ls ih => rw [List.length_cons, List.map_cons, List.sum_cons]; have : 1 ≤ lgM l := by unfold lgM; omega
                        omega
    have := this ls
    omega
  have cf := fun u => flag_any r.good u
  have cn := fun u => number_any r.used r.hu u
  obtain ⟨T1, hT1⟩ : ∃ T, T = numB (mkN r.good) := ⟨_, rfl⟩
  obtain ⟨T2, hT2⟩ : ∃ T, T = numB r.used := ⟨_, rfl⟩
  rw [← hT1] at cf
  rw [← hT2] at cn
  have Cf := Lib.hid cf
  have Cn := Lib.hid cn
  have HT1 := Lib.hid hT1
  have HT2 := Lib.hid hT2
  have Hls := Lib.hid hls
  have Hn := Lib.hid hn
  have Hs := Lib.hid hs
  have Hw1 : Hid (w1 = w.alloc (.cells X.toArray 80)) := Lib.hid hw1
  rw [← hX]
  have HXl : Hid (X.length = 35) := Lib.hid (by rw [hX]; exact hxl)
  have c34 : w1.cell? ⟨w.heap.size, 34, none⟩ = some (.slice a n c) := (HC.out w1 hz).2.2.1
  clear hxl hX hw1 hlv cf cn hT1 hT2 hls hn hs
  go_enter Try.func45, Try.ntmps45
  go_upto_region 2 with (first
    | (go_at_call 89; rw [← Hw1.out]; refine (list_any none 0 0 _).mono ?_; rintro e w2 ⟨rfl, b2⟩; have hs2 := b2.size; have bb2 := Below.then hbel b2; have z2 := hz.kept b2)
    | ((with_reducible show wpList _ _ _ (⟨none, Op.store _ _ (Operand.tmp 10), _, _, _, _⟩ :: _) _ _); refine wpList_storeA (o := ⟨none, _, _, _, _, _⟩) (by rfl) 156 (.tmp 3) (.tmp 10) (by rfl) w2.heap.size [.bool true, .slice none 0 0, .slice none 0 0] (by rfl) (by rfl) aggItem (Blk.new w2 156 [.bool false, .slice none 0 0, .slice none 0 0]) (by rfl) (by rfl) (by intro u hu; simp at hu; rcases hu with rfl | rfl <;> rfl) ((Below.refl w2.heap.size w2).alloc (Nat.le_refl _) (.cells #[.bool false, .slice none 0 0, .slice none 0 0] 156)) (Nat.le_refl _) ?_; intro w8 hm8 b8 _; have z8 := z2.kept b8; have d8 := (HC.out w8 z8).2.2.1))
  have F8 : LkV w [(80, w.heap.size, X)] w2.heap.size w2.heap.size (.slice none 0 0) [] w8 := ⟨Below.then bb2 b8, fun p hp => by rw [List.mem_singleton] at hp; subst hp; exact ⟨z8, Nat.lt_of_lt_of_le hlt1 hs2⟩, hm8, OwnOf.nil icells 3 _ _ _, by simp [Value.ownBlock], by simp, Nat.le_of_lt (Nat.lt_of_lt_of_le hlt1 hs2), Nat.le_refl _⟩
  obtain ⟨g3, hg3⟩ : ∃ g, g = w2.heap.size := ⟨_, rfl⟩
  rw [← hg3] at F8
  try rw [← hg3]
  clear b2 hs2 bb2 z2 hm8 b8 z8 hg3 hz hbel hlt1 c34
  go_wp2_with fail
  clear d8
  go_loopw [14] (fun ix wr => ∃ (k : Nat) (kv : Value) (ks : List Itm), k ≤ n ∧ ix = .int .i64 (k : Int) ∧ LkV w [(80, w.heap.size, X)] g3 g3 kv ks wr ∧ Hid (ks.map erI = (ls.take k).map lgP ∧ bulkL ks ≤ 45 * ((ls.take k).map lgM).sum)) (fun ix _ => n - (intOf ix).toNat)
  case atStart => exact ⟨0, .slice none 0 0, [], by omega, rfl, F8, Lib.hid ⟨rfl, by simp [bulkL]⟩⟩
  case round =>
    clear F8
    obtain ⟨k, kv, ks, hk, rfl, F, Hks⟩ := hrel
    have hkl : ks.length = k := by
      have h1 := congrArg List.length Hks.out.1
      rw [List.length_map, List.length_map, List.length_take, Hn.out] at h1
      omega
    obtain ⟨ka, kc, rfl, _⟩ := F.hO.form' k hkl
    have Hkl := Lib.hid hkl
    clear hkl
    by_cases hlt : k < n
    · have hki : (k : Int) < (n : Int) := by omega
      have hl1 : k < ls.length := by rw [Hn.out]; exact hlt
      obtain ⟨b2, off2, rfl, hr⟩ := RowOf.range lgc_len (h.1.below F.hb) k hl1
      have hin := h.2 _ (List.getElem_mem hl1)
      have hpre := lgTs_pre hl1
      have hbd := Hs.out
      have hnx : (ls.take (k + 1)).map lgP = (ls.take k).map lgP ++ [lgP ls[k]] := by rw [List.take_succ_eq_append_getElem hl1, List.map_append]; rfl
      have hny : ((ls.take (k + 1)).map lgM).sum = ((ls.take k).map lgM).sum + lgM ls[k] := by rw [List.take_succ_eq_append_getElem hl1, List.map_append, List.sum_append]; simp
      generalize ls[k] = l at *
      have Hnx := Lib.hid hnx
      have Hny := Lib.hid hny
      have hll := lgc_len l
      obtain ⟨ta, tn, tc, htv⟩ : ∃ a n c, l.tv = .slice a n c := by obtain ⟨_, a, c, hv, _⟩ := hin.ht; exact ⟨_, _, _, hv⟩
      obtain ⟨da, dn, dc, hdv⟩ : ∃ a n c, l.dv = .slice a n c := by obtain ⟨_, a, c, hv, _⟩ := hin.hd; exact ⟨_, _, _, hv⟩
      have h1c := lgc_one l (by rw [htv]; rfl) (by rw [hdv]; rfl)
      have h8c := lgc_tops l
      rw [htv] at h8c
      have h9c := lgc_dat l
      rw [hdv] at h9c
      have htr := hin.ht
      rw [htv] at htr
      have hdr := hin.hd
      have htn : l.tops.length = tn := htr.fits.1.symm
      have htb : tn ≤ 1048576 := by omega
      have Hadr := Lib.hid (lgc_addr l)
      have H8c := Lib.hid h8c
      have H9c := Lib.hid h9c
      have Htr := Lib.hid htr
      have Hdr := Lib.hid hdr
      have Htn := Lib.hid htn
      have Hdv := Lib.hid hdv
      clear hnx hny h8c h9c htr hdr htn hl1 hpre hdv htv hin
      go_wp2_with (first
        | (refine wpList_load_mid (op := ⟨some 17, _, _, _, _, _⟩) (by rfl) 143 (.tmp 16) (by rfl) b2 (off2 + k * 10) (by rfl) (lgc l) _ hr Try.underlying143 rfl (by rw [hll]; kernel_rfl) ?_)
        | ((with_reducible show wpList _ _ _ (⟨none, Op.store _ _ (Operand.tmp 17), _, _, _, _⟩ :: _) _ _); refine wpList_storeA (o := ⟨none, _, _, _, _, _⟩) (by rfl) 143 (.tmp 5) (.tmp 17) (by rfl) wr.heap.size (lgc l) (by rfl) (by rfl) aggLog (Blk.newA wr 143 _) hll (by first | rfl | kernel_rfl) h1c ((Below.refl wr.heap.size wr).alloc (Nat.le_refl _) _) (Nat.le_refl _) ?_; intro w6 z6 b6 _; have F6 := F.kept b6; have hl6 := z6.lt)
        | (go_at_call 89; refine (list_any none 0 0 _).mono ?_; rintro e w7 ⟨rfl, b7⟩; have F7 := F6.kept b7; have z7 := z6.kept b7; have hs7 := b7.size)
        | ((with_reducible show wpList _ _ _ (⟨none, Op.store _ _ (Operand.tmp 18), _, _, _, _⟩ :: _) _ _); refine wpList_storeA (o := ⟨none, _, _, _, _, _⟩) (by rfl) 156 (.tmp 6) (.tmp 18) (by rfl) w7.heap.size [.bool true, .slice none 0 0, .slice none 0 0] (by rfl) (by rfl) aggItem (Blk.new w7 156 [.bool false, .slice none 0 0, .slice none 0 0]) (by rfl) (by rfl) (by intro u hu; simp at hu; rcases hu with rfl | rfl <;> rfl) ((Below.refl w7.heap.size w7).alloc (Nat.le_refl _) (.cells #[.bool false, .slice none 0 0, .slice none 0 0] 156)) (Nat.le_refl _) ?_; intro w8 m8 b8 _; have z8 := z7.kept b8; have d8 : w8.cell? ⟨wr.heap.size, 8, none⟩ = some (.slice ta tn tc) := (z8.cell 8).trans H8c.out))
      have G8 : LkW w6 [(143, wr.heap.size, lgc l)] w7.heap.size (.slice none 0 0) (txts []) w8 := ⟨Below.then b7 b8, fun p hp => by rw [List.mem_singleton] at hp; subst hp; exact ⟨z8, Nat.lt_of_lt_of_le hl6 hs7⟩, m8, OwnOf.nil icells 3 _ _ _, by simp [txts], hs7⟩
      obtain ⟨g5, hg5⟩ : ∃ g, g = wr.heap.size := ⟨_, rfl⟩
      have hgs : ∀ x, (Value.slice ka k kc).ownBlock = some x → x < g5 := fun x hx => by rw [hg5]; exact own_ltK F.hO hx
      have hg35 : g3 < g5 := by rw [hg5]; exact F.hm.lt
      have hl67 := hs7
      rw [← hg5] at G8 hl6
      try rw [← hg5]
      obtain ⟨g6, hg6⟩ : ∃ g, g = w7.heap.size := ⟨_, rfl⟩
      rw [← hg6] at G8 hl67
      try rw [← hg6]
      clear F7 z6 z7 z8 d8 m8 b6 b7 b8 hs7 hr h1c hll F hg5 hg6
      go_loopw [22] (fun ix wr => ∃ (j : Nat) (tkv : Value) (ps : List (Value × List UInt8)), j ≤ tn ∧ ix = .int .i64 (j : Int) ∧ LkW w6 [(143, g5, lgc l)] g6 tkv (txts ps) wr ∧ Hid (ps.map (·.2) = (l.tops.take j).map wb)) (fun ix _ => tn - (intOf ix).toNat)
      case atStart => exact ⟨0, .slice none 0 0, [], by omega, rfl, G8, Lib.hid rfl⟩
      case round =>
        clear G8
        obtain ⟨j, tkv, ps, hj, rfl, G, Hps⟩ := hrel
        have hpl : (txts ps).length = j := by
          have := congrArg List.length Hps.out
          rw [List.length_map, List.length_map, List.length_take, Htn.out] at this
          unfold txts
          rw [List.length_map]; omega
        obtain ⟨ja, jc, rfl, _⟩ := G.hO.form' j hpl
        have Hpl := Lib.hid hpl
        clear hpl
        have FF := F6.kept G.hb
        by_cases hjt : j < tn
        · have hji : (j : Int) < (tn : Int) := by omega
          have hj1 : j < l.tops.length := by rw [Htn.out]; exact hjt
          obtain ⟨b3, off3, rfl, hr3⟩ := RowOf.range wcs_len (Htr.out.below FF.hb) j hj1
          have hstep : (l.tops.take (j + 1)).map wb = (l.tops.take j).map wb ++ [wb l.tops[j]] := by
            rw [List.take_succ_eq_append_getElem hj1, List.map_append]; rfl
          generalize l.tops[j] = N at *
          have Hstep := Lib.hid hstep
          have cb : ∀ u : World, Calls Try.prog 101 #[.agg (wcs N).toArray] u (fun e w' => e = .returned (.agg (hcs N).toArray) ∧ Below u.heap.size u w') := fun u => bytes_any N u
          have Cb := Lib.hid cb
          have hwl := wcs_len N
          have hhl := hcs_len N
          have hho := hcs_one N
          have HBY : Hid (((hcs N).drop 0).take 32 = by8 (wb N)) := Lib.hid (by rw [List.drop_zero, List.take_of_length_le (by rw [hhl]; exact Nat.le_refl _)]; rfl)
          clear hstep cb hj1 FF
          go_upto_region 10 with (first
            | (refine wpList_load_mid (op := ⟨some 25, _, _, _, _, _⟩) (by rfl) 48 (.tmp 24) (by rfl) b3 (off3 + j * 4) (by rfl) (wcs N) _ hr3 Try.underlying48 rfl (by rw [hwl]; kernel_rfl) ?_)
            | ((with_reducible show wpList _ _ _ (⟨none, Op.store _ _ (Operand.tmp 25), _, _, _, _⟩ :: _) _ _); refine wpList_storeA (o := ⟨none, _, _, _, _, _⟩) (by rfl) 48 (.tmp 8) (.tmp 25) (by rfl) wr.heap.size (wcs N) (by rfl) (by rfl) aggWord (Blk.newA wr 48 _) hwl (by first | rfl | kernel_rfl) (wcs_one N) ((Below.refl wr.heap.size wr).alloc (Nat.le_refl _) _) (Nat.le_refl _) ?_; intro w4 z4 b4 _; have G4 := G.kept b4)
            | (refine wpList_loadA (o := ⟨some 26, _, _, _, _, _⟩) (by rfl) 48 (.tmp 8) (by rfl) wr.heap.size (by rfl) aggWord z4 hwl ?_)
            | (go_at_call 101; refine (Cb.out _).mono ?_; rintro e w5 ⟨rfl, b5⟩; have G5 := G4.kept b5)
            | ((with_reducible show wpList _ _ _ (⟨none, Op.store _ _ (Operand.tmp 27), _, _, _, _⟩ :: _) _ _); refine wpList_storeA (o := ⟨none, _, _, _, _, _⟩) (by rfl) 31 (.tmp 9) (.tmp 27) (by rfl) w5.heap.size (hcs N) (by rfl) (by rfl) aggHash (Blk.newA w5 31 _) hhl (by first | rfl | kernel_rfl) hho ((Below.refl w5.heap.size w5).alloc (Nat.le_refl _) _) (Nat.le_refl _) ?_; intro u6 z9 b9 _; have G6 := G5.kept b9))
          obtain ⟨g9, hg9⟩ : ∃ g, g = w5.heap.size := ⟨_, rfl⟩
          rw [← hg9] at z9
          try rw [← hg9]
          have hg69 : g6 + 1 ≤ g9 := by rw [hg9]; exact G5.hm.lt
          have htk : (Value.slice ja j jc).ownBlock ≠ some g9 := fun e => by have := own_ltK G5.hO e; omega
          have tx9 : ∀ u, Below u6.heap.size u6 u → Bytes u (.slice (some ⟨g9, 0, none⟩) 32 32) (wb N) := fun u hu => (z9.kept hu).bytesAt 0 32 _ HBY.out (wb_len N) (by unfold maxLen; omega)
          have k1 := fun u : Ext u6 => u.cell ((G6.hm.cell 2).trans (show _ = some (Value.slice ja j jc) from rfl))
          have s32 := fun off u => sl32 g9 off u
          have Tx9 := Lib.hid tx9
          clear tx9 G4 G5 G z4 b4 b5 b9 hg9 hr3
          refine wp_region_typed u6 5 (by kernel_rfl) (by kernel_rfl) (Below.refl _ _) ?_; simp only [List.take_succ_cons, List.take_zero, List.take_nil]
          iterate 3 (refine wpX_step (by rfl) (fun K hK => ?_); go_simp; first | (refine hK _ ?_; clear hK K) | (apply Exists.intro; refine ⟨fun _ => ?_, hK _ ?_⟩; fail; clear hK K))
          (refine wpX_step (by rfl) (fun K hK => ?_); go_simp; first | (refine hK _ ?_; clear hK K) | (apply Exists.intro; refine ⟨fun _ => ?_, hK _ ?_⟩; exact text_any _ _ _ _; clear hK K))
          refine wpX_rel 32 (OneC (.slice (some ⟨g9, 0, none⟩) 32 32) (wb N)) rfl (of_decide_eq_true rfl) (OneC.mono _ _) (fun w2 hw2 => ?_) ?_
          · simp only [relOf, List.filter_nil, forallRel]
            refine ⟨rfl, ?_⟩
            go_simp
            have hb18 : Below w2.heap.size w2 (w2.alloc (.cells #[.bool false, .slice (some ⟨g9, 0, none⟩) 32 32, .slice none 0 0] 156)) := (Below.refl _ _).alloc (Nat.le_refl _) _
            exact ⟨hb18, w2.heap.size, rfl, Row.built icells_len w2 156 [txt (.slice (some ⟨g9, 0, none⟩) 32 32) (wb N)] 1 rfl (by unfold maxLen; omega)⟩
          refine wpX_nil ?_
          intro u2 hb2 v19 h19
          change wpList _ _ _ [_, _, _] _ _
          obtain ⟨g19, rfl, r19⟩ := h19
          have G2 := G6.kept hb2
          have Fp2 : Fp (fun x => g6 + 1 ≤ x ∧ (Value.slice ja j jc).ownBlock ≠ some x) u2 (txt (.slice (some ⟨g9, 0, none⟩) 32 32) (wb N)) := fp_at (Tx9.out u2 hb2) (fun b hb => by simp only [Value.ownBlock, Option.some.injEq] at hb; subst hb; exact ⟨hg69, htk⟩)
          clear k1 G6 s32
          try simp only [Act.put, List.setIfInBounds_toArray, List.set_cons_zero, List.set_cons_succ]
          go_wp2_with (refine wpList_appB (o := ⟨some 33, _, _, _, _, _⟩) (by rfl) (.tmp 29) (.tmp 32) 154 (by rfl) elItem (by intro u hu; simp [txt, icells] at hu; rcases hu with rfl | rfl | rfl <;> rfl) (by rfl) G2.hO (by rfl) r19 G2.hm.lt (by rw [Hpl.out]; simp; omega) (by rw [Hpl.out]; unfold maxLen; simp; omega) ?_; intro v5 w5 hO5 gg5 pp5; obtain ⟨a5, c5, rfl, _⟩ := hO5.form' (j + 1) (by rw [List.length_append, Hpl.out]; rfl); have G5 := G2.grew Fp2 gg5 hO5 pp5; have hne5 : (Value.slice ja j jc).ownBlock ≠ some g6 := fun e => (by have := G2.hO.lt g6 e; omega); obtain ⟨y5, hy5⟩ := (G2.hm.grown gg5 hne5).has 2 (by simp); have hf5 := (G2.hm.grown gg5 hne5).free 2)
          rw [← txts_snoc' ps (.slice (some ⟨g9, 0, none⟩) 32 32, wb N)] at G5
          go_roundw
          case rel => exact ⟨j + 1, .slice a5 (j + 1) c5, ps ++ [(.slice (some ⟨g9, 0, none⟩) 32 32, wb N)], by omega, by go_num, G5, Lib.hid (by rw [List.map_append, Hps.out, Hstep.out]; rfl)⟩
          case measure => simp [intOf]; omega
        · obtain rfl : j = tn := by omega
          have hall : ps.map (·.2) = l.tops.map wb := by rw [Hps.out, List.take_of_length_le (by rw [Htn.out]; exact Nat.le_refl _)]
          have Hall := Lib.hid hall
          clear hall Hps
          go_upto_region 12 with fail
          have CS : Hid (∀ u, Below wr.heap.size wr u → Blk 143 u g5 (lgc l)) := Lib.hid fun u hu => ((G.hz _ List.mem_cons_self).1).kept hu
          have k2 := fun u : Ext wr => u.cell ((FF.hm.cell 2).trans (show _ = some (Value.slice ka k kc) from rfl))
          have k9 := fun u : Ext wr => u.cell (((G.hz _ List.mem_cons_self).1.cell 9).trans H9c.out)
          have s8 := fun off u => sl8 g5 off u
          have RG := Lib.hid (Blk.all0 G.hm)
          have hgl := G.hm.lt
          rw [Hdv.out] at Hdr
          refine wp_region_typed wr 12 (by kernel_rfl) (by kernel_rfl) (Below.refl _ _) ?_; simp only [List.take_succ_cons, List.take_zero, List.take_nil]
          iterate 4 (refine wpX_step (by rfl) (fun K hK => ?_); go_simp; first | (refine hK _ ?_; clear hK K) | (apply Exists.intro; refine ⟨fun _ => ?_, hK _ ?_⟩; fail; clear hK K))
          (refine wpX_step (by rfl) (fun K hK => ?_); go_simp; first | (refine hK _ ?_; clear hK K) | (apply Exists.intro; refine ⟨fun _ => ?_, hK _ ?_⟩; exact text_any _ _ _ _; clear hK K))
          (refine wpX_step (by rfl) (fun K hK => ?_); rw [if_pos (by rfl)]; refine ⟨_, fun u => const_loadm _ (.tmp 6) (by rfl) _ _ (by rfl) aggItem (by rfl) (rangeAt.ext RG.out u), hK _ ?_⟩; clear hK K; simp only [Act.put, List.setIfInBounds_toArray, List.set_cons_zero, List.set_cons_succ])
          iterate 2 (refine wpX_step (by rfl) (fun K hK => ?_); go_simp; first | (refine hK _ ?_; clear hK K) | (apply Exists.intro; refine ⟨fun _ => ?_, hK _ ?_⟩; fail; clear hK K))
          (refine wpX_step (by rfl) (fun K hK => ?_); go_simp; first | (refine hK _ ?_; clear hK K) | (apply Exists.intro; refine ⟨fun _ => ?_, hK _ ?_⟩; exact text_any _ _ _ _; clear hK K))
          refine wpX_rel 45 (SlI wr.heap.size 3 [.bool false, .slice (some ⟨g5, 0, none⟩) 8 8, .slice none 0 0, .bool true, .slice none 0 0, .slice ja j jc, .bool false, .slice da dn dc, .slice none 0 0]) rfl (of_decide_eq_true rfl) (SlI.mono _ _ _) (fun w2 hw2 => ?_) ?_
          · simp only [relOf, List.filter_nil, forallRel]
            refine ⟨rfl, ?_⟩
            go_simp
            exact ⟨(Below.refl _ _).alloc (Nat.le_refl _) _, w2.heap.size, rfl, hw2.size, Blk.new w2 _ _⟩
          refine wpX_rel 46 (AgI wr.heap.size 3 [.bool false, .slice (some ⟨g5, 0, none⟩) 8 8, .slice none 0 0, .bool true, .slice none 0 0, .slice ja j jc, .bool false, .slice da dn dc, .slice none 0 0]) rfl (of_decide_eq_true rfl) (AgI.mono _ _ _) (fun w2 hw2 => ?_) ?_
          · change forallRel w2 [(45, _)] _ _
            rintro v45 ⟨g, rfl, hgB, hgb⟩
            simp only [forallRel, List.drop_succ_cons, List.drop_zero, List.drop_nil]
            refine ⟨rfl, ?_⟩
            go_simp
            refine (list_any _ _ _ _).mono ?_
            rintro e w3 ⟨rfl, b3⟩
            exact ⟨_, rfl, ⟨g, rfl, hgB, hgb.kept b3⟩, b3⟩
          refine wpX_rel 47 (One2 wr.heap.size 3 [.bool false, .slice (some ⟨g5, 0, none⟩) 8 8, .slice none 0 0, .bool true, .slice none 0 0, .slice ja j jc, .bool false, .slice da dn dc, .slice none 0 0]) rfl (of_decide_eq_true rfl) (One2.mono _ _ _) (fun w2 hw2 => ?_) ?_
          · change forallRel w2 [(46, _)] _ _
            rintro v46 ⟨g, rfl, hgB, hgb⟩
            simp only [forallRel, List.drop_succ_cons, List.drop_zero, List.drop_nil]
            refine ⟨rfl, ?_⟩
            go_simp
            have hb18 : Below w2.heap.size w2 (w2.alloc (.cells #[.bool true, .slice none 0 0, .slice (some ⟨g, 0, none⟩) 3 3] 156)) := (Below.refl _ _).alloc (Nat.le_refl _) _
            exact ⟨hb18, g, w2.heap.size, rfl, hgB, hw2.size, hgb.kept hb18, Blk.new w2 _ _⟩
          refine wpX_nil ?_
          intro u2 hb2 v45 h45 v46 h46 v47 h47
          change wpList _ _ _ [_, _, _] _ _
          obtain ⟨gk, gk', rfl, hgB, hgB', zg, zg'⟩ := h47
          have F2 := FF.kept hb2
          have G2 := G.kept hb2
          have Fp2 : Fp (fun x => x ≠ g3 ∧ (Value.slice ka k kc).ownBlock ≠ some x) u2 (lgI (.slice (some ⟨g5, 0, none⟩) 8 8) (.slice ja j jc) ps (.slice (some ⟨gk, 0, none⟩) 3 3) l) :=
            lgI_fp G2 (by rw [Hdv.out]; exact zg) (by omega) ⟨by omega, fun e => by have := hgs g5 e; omega⟩ (fun x hx => ⟨by omega, fun e => by have := hgs x e; omega⟩) ((CS.out u2 hb2).bytesAt 0 8 _ Hadr.out l.len (by unfold maxLen; omega)) (by rw [Hdv.out]; exact F2.low' Hdr.out F2.h1 F2.hb)
          have r19 := (Blk.own (f := icells) (size := 3) (l := [lgI (.slice (some ⟨g5, 0, none⟩) 8 8) (.slice ja j jc) ps (.slice (some ⟨gk, 0, none⟩) 3 3) l]) zg' 1 icells_len rfl (Nat.zero_le _) (by unfold maxLen; omega)).row
          obtain ⟨IT, hIT⟩ : ∃ I, I = lgI (.slice (some ⟨g5, 0, none⟩) 8 8) (.slice ja j jc) ps (.slice (some ⟨gk, 0, none⟩) 3 3) l := ⟨_, rfl⟩
          have hie : erI IT = lgP l := by rw [hIT]; exact lgI_er Hall.out
          have hib : bulkI IT ≤ 45 * lgM l := by rw [hIT]; exact lgI_bulk Hall.out
          have hic : ∀ u ∈ [IT].flatMap icells, u.oneCell' = true := by
            rw [hIT]
            intro u hu
            simp [lgI, lst, icells] at hu
            rcases hu with rfl | rfl | rfl <;> rfl
          rw [← hIT] at Fp2 r19
          have Hie := Lib.hid hie
          have Hib := Lib.hid hib
          clear hIT hie hib k2 k9 s8 RG G G2 FF zg zg' h45 h46 CS
          try simp only [Act.put, List.setIfInBounds_toArray, List.set_cons_zero, List.set_cons_succ]
          go_wp2_with (refine wpList_appB (o := ⟨some 48, _, _, _, _, _⟩) (by rfl) (.tmp 37) (.tmp 47) 154 (by rfl) elItem hic (by rfl) F2.hO (by rfl) r19 (Nat.le_trans F2.h2 (Nat.le_of_lt F2.hm.lt)) (by rw [Hkl.out]; simp; omega) (by rw [Hkl.out]; unfold maxLen; simp; omega) ?_; intro v5 w5 hO5 gg5 pp5; obtain ⟨a5, c5, rfl, _⟩ := hO5.form' (k + 1) (by rw [List.length_append, Hkl.out]; rfl); have F5 := F2.grew Fp2 gg5 hO5 pp5; have hne5 := F2.hn; obtain ⟨y5, hy5⟩ := (F2.hm.grown gg5 hne5).has 2 (by simp); have hf5 := (F2.hm.grown gg5 hne5).free 2)
          go_roundw
          case rel =>
            refine ⟨k + 1, .slice a5 (k + 1) c5, ks ++ [IT], by omega, by go_num, F5, Lib.hid ⟨?_, ?_⟩⟩
            · rw [List.map_append, Hks.out.1, Hnx.out]
              show _ ++ [erI IT] = _
              rw [Hie.out]
            · rw [bulkL_app, Hny.out, bulkL, bulkL]
              have h1 := Hks.out.2
              have h2 := Hib.out
              omega
          case measure => simp [intOf]; omega
    · obtain rfl : k = n := by omega
      have hke : ks.map erI = r.ls.map lgP := by rw [Hks.out.1, List.take_of_length_le (by rw [Hn.out]; exact Nat.le_refl _), Hls.out]
      have hkb : bulkL ks ≤ 45 * 1048576 := by have h1 := Hks.out.2; have h2 := lgM_take ls k; have h3 := Hs.out; omega
      have hB := (F.hz _ List.mem_cons_self).1
      obtain ⟨D, hD⟩ : ∃ D, D = r.bloom := ⟨_, rfl⟩
      have hkT : T1.length ≤ 32 ∧ T2.length ≤ 32 ∧ D.length = 32 := ⟨by rw [HT1.out]; exact numB_32 _, by rw [HT2.out]; exact numB_32 _, by rw [hD]; exact r.hb⟩
      have hE : ∀ (g : Nat) (v1 v2 v3 : Value), encI (rcI g v1 T1 v2 T2 v3 D (lst (.slice ka k kc) ks)) = WB := fun g v1 v2 v3 => by rw [HWB.out, HT1.out, HT2.out, hD]; exact rcI_enc hke
      have hbk : ∀ (g : Nat) (v1 v2 v3 : Value), bulkI (rcI g v1 T1 v2 T2 v3 D (lst (.slice ka k kc) ks)) ≤ 200 + 45 * 1048576 := fun g v1 v2 v3 => by rw [HT1.out, HT2.out, hD]; exact rcI_bulk (r := r) hkb
      have c0 := fun u : Ext wr => (HC.out u.val (hB.kept u.property)).1
      have c1 := fun u : Ext wr => (HC.out u.val (hB.kept u.property)).2.1
      have c2 : Hid (∀ u, Below wr.heap.size wr u → Bytes u (.slice (some ⟨w.heap.size, 2, none⟩) 32 32) D) := Lib.hid fun u hu => by rw [hD]; exact (HC.out u (hB.kept hu)).2.2.2
      have s32 := fun off u => sl32 w.heap.size off u
      have RG := Lib.hid (Blk.all0 F.hm)
      have HE := Lib.hid hE
      have HBk := Lib.hid hbk
      clear hke hkb hB hkT hE hbk hD
      go_upto_region 14 with fail
      refine wp_region_typed wr 13 (by kernel_rfl) (by kernel_rfl) (Below.refl _ _) ?_; simp only [List.take_succ_cons, List.take_zero, List.take_nil]
      iterate 2 (refine wpX_step (by rfl) (fun K hK => ?_); go_simp; first | (refine hK _ ?_; clear hK K) | (apply Exists.intro; refine ⟨fun _ => ?_, hK _ ?_⟩; fail; clear hK K))
      refine wpX_rel 53 (TxtO wr.heap.size T1) rfl (of_decide_eq_true rfl) (TxtO.mono _ _) (fun w2 hw2 => ?_) ?_
      · simp only [relOf, List.filter_nil, forallRel]
        refine ⟨rfl, ?_⟩
        go_simp
        refine (Cf.out w2).mono ?_
        rintro e w3 ⟨a1, m1, c1, rfl, t1, b3⟩
        exact ⟨_, rfl, ⟨a1, m1, c1, rfl, t1.lower hw2.size⟩, b3⟩
      iterate 2 (refine wpX_step (by rfl) (fun K hK => ?_); go_simp; first | (refine hK _ ?_; clear hK K) | (apply Exists.intro; refine ⟨fun _ => ?_, hK _ ?_⟩; fail; clear hK K))
      refine wpX_rel 56 (TxtO wr.heap.size T2) rfl (of_decide_eq_true rfl) (TxtO.mono _ _) (fun w2 hw2 => ?_) ?_
      · change forallRel w2 [] _ _
        simp only [forallRel]
        refine ⟨rfl, ?_⟩
        go_simp
        refine (Cn.out w2).mono ?_
        rintro e w3 ⟨a1, m1, c1, rfl, t1, b3⟩
        exact ⟨_, rfl, ⟨a1, m1, c1, rfl, t1.lower hw2.size⟩, b3⟩
      iterate 2 (refine wpX_step (by rfl) (fun K hK => ?_); go_simp; first | (refine hK _ ?_; clear hK K) | (apply Exists.intro; refine ⟨fun _ => ?_, hK _ ?_⟩; fail; clear hK K))
      (refine wpX_step (by rfl) (fun K hK => ?_); go_simp; first | (refine hK _ ?_; clear hK K) | (apply Exists.intro; refine ⟨fun _ => ?_, hK _ ?_⟩; exact text_any _ _ _ _; clear hK K))
      (refine wpX_step (by rfl) (fun K hK => ?_); rw [if_pos (by rfl)]; refine ⟨_, fun u => const_loadm _ (.tmp 3) (by rfl) _ _ (by rfl) aggItem (by rfl) (rangeAt.ext RG.out u), hK _ ?_⟩; clear hK K; simp only [Act.put, List.setIfInBounds_toArray, List.set_cons_zero, List.set_cons_succ])
      refine wpX_rel 61 (FourO wr.heap.size T1 T2 (.slice (some ⟨w.heap.size, 2, none⟩) 32 32) D (lst (.slice ka k kc) ks)) rfl (of_decide_eq_true rfl) (FourO.mono _ _ _ _ _ _) (fun w2 hw2 => ?_) ?_
      · change forallRel w2 [(56, _), (53, _)] _ _
        rintro v56 ⟨a2, m2, c2', rfl, t2⟩ v53 ⟨a1, m1, c1', rfl, t1⟩
        simp only [forallRel, List.drop_succ_cons, List.drop_zero, List.drop_nil]
        refine ⟨rfl, ?_⟩
        go_simp
        have hb18 : Below w2.heap.size w2 (w2.alloc (.cells #[.bool false, .slice a1 m1 c1', .slice none 0 0, .bool false, .slice a2 m2 c2', .slice none 0 0, .bool false, .slice (some ⟨w.heap.size, 2, none⟩) 32 32, .slice none 0 0, .bool true, .slice none 0 0, .slice ka k kc] 156)) := (Below.refl _ _).alloc (Nat.le_refl _) _
        exact ⟨hb18, w2.heap.size, a1, m1, c1', a2, m2, c2', rfl, Row.built icells_len w2 156 [txt (.slice a1 m1 c1') T1, txt (.slice a2 m2 c2') T2, txt (.slice (some ⟨w.heap.size, 2, none⟩) 32 32) D, lst (.slice ka k kc) ks] 4 rfl (by unfold maxLen; omega), TxB.mono _ _ _ _ _ t1 hb18, TxB.mono _ _ _ _ _ t2 hb18⟩
      refine wpX_rel 62 (AgFour wr.heap.size T1 T2 (.slice (some ⟨w.heap.size, 2, none⟩) 32 32) D (lst (.slice ka k kc) ks)) rfl (of_decide_eq_true rfl) (AgFour.mono _ _ _ _ _ _) (fun w2 hw2 => ?_) ?_
      · change forallRel w2 [(61, _)] _ _
        rintro v61 ⟨g, a1, m1, c1', a2, m2, c2', rfl, hr4, t1, t2⟩
        simp only [forallRel, List.drop_succ_cons, List.drop_zero, List.drop_nil]
        refine ⟨rfl, ?_⟩
        go_simp
        refine (list_any _ _ _ _).mono ?_
        rintro e w3 ⟨rfl, b3⟩
        exact ⟨_, rfl, ⟨g, a1, m1, c1', a2, m2, c2', rfl, RowOf.kept hr4 b3, TxB.mono _ _ _ _ _ t1 b3, TxB.mono _ _ _ _ _ t2 b3⟩, b3⟩
      refine wpX_rel 63 (BytT WB) rfl (of_decide_eq_true rfl) (BytT.mono _) (fun w2 hw2 => ?_) ?_
      · change forallRel w2 [(62, _)] _ _
        rintro v62 ⟨g, a1, m1, c1', a2, m2, c2', rfl, hr4, t1, t2⟩
        simp only [forallRel, List.drop_succ_cons, List.drop_zero, List.drop_nil]
        refine ⟨rfl, ?_⟩
        go_simp
        have hI := rcI_is hr4 t1.1 t2.1 (c2.out w2 hw2) ((F.kept hw2).is)
        refine (encode_any (200 + 45 * 1048576) (rcI g (.slice a1 m1 c1') T1 (.slice a2 m2 c2') T2 (.slice (some ⟨w.heap.size, 2, none⟩) 32 32) D (lst (.slice ka k kc) ks)) w2 (HBk.out _ _ _ _) (by omega) hI).mono ?_
        rintro e w3 ⟨v, rfl, o3, b3⟩
        exact ⟨v, rfl, by have := o3.row; rw [HE.out] at this; exact this, b3⟩
      refine wpX_nil ?_
      intro u2 hb2 v53 _ v56 _ v61 _ v62 _ v63 h63
      change wpList _ _ _ [_] _ _
      try simp only [Act.put, List.setIfInBounds_toArray, List.set_cons_zero, List.set_cons_succ]
      go_wp2_with fail
      go_ret
      exact ⟨v63, rfl, h63, Below.then F.hb hb2⟩
end Go.Proofs.Ytnhbfnegpjkojaa
