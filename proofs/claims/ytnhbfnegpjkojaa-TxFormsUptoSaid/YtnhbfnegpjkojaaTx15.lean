/- The reference's RWriteReceipt (gen_tx15.py printed it). -/
import Derived.Test.YtnhbfnegpjkojaaTx14
import Derived.Test.YtnhbfnegpjkojaaTx12
import Derived.Test.YtnhbfnegpjkojaaCuts
import Derived.Test.YtnhbfnegpjkojaaOff
set_option linter.unusedSimpArgs false
set_option linter.unusedVariables false
namespace Go.Proofs.Ytnhbfnegpjkojaa
open Go.RowKit
def FourR (B : Nat) (v1 : Value) (T1 T2 : List UInt8) (v3 : Value) (T3 : List UInt8) (it : Itm) : Ty := fun v w => ∃ g a2 n2 c2, v = .slice (some ⟨g, 0, none⟩) 4 4 ∧ RowOf icells 3 w v [txt v1 T1, txt (.slice a2 n2 c2) T2, txt v3 T3, it] ∧ TxB B T2 (.slice a2 n2 c2) w
theorem FourR.mono (B : Nat) (v1 : Value) (T1 T2 : List UInt8) (v3 : Value) (T3 : List UInt8) (it : Itm) : Mono (FourR B v1 T1 T2 v3 T3 it) := fun _ _ _ ⟨g, a2, n2, c2, h1, h2, h4⟩ hb => ⟨g, a2, n2, c2, h1, RowOf.kept h2 hb, TxB.mono _ _ _ _ _ h4 hb⟩
def AgFourR (B : Nat) (v1 : Value) (T1 T2 : List UInt8) (v3 : Value) (T3 : List UInt8) (it : Itm) : Ty := fun v w => ∃ g a2 n2 c2, v = .agg #[.bool true, .slice none 0 0, .slice (some ⟨g, 0, none⟩) 4 4] ∧ RowOf icells 3 w (.slice (some ⟨g, 0, none⟩) 4 4) [txt v1 T1, txt (.slice a2 n2 c2) T2, txt v3 T3, it] ∧ TxB B T2 (.slice a2 n2 c2) w
theorem AgFourR.mono (B : Nat) (v1 : Value) (T1 T2 : List UInt8) (v3 : Value) (T3 : List UInt8) (it : Itm) : Mono (AgFourR B v1 T1 T2 v3 T3 it) := fun _ _ _ ⟨g, a2, n2, c2, h1, h2, h4⟩ hb => ⟨g, a2, n2, c2, h1, RowOf.kept h2 hb, TxB.mono _ _ _ _ _ h4 hb⟩
theorem bel_grown {w w' : World} (h : Below w.heap.size w w') (row : Option Nat) : w.grownBy w' row := ⟨h.os, h.tape, h.output, h.size, fun k hk _ => h.block k hk⟩
set_option maxHeartbeats 8000000 in
set_option maxRecDepth 100000 in
theorem rwreceipt_any (r : Rcv) (hs : (r.ls.map lgM).sum ≤ 1048576) (w : World) (h : Logs w r.lv r.ls) : Calls Try.prog 46 #[.agg (rcc r).toArray] w fun e w' => ∃ v, e = .returned v ∧ Bytes w' v (wR r) ∧ Below w.heap.size w w' := by
  have hxl := rcc_len r
  obtain ⟨X, hX⟩ : ∃ X, X = rcc r := ⟨_, rfl⟩
  obtain ⟨w1, hw1⟩ : ∃ w1, w1 = w.alloc (.cells X.toArray 80) := ⟨_, rfl⟩
  have hz : Blk 80 w1 w.heap.size X := by rw [hw1]; exact Blk.new w _ _
  have hbel : Below w.heap.size w w1 := by rw [hw1]; exact (Below.refl _ _).alloc (Nat.le_refl _) _
  have hlt1 := hz.lt
  obtain ⟨a, n, c, hlv⟩ : ∃ a n c, r.lv = .slice a n c := by obtain ⟨_, a, c, hv, _⟩ := h.1; exact ⟨_, _, _, hv⟩
  have HC : Hid (∀ u, Blk 80 u w.heap.size X → u.cell? ⟨w.heap.size, 0, none⟩ = some (.bool r.good) ∧ u.cell? ⟨w.heap.size, 1, none⟩ = some (.int .u64 (r.used : Int)) ∧ u.cell? ⟨w.heap.size, 34, none⟩ = some (.slice a n c) ∧ Bytes u (.slice (some ⟨w.heap.size, 2, none⟩) 32 32) r.bloom) := Lib.hid fun u hu => by
    rw [hX] at hu
    exact ⟨hu.cell 0, hu.cell 1, (hu.cell 34).trans (by rw [← hlv]; exact rcc_logs r), hu.bytesAt 2 32 _ (rcc_bloom r) r.hb (by unfold maxLen; omega)⟩
  rw [hlv] at h
  obtain ⟨WB, hWB⟩ : ∃ W, W = wR r := ⟨_, rfl⟩
  rw [← hWB]
  have HWB := Lib.hid hWB
  clear hWB
  obtain ⟨ls, hls⟩ : ∃ ls, ls = r.ls := ⟨_, rfl⟩
  rw [← hls] at h hs
  have hn : ls.length = n := h.1.fits.1.symm
  have hnn : n ≤ 1048576 := by
    have : ∀ ls : List Lgv, ls.length ≤ (ls.map lgM).sum := fun ls => by
      induction ls with
      | nil => simp
      | cons l ls ih => rw [List.length_cons, List.map_cons, List.sum_cons]; have : 1 ≤ lgM l := by unfold lgM; omega
                        omega
    have := this ls
    omega
  have ci : ∀ u : World, Calls Try.prog 97 #[.int .u64 (r.used : Int)] u _ := fun u => wint_any r.used r.hu u
  change ∀ u : World, Calls Try.prog 97 #[.int .u64 (r.used : Int)] u (fun e w' => e = .returned (.agg (wcs r.used).toArray) ∧ Below u.heap.size u w') at ci
  have cn : ∀ u : World, Calls Try.prog 96 #[.agg (wcs r.used).toArray] u _ := fun u => pnum_fr r.used u
  obtain ⟨T1, hT1⟩ : ∃ T, T = numB (mkN r.good) := ⟨_, rfl⟩
  obtain ⟨T2, hT2⟩ : ∃ T, T = numB r.used := ⟨_, rfl⟩
  rw [← hT2] at cn
  have Ci := Lib.hid ci
  have Cn := Lib.hid cn
  have HT1 := Lib.hid hT1
  have HT2 := Lib.hid hT2
  have Hls := Lib.hid hls
  have Hn := Lib.hid hn
  have Hs := Lib.hid hs
  have Hw1 : Hid (w1 = w.alloc (.cells X.toArray 80)) := Lib.hid hw1
  rw [← hX]
  have HXl : Hid (X.length = 35) := Lib.hid (by rw [hX]; exact hxl)
  have c34 : w1.cell? ⟨w.heap.size, 34, none⟩ = some (.slice a n c) := (HC.out w1 hz).2.2.1
  obtain ⟨b, hb⟩ : ∃ b, b = r.good := ⟨_, rfl⟩
  have c0 : w1.cell? ⟨w.heap.size, 0, none⟩ = some (.bool b) := by rw [hb]; exact (HC.out w1 hz).1
  have Hb := Lib.hid hb
  clear hb hxl hX hw1 hlv ci cn hT1 hT2 hls hn hs
  go_enter Try.func46, Try.ntmps46
  cases b
  · go_upto_region 4 with (first
      | (go_at_call 95; rw [← Hw1.out]; refine (ptext_any none 0 0 _).mono ?_; rintro e w2 ⟨rfl, b2⟩; have bb2 := Below.then hbel b2; have z2 := hz.kept b2; have hs2 := b2.size)
      | ((with_reducible show wpList _ _ _ (⟨none, Op.store _ _ (Operand.tmp 10), _, _, _, _⟩ :: _) _ _); refine wpList_storeA (o := ⟨none, _, _, _, _, _⟩) (by rfl) 156 (.tmp 3) (.tmp 10) (by rfl) w2.heap.size [.bool false, .slice none 0 0, .slice none 0 0] (by rfl) (by rfl) aggItem (Blk.new w2 156 [.bool false, .slice none 0 0, .slice none 0 0]) (by rfl) (by rfl) (by intro u hu; simp at hu; rcases hu with rfl | rfl <;> rfl) ((Below.refl w2.heap.size w2).alloc (Nat.le_refl _) (.cells #[.bool false, .slice none 0 0, .slice none 0 0] 156)) (Nat.le_refl _) ?_; intro W0 m3 bE _; have zR := z2.kept bE; have bbR := Below.then bb2 bE; have d0 := (HC.out _ zR).1; rw [← Hb.out] at d0))
    have PK : ∃ sa sn sc, Blk 156 W0 w2.heap.size [.bool false, .slice sa sn sc, .slice none 0 0] ∧ Bytes W0 (.slice sa sn sc) T1 := ⟨none, 0, 0, m3, by rw [HT1.out, ← Hb.out, show numB (mkN false) = [] from by decide]; exact RowOf.nil b8 1 W0⟩
    clear m3
    obtain ⟨sa, sn, sc, m3, t3⟩ := PK
    obtain ⟨g3', hg3'⟩ : ∃ g, g = w2.heap.size := ⟨_, rfl⟩
    rw [← hg3'] at m3
    try rw [← hg3']
    have d34 := (HC.out W0 zR).2.2.1
    have hL := h.kept bbR
    have BB := Lib.hid bbR
    have ZR := Lib.hid zR
    have M3 := Lib.hid m3
    have T3 := Lib.hid t3
    clear hg3' d0 hz hbel hlt1 c34 z2 bb2 b2 hs2 c0 h zR bbR m3 t3 bE
    go_upto_region 5 with (first
      | (go_at_call 94; refine (plist_any none 0 0 _).mono ?_; rintro e y2 ⟨rfl, c2⟩; have hs2 := c2.size; have zz2 := ZR.out.kept c2)
      | ((with_reducible show wpList _ _ _ (⟨none, Op.store _ _ (Operand.tmp 15), _, _, _, _⟩ :: _) _ _); refine wpList_storeA (o := ⟨none, _, _, _, _, _⟩) (by rfl) 156 (.tmp 4) (.tmp 15) (by rfl) y2.heap.size [.bool true, .slice none 0 0, .slice none 0 0] (by rfl) (by rfl) aggItem (Blk.new y2 156 [.bool false, .slice none 0 0, .slice none 0 0]) (by rfl) (by rfl) (by intro u hu; simp at hu; rcases hu with rfl | rfl <;> rfl) ((Below.refl y2.heap.size y2).alloc (Nat.le_refl _) (.cells #[.bool false, .slice none 0 0, .slice none 0 0] 156)) (Nat.le_refl _) ?_; intro w8 hm8 b8 _; have z8 := zz2.kept b8; have d8 := (HC.out w8 z8).2.2.1))
    have F8 : LkV W0 [] y2.heap.size y2.heap.size (.slice none 0 0) [] w8 := ⟨Below.then c2 b8, by simp, hm8, OwnOf.nil icells 3 _ _ _, by simp [Value.ownBlock], by simp, hs2, Nat.le_refl _⟩
    obtain ⟨g3, hg3⟩ : ∃ g, g = y2.heap.size := ⟨_, rfl⟩
    rw [← hg3] at F8
    try rw [← hg3]
    clear c2 hs2 hm8 b8 z8 hg3 zz2 d34
    go_wp2_with fail
    clear d8
    go_loopw [19] (fun ix wr => ∃ (k : Nat) (kv : Value) (ks : List Itm), k ≤ n ∧ ix = .int .i64 (k : Int) ∧ LkV W0 [] g3 g3 kv ks wr ∧ Hid (ks.map erI = (ls.take k).map lgP ∧ bulkL ks ≤ 45 * ((ls.take k).map lgM).sum)) (fun ix _ => n - (intOf ix).toNat)
    case atStart => exact ⟨0, .slice none 0 0, [], by omega, rfl, F8, Lib.hid ⟨rfl, by simp [bulkL]⟩⟩
    case round =>
      clear F8
      obtain ⟨k, kv, ks, hk, rfl, F, Hks⟩ := hrel
      have hkl : ks.length = k := by
        have h1 := congrArg List.length Hks.out.1
        rw [List.length_map, List.length_map, List.length_take, Hn.out] at h1
        omega
      obtain ⟨ka, kc, rfl, _⟩ := F.hO.form' k hkl
      have Hkl := Lib.hid hkl
      clear hkl
      by_cases hlt : k < n
      · have hki : (k : Int) < (n : Int) := by omega
        have hl1 : k < ls.length := by rw [Hn.out]; exact hlt
        obtain ⟨b2, off2, rfl, hr⟩ := RowOf.range lgc_len (hL.1.below F.hb) k hl1
        have hin := hL.2 _ (List.getElem_mem hl1)
        have hpre := lgTs_pre hl1
        have hbd := Hs.out
        have hnx : (ls.take (k + 1)).map lgP = (ls.take k).map lgP ++ [lgP ls[k]] := by rw [List.take_succ_eq_append_getElem hl1, List.map_append]; rfl
        have hny : ((ls.take (k + 1)).map lgM).sum = ((ls.take k).map lgM).sum + lgM ls[k] := by rw [List.take_succ_eq_append_getElem hl1, List.map_append, List.sum_append]; simp
        generalize ls[k] = l at *
        have Hnx := Lib.hid hnx
        have Hny := Lib.hid hny
        have hll := lgc_len l
        obtain ⟨ta, tn, tc, htv⟩ : ∃ a n c, l.tv = .slice a n c := by obtain ⟨_, a, c, hv, _⟩ := hin.ht; exact ⟨_, _, _, hv⟩
        obtain ⟨da, dn, dc, hdv⟩ : ∃ a n c, l.dv = .slice a n c := by obtain ⟨_, a, c, hv, _⟩ := hin.hd; exact ⟨_, _, _, hv⟩
        have h1c := lgc_one l (by rw [htv]; rfl) (by rw [hdv]; rfl)
        have h8c := lgc_tops l
        rw [htv] at h8c
        have h9c := lgc_dat l
        rw [hdv] at h9c
        have htr := hin.ht
        rw [htv] at htr
        have hdr := hin.hd
        have htn : l.tops.length = tn := htr.fits.1.symm
        have htb : tn ≤ 1048576 := by omega
        have Hadr := Lib.hid (lgc_addr l)
        have H8c := Lib.hid h8c
        have H9c := Lib.hid h9c
        have Htr := Lib.hid htr
        have Hdr := Lib.hid hdr
        have Htn := Lib.hid htn
        have Hdv := Lib.hid hdv
        have Htv := Lib.hid htv
        clear hnx hny h8c h9c htr hdr htn hl1 hpre hdv htv hin
        have hlM : lgM l ≤ 1048576 := by have h1 := Hny.out; have h2 := lgM_take ls (k + 1); omega
        have hdin : l.In W0 := ⟨by rw [Htv.out]; exact Htr.out, by exact Hdr.out⟩
        have Rt : Hid (∀ u (g : Nat), Logs u (.slice (some ⟨g, 0, none⟩) 1 1) [l] → Calls Try.prog 44 #[.slice (some ⟨g, 0, none⟩) 1 1] u (TextsP ([l].flatMap lgTs) u)) := Lib.hid fun u g hu => rtexts_any (some ⟨g, 0, none⟩) 1 1 [l] rfl (by simpa using hlM) u hu
        have Hin := Lib.hid hdin
        clear hlM hdin
        go_upto_region 9 with (first
          | (refine wpList_load_mid (op := ⟨some 22, _, _, _, _, _⟩) (by rfl) 143 (.tmp 21) (by rfl) b2 (off2 + k * 10) (by rfl) (lgc l) _ hr Try.underlying143 rfl (by rw [hll]; kernel_rfl) ?_)
          | ((with_reducible show wpList _ _ _ (⟨none, Op.store _ _ (Operand.tmp 22), _, _, _, _⟩ :: _) _ _); refine wpList_storeA (o := ⟨none, _, _, _, _, _⟩) (by rfl) 143 (.tmp 6) (.tmp 22) (by rfl) wr.heap.size (lgc l) (by rfl) (by rfl) aggLog (Blk.newA wr 143 _) hll (by first | rfl | kernel_rfl) h1c ((Below.refl wr.heap.size wr).alloc (Nat.le_refl _) _) (Nat.le_refl _) ?_; intro w6 z6 b6 _; have F6 := F.kept b6; have hl6 := z6.lt)
          | (go_at_call 94; refine (plist_any none 0 0 _).mono ?_; rintro e w7 ⟨rfl, b7⟩; have F7 := F6.kept b7; have z7 := z6.kept b7; have hs7 := b7.size)
          | ((with_reducible show wpList _ _ _ (⟨none, Op.store _ _ (Operand.tmp 23), _, _, _, _⟩ :: _) _ _); refine wpList_storeA (o := ⟨none, _, _, _, _, _⟩) (by rfl) 156 (.tmp 7) (.tmp 23) (by rfl) w7.heap.size [.bool true, .slice none 0 0, .slice none 0 0] (by rfl) (by rfl) aggItem (Blk.new w7 156 [.bool false, .slice none 0 0, .slice none 0 0]) (by rfl) (by rfl) (by intro u hu; simp at hu; rcases hu with rfl | rfl <;> rfl) ((Below.refl w7.heap.size w7).alloc (Nat.le_refl _) (.cells #[.bool false, .slice none 0 0, .slice none 0 0] 156)) (Nat.le_refl _) ?_; intro w8 m8 b8 _; have z8 := z7.kept b8))
        have G8 : LkW w6 [(143, wr.heap.size, lgc l)] w7.heap.size (.slice none 0 0) (txts []) w8 := ⟨Below.then b7 b8, fun p hp => by rw [List.mem_singleton] at hp; subst hp; exact ⟨z8, Nat.lt_of_lt_of_le hl6 hs7⟩, m8, OwnOf.nil icells 3 _ _ _, by simp [txts], hs7⟩
        obtain ⟨g5, hg5⟩ : ∃ g, g = wr.heap.size := ⟨_, rfl⟩
        have hgs : ∀ x, (Value.slice ka k kc).ownBlock = some x → x < g5 := fun x hx => by rw [hg5]; exact own_ltK F.hO hx
        have hg35 : g3 < g5 := by rw [hg5]; exact F.hm.lt
        have hl67 := hs7
        rw [← hg5] at G8 hl6
        try rw [← hg5]
        obtain ⟨g6, hg6⟩ : ∃ g, g = w7.heap.size := ⟨_, rfl⟩
        rw [← hg6] at G8 hl67
        try rw [← hg6]
        have gl6 : Blk 143 w8 g5 (lgc l) := (G8.hz _ List.mem_cons_self).1
        clear z6 z7 z8 m8 b6 b7 b8 hs7 hr h1c F hg5 hg6 F7
        go_wp2_with (first
          | (refine wpList_loadA (o := ⟨some 24, _, _, _, _, _⟩) (by rfl) 143 (.tmp 6) (by rfl) g5 (by rfl) aggLog gl6 hll ?_)
          | (refine wpList_buildW (o := ⟨some 25, _, _, _, _, _⟩) (by rfl) 78 1 [(0, .tmp 24)] (by rfl) elLog [l] [.agg (lgc l).toArray] (by rfl) (by rfl) (by rfl) (by omega) (by omega) ?_; intro wR _ rR bR; have GR := G8.kept bR; have hLg : Logs wR (.slice (some ⟨w8.heap.size, 0, none⟩) 1 1) [l] := ⟨rR, fun x hx => (by rw [List.mem_singleton] at hx; subst hx; exact Hin.out.kept (F6.kept GR.hb).hb)⟩)
          | (go_at_call 44; (with_reducible refine (Rt.out _ _ hLg).mono ?_); rintro e wT ⟨qa, qn, qc, qs, rfl, TL, hqm⟩; obtain rfl : qn = tn + 1 := (by have h1 := TL.oo.row.fits.1; have h2 := congrArg List.length hqm; simp [lgTs] at h2; have h3 := Htn.out; omega); obtain ⟨a63, c63, run63, row63, own63⟩ := from_anyB elTx TL.oo.row 1 (by omega) 1 rfl; rw [show tn + 1 - 1 = tn by omega] at run63 row63 own63))
        have GT := GR.kept TL.hb
        have hg6R : g6 < wR.heap.size := GR.hm.lt
        obtain ⟨QS, hQS⟩ : ∃ Q, Q = qs.drop 1 := ⟨_, rfl⟩
        have hqmap : QS.map (·.2) = l.tops.map wb := by rw [hQS, List.map_drop, hqm]; simp [lgTs]
        have hqt : ∀ q ∈ QS, Bytes wT q.1 q.2 ∧ ∀ x, q.1.ownBlock = some x → g6 + 1 ≤ x ∧ x < wT.heap.size := fun q hq => by
          rw [hQS] at hq
          obtain ⟨h1, h2⟩ := TL.tx q (List.mem_of_mem_drop hq)
          exact ⟨h1, fun x hx => by obtain ⟨h3, h4, _⟩ := h2 x hx; omega⟩
        have hqr : ∀ u, wT.grownBy u (some g6) → Texts u (.slice a63 tn c63) QS := fun u hu => by
          refine ⟨?_, fun q hq => ?_⟩
          · rw [hQS]
            exact RowOf.offT row63 hu (fun x hx => by have := TL.oo.lt x (own63 x hx _ _); omega)
          · obtain ⟨h1, h2⟩ := hqt q hq
            exact RowOf.offT h1 hu (fun x hx => by have := (h2 x hx).1; omega)
        have hql : QS.length = tn := by have := congrArg List.length hqmap; simp at this; rw [this]; exact Htn.out
        have HQm := Lib.hid hqmap
        have HQt := Lib.hid hqt
        have HQr := Lib.hid hqr
        have HQl := Lib.hid hql
        clear hqmap hqt hqr hql hQS row63 own63 run63 TL hqm GR rR bR gl6 hll G8 hLg
        go_loopw [29] (fun ix wr => ∃ (j : Nat) (tkv : Value) (ps : List (Value × List UInt8)), j ≤ tn ∧ ix = .int .i64 (j : Int) ∧ LkW w6 [(143, g5, lgc l)] g6 tkv (txts ps) wr ∧ wT.grownBy wr (some g6) ∧ (∀ x, tkv.ownBlock = some x → wT.heap.size ≤ x) ∧ Hid (ps.map (·.2) = (l.tops.take j).map wb)) (fun ix _ => tn - (intOf ix).toNat)
        case atStart => exact ⟨0, .slice none 0 0, [], by omega, rfl, GT, bel_grown (Below.refl _ _) _, by simp [Value.ownBlock], Lib.hid rfl⟩
        case round =>
          clear GT
          obtain ⟨j, tkv, ps, hj, rfl, G, hgw, hto, Hps⟩ := hrel
          have hpl : (txts ps).length = j := by
            have := congrArg List.length Hps.out
            rw [List.length_map, List.length_map, List.length_take, Htn.out] at this
            unfold txts
            rw [List.length_map]; omega
          obtain ⟨ja, jc, rfl, _⟩ := G.hO.form' j hpl
          have Hpl := Lib.hid hpl
          clear hpl
          have FF := F6.kept G.hb
          by_cases hjt : j < tn
          · have hji : (j : Int) < (tn : Int) := by omega
            have hj1 : j < l.tops.length := by rw [Htn.out]; exact hjt
            obtain ⟨b3, off3, q, rfl, hq, hc3, hb3⟩ := (HQr.out wr hgw).at j (by rw [HQl.out]; exact hjt)
            have hstep : (l.tops.take (j + 1)).map wb = (l.tops.take j).map wb ++ [q.2] := by
              rw [List.map_take, List.map_take, ← HQm.out, List.take_succ_eq_append_getElem (by rw [List.length_map, HQl.out]; exact hjt), List.getElem_map]
              have : QS[j]'(by rw [HQl.out]; exact hjt) = q := by rw [List.getElem?_eq_getElem (by rw [HQl.out]; exact hjt)] at hq; exact Option.some.inj hq
              rw [this]
            have hqo := (HQt.out q (List.mem_of_getElem? hq)).2
            obtain ⟨qv, QT⟩ := q
            change Bytes wr qv QT at hb3
            change wr.cell? _ = some qv at hc3
            obtain ⟨pa, pc, rfl, _⟩ := hb3.form
            obtain ⟨pn, hpn⟩ : ∃ n, n = QT.length := ⟨_, rfl⟩
            dsimp only at hc3 hb3 hqo hstep
            rw [← hpn] at hc3 hb3 hqo
            have hqo2 : ∀ x, (Value.slice pa pn pc).ownBlock = some x → g6 + 1 ≤ x ∧ (Value.slice ja j jc).ownBlock ≠ some x := fun x hx => ⟨(hqo x hx).1, fun e => by have h1 := hto x e; have h2 := (hqo x hx).2; omega⟩
            have Hqo := Lib.hid hqo2
            have Hb3 := Lib.hid hb3
            have Hstep := Lib.hid hstep
            have hc3' : wr.cell? ⟨b3, off3 + j, none⟩ = some (.slice pa pn pc) := hc3
            clear hstep hj1 FF hq hqo hqo2 hpn hb3 hc3
            go_upto_region 12 with fail
            have k1 := fun u : Ext wr => u.cell ((G.hm.cell 2).trans (show _ = some (Value.slice ja j jc) from rfl))
            clear hc3'
            refine wp_region_typed wr 5 (by kernel_rfl) (by kernel_rfl) (Below.refl _ _) ?_; simp only [List.take_succ_cons, List.take_zero, List.take_nil]
            iterate 3 (refine wpX_step (by rfl) (fun K hK => ?_); go_simp; first | (refine hK _ ?_; clear hK K) | (apply Exists.intro; refine ⟨fun _ => ?_, hK _ ?_⟩; fail; clear hK K))
            (refine wpX_step (by rfl) (fun K hK => ?_); go_simp; first | (refine hK _ ?_; clear hK K) | (apply Exists.intro; refine ⟨fun _ => ?_, hK _ ?_⟩; exact ptext_any _ _ _ _; clear hK K))
            refine wpX_rel 37 (OneC (.slice pa pn pc) QT) rfl (of_decide_eq_true rfl) (OneC.mono _ _) (fun w2 hw2 => ?_) ?_
            · simp only [relOf, List.filter_nil, forallRel]
              refine ⟨rfl, ?_⟩
              go_simp
              have hb18 : Below w2.heap.size w2 (w2.alloc (.cells #[.bool false, .slice pa pn pc, .slice none 0 0] 156)) := (Below.refl _ _).alloc (Nat.le_refl _) _
              exact ⟨hb18, w2.heap.size, rfl, Row.built icells_len w2 156 [txt (.slice pa pn pc) QT] 1 rfl (by unfold maxLen; omega)⟩
            refine wpX_nil ?_
            intro u2 hb2 v19 h19
            change wpList _ _ _ [_, _, _] _ _
            obtain ⟨g19, rfl, r19⟩ := h19
            have G2 := G.kept hb2
            have Fp2 : Fp (fun x => g6 + 1 ≤ x ∧ (Value.slice ja j jc).ownBlock ≠ some x) u2 (txt (.slice pa pn pc) QT) := fp_at (RowOf.kept Hb3.out hb2) (fun b hb => Hqo.out b hb)
            clear k1
            try simp only [Act.put, List.setIfInBounds_toArray, List.set_cons_zero, List.set_cons_succ]
            go_wp2_with (refine wpList_appB (o := ⟨some 38, _, _, _, _, _⟩) (by rfl) (.tmp 34) (.tmp 37) 154 (by rfl) elItem (by intro u hu; simp [txt, icells] at hu; rcases hu with rfl | rfl | rfl <;> rfl) (by rfl) G2.hO (by rfl) r19 G2.hm.lt (by rw [Hpl.out]; simp; omega) (by rw [Hpl.out]; unfold maxLen; simp; omega) ?_; intro v5 w5 hO5 gg5 pp5; obtain ⟨a5, c5, rfl, _⟩ := hO5.form' (j + 1) (by rw [List.length_append, Hpl.out]; rfl); have G5 := G2.grew Fp2 gg5 hO5 pp5; have hne5 : (Value.slice ja j jc).ownBlock ≠ some g6 := fun e => (by have := G2.hO.lt g6 e; omega); obtain ⟨y5, hy5⟩ := (G2.hm.grown gg5 hne5).has 2 (by simp); have hf5 := (G2.hm.grown gg5 hne5).free 2)
            rw [← txts_snoc' ps (.slice pa pn pc, QT)] at G5
            have hgw5 : wT.grownBy (w5.setCell ⟨g6, 2, none⟩ (.slice a5 (j + 1) c5)) (some g6) := ((hgw.andThen (bel_grown hb2 none) (by simp)).andThen gg5 (fun x hx => .inl (hto x hx))).andThen (grown_cell 2 _) (fun x hx => .inr hx)
            have hto5 : ∀ x, (Value.slice a5 (j + 1) c5).ownBlock = some x → wT.heap.size ≤ x := fun x hx => by
              rcases pp5 x hx with h1 | h1
              · exact hto x h1
              · exact Nat.le_trans (Nat.le_trans hgw.size hb2.size) h1
            go_roundw
            case rel => exact ⟨j + 1, .slice a5 (j + 1) c5, ps ++ [(.slice pa pn pc, QT)], by omega, by go_num, G5, hgw5, hto5, Lib.hid (by rw [List.map_append, Hps.out, Hstep.out]; rfl)⟩
            case measure => simp [intOf]; omega
          · obtain rfl : j = tn := by omega
            have hall : ps.map (·.2) = l.tops.map wb := by rw [Hps.out, List.take_of_length_le (by rw [Htn.out]; exact Nat.le_refl _)]
            have Hall := Lib.hid hall
            clear hall Hps
            go_upto_region 14 with fail
            have CS : Hid (∀ u, Below wr.heap.size wr u → Blk 143 u g5 (lgc l)) := Lib.hid fun u hu => ((G.hz _ List.mem_cons_self).1).kept hu
            have k2 := fun u : Ext wr => u.cell ((FF.hm.cell 2).trans (show _ = some (Value.slice ka k kc) from rfl))
            have k9 := fun u : Ext wr => u.cell (((G.hz _ List.mem_cons_self).1.cell 9).trans H9c.out)
            have s8 := fun off u => sl8 g5 off u
            have RG := Lib.hid (Blk.all0 G.hm)
            have hgl := G.hm.lt
            rw [Hdv.out] at Hdr
            refine wp_region_typed wr 12 (by kernel_rfl) (by kernel_rfl) (Below.refl _ _) ?_; simp only [List.take_succ_cons, List.take_zero, List.take_nil]
            iterate 4 (refine wpX_step (by rfl) (fun K hK => ?_); go_simp; first | (refine hK _ ?_; clear hK K) | (apply Exists.intro; refine ⟨fun _ => ?_, hK _ ?_⟩; fail; clear hK K))
            (refine wpX_step (by rfl) (fun K hK => ?_); go_simp; first | (refine hK _ ?_; clear hK K) | (apply Exists.intro; refine ⟨fun _ => ?_, hK _ ?_⟩; exact ptext_any _ _ _ _; clear hK K))
            (refine wpX_step (by rfl) (fun K hK => ?_); rw [if_pos (by rfl)]; refine ⟨_, fun u => const_loadm _ (.tmp 7) (by rfl) _ _ (by rfl) aggItem (by rfl) (rangeAt.ext RG.out u), hK _ ?_⟩; clear hK K; simp only [Act.put, List.setIfInBounds_toArray, List.set_cons_zero, List.set_cons_succ])
            iterate 2 (refine wpX_step (by rfl) (fun K hK => ?_); go_simp; first | (refine hK _ ?_; clear hK K) | (apply Exists.intro; refine ⟨fun _ => ?_, hK _ ?_⟩; fail; clear hK K))
            (refine wpX_step (by rfl) (fun K hK => ?_); go_simp; first | (refine hK _ ?_; clear hK K) | (apply Exists.intro; refine ⟨fun _ => ?_, hK _ ?_⟩; exact ptext_any _ _ _ _; clear hK K))
            refine wpX_rel 50 (SlI wr.heap.size 3 [.bool false, .slice (some ⟨g5, 0, none⟩) 8 8, .slice none 0 0, .bool true, .slice none 0 0, .slice ja j jc, .bool false, .slice da dn dc, .slice none 0 0]) rfl (of_decide_eq_true rfl) (SlI.mono _ _ _) (fun w2 hw2 => ?_) ?_
            · simp only [relOf, List.filter_nil, forallRel]
              refine ⟨rfl, ?_⟩
              go_simp
              exact ⟨(Below.refl _ _).alloc (Nat.le_refl _) _, w2.heap.size, rfl, hw2.size, Blk.new w2 _ _⟩
            refine wpX_rel 51 (AgI wr.heap.size 3 [.bool false, .slice (some ⟨g5, 0, none⟩) 8 8, .slice none 0 0, .bool true, .slice none 0 0, .slice ja j jc, .bool false, .slice da dn dc, .slice none 0 0]) rfl (of_decide_eq_true rfl) (AgI.mono _ _ _) (fun w2 hw2 => ?_) ?_
            · change forallRel w2 [(50, _)] _ _
              rintro v45 ⟨g, rfl, hgB, hgb⟩
              simp only [forallRel, List.drop_succ_cons, List.drop_zero, List.drop_nil]
              refine ⟨rfl, ?_⟩
              go_simp
              refine (plist_any _ _ _ _).mono ?_
              rintro e w3 ⟨rfl, b3⟩
              exact ⟨_, rfl, ⟨g, rfl, hgB, hgb.kept b3⟩, b3⟩
            refine wpX_rel 52 (One2 wr.heap.size 3 [.bool false, .slice (some ⟨g5, 0, none⟩) 8 8, .slice none 0 0, .bool true, .slice none 0 0, .slice ja j jc, .bool false, .slice da dn dc, .slice none 0 0]) rfl (of_decide_eq_true rfl) (One2.mono _ _ _) (fun w2 hw2 => ?_) ?_
            · change forallRel w2 [(51, _)] _ _
              rintro v46 ⟨g, rfl, hgB, hgb⟩
              simp only [forallRel, List.drop_succ_cons, List.drop_zero, List.drop_nil]
              refine ⟨rfl, ?_⟩
              go_simp
              have hb18 : Below w2.heap.size w2 (w2.alloc (.cells #[.bool true, .slice none 0 0, .slice (some ⟨g, 0, none⟩) 3 3] 156)) := (Below.refl _ _).alloc (Nat.le_refl _) _
              exact ⟨hb18, g, w2.heap.size, rfl, hgB, hw2.size, hgb.kept hb18, Blk.new w2 _ _⟩
            refine wpX_nil ?_
            intro u2 hb2 v45 h45 v46 h46 v47 h47
            change wpList _ _ _ [_, _, _] _ _
            obtain ⟨gk, gk', rfl, hgB, hgB', zg, zg'⟩ := h47
            have F2 := FF.kept hb2
            have G2 := G.kept hb2
            have Fp2 : Fp (fun x => x ≠ g3 ∧ (Value.slice ka k kc).ownBlock ≠ some x) u2 (lgI (.slice (some ⟨g5, 0, none⟩) 8 8) (.slice ja j jc) ps (.slice (some ⟨gk, 0, none⟩) 3 3) l) :=
              lgI_fp G2 (by rw [Hdv.out]; exact zg) (by omega) ⟨by omega, fun e => by have := hgs g5 e; omega⟩ (fun x hx => ⟨by omega, fun e => by have := hgs x e; omega⟩) ((CS.out u2 hb2).bytesAt 0 8 _ Hadr.out l.len (by unfold maxLen; omega)) (by rw [Hdv.out]; exact F2.low' Hdr.out F2.h1 F2.hb)
            have r19 := (Blk.own (f := icells) (size := 3) (l := [lgI (.slice (some ⟨g5, 0, none⟩) 8 8) (.slice ja j jc) ps (.slice (some ⟨gk, 0, none⟩) 3 3) l]) zg' 1 icells_len rfl (Nat.zero_le _) (by unfold maxLen; omega)).row
            obtain ⟨IT, hIT⟩ : ∃ I, I = lgI (.slice (some ⟨g5, 0, none⟩) 8 8) (.slice ja j jc) ps (.slice (some ⟨gk, 0, none⟩) 3 3) l := ⟨_, rfl⟩
            have hie : erI IT = lgP l := by rw [hIT]; exact lgI_er Hall.out
            have hib : bulkI IT ≤ 45 * lgM l := by rw [hIT]; exact lgI_bulk Hall.out
            have hic : ∀ u ∈ [IT].flatMap icells, u.oneCell' = true := by
              rw [hIT]
              intro u hu
              simp [lgI, lst, icells] at hu
              rcases hu with rfl | rfl | rfl <;> rfl
            rw [← hIT] at Fp2 r19
            have Hie := Lib.hid hie
            have Hib := Lib.hid hib
            clear hIT hie hib k2 k9 s8 RG G G2 FF zg zg' h45 h46 CS
            try simp only [Act.put, List.setIfInBounds_toArray, List.set_cons_zero, List.set_cons_succ]
            go_wp2_with (refine wpList_appB (o := ⟨some 53, _, _, _, _, _⟩) (by rfl) (.tmp 42) (.tmp 52) 154 (by rfl) elItem hic (by rfl) F2.hO (by rfl) r19 (Nat.le_trans F2.h2 (Nat.le_of_lt F2.hm.lt)) (by rw [Hkl.out]; simp; omega) (by rw [Hkl.out]; unfold maxLen; simp; omega) ?_; intro v5 w5 hO5 gg5 pp5; obtain ⟨a5, c5, rfl, _⟩ := hO5.form' (k + 1) (by rw [List.length_append, Hkl.out]; rfl); have F5 := F2.grew Fp2 gg5 hO5 pp5; have hne5 := F2.hn; obtain ⟨y5, hy5⟩ := (F2.hm.grown gg5 hne5).has 2 (by simp); have hf5 := (F2.hm.grown gg5 hne5).free 2)
            go_roundw
            case rel =>
              refine ⟨k + 1, .slice a5 (k + 1) c5, ks ++ [IT], by omega, by go_num, F5, Lib.hid ⟨?_, ?_⟩⟩
              · rw [List.map_append, Hks.out.1, Hnx.out]
                show _ ++ [erI IT] = _
                rw [Hie.out]
              · rw [bulkL_app, Hny.out, bulkL, bulkL]
                have h1 := Hks.out.2
                have h2 := Hib.out
                omega
            case measure => simp [intOf]; omega
      · obtain rfl : k = n := by omega
        have hke : ks.map erI = r.ls.map lgP := by rw [Hks.out.1, List.take_of_length_le (by rw [Hn.out]; exact Nat.le_refl _), Hls.out]
        have hkb : bulkL ks ≤ 45 * 1048576 := by have h1 := Hks.out.2; have h2 := lgM_take ls k; have h3 := Hs.out; omega
        have hB := ZR.out.kept F.hb
        obtain ⟨D, hD⟩ : ∃ D, D = r.bloom := ⟨_, rfl⟩
        have hE : ∀ (g : Nat) (v1 v2 v3 : Value), encI (rcI g v1 T1 v2 T2 v3 D (lst (.slice ka k kc) ks)) = WB := fun g v1 v2 v3 => by rw [HWB.out, HT1.out, HT2.out, hD]; exact rcI_enc hke
        have hbk : ∀ (g : Nat) (v1 v2 v3 : Value), bulkI (rcI g v1 T1 v2 T2 v3 D (lst (.slice ka k kc) ks)) ≤ 200 + 45 * 1048576 := fun g v1 v2 v3 => by rw [HT1.out, HT2.out, hD]; exact rcI_bulk (r := r) hkb
        have c1 := fun u : Ext wr => (HC.out u.val (hB.kept u.property)).2.1
        have c2 : Hid (∀ u, Below wr.heap.size wr u → Bytes u (.slice (some ⟨w.heap.size, 2, none⟩) 32 32) D) := Lib.hid fun u hu => by rw [hD]; exact (HC.out u (hB.kept hu)).2.2.2
        have c3 : Hid (∀ u, Below wr.heap.size wr u → Bytes u (.slice sa sn sc) T1) := Lib.hid fun u hu => (T3.out.kept F.hb).kept hu
        have s32 := fun off u => sl32 w.heap.size off u
        have RG := Lib.hid (Blk.all0 F.hm)
        have R3 := Lib.hid (Blk.all0 (M3.out.kept F.hb))
        have HE := Lib.hid hE
        have HBk := Lib.hid hbk
        clear hke hkb hB hE hbk hD
        go_upto_region 16 with fail
        refine wp_region_typed wr 13 (by kernel_rfl) (by kernel_rfl) (Below.refl _ _) ?_; simp only [List.take_succ_cons, List.take_zero, List.take_nil]
        (refine wpX_step (by rfl) (fun K hK => ?_); rw [if_pos (by rfl)]; refine ⟨_, fun u => const_loadm _ (.tmp 3) (by rfl) _ _ (by rfl) aggItem (by rfl) (rangeAt.ext R3.out u), hK _ ?_⟩; clear hK K; simp only [Act.put, List.setIfInBounds_toArray, List.set_cons_zero, List.set_cons_succ])
        iterate 2 (refine wpX_step (by rfl) (fun K hK => ?_); go_simp; first | (refine hK _ ?_; clear hK K) | (apply Exists.intro; refine ⟨fun _ => ?_, hK _ ?_⟩; fail; clear hK K))
        (refine wpX_step (by rfl) (fun K hK => ?_); go_simp; first | (refine hK _ ?_; clear hK K) | (apply Exists.intro; refine ⟨fun _ => ?_, hK _ ?_⟩; exact Ci.out _; clear hK K))
        refine wpX_rel 60 (TxB wr.heap.size T2) rfl (of_decide_eq_true rfl) (TxB.mono _ _) (fun w2 hw2 => ?_) ?_
        · simp only [relOf, List.filter_nil, forallRel]
          refine ⟨rfl, ?_⟩
          go_simp
          refine (Cn.out w2).mono ?_
          rintro e w3 ⟨v, rfl, o3, b3⟩
          exact ⟨v, rfl, o3.lower hw2.size, b3⟩
        refine wpX_rel 61 (TxtO wr.heap.size T2) rfl (of_decide_eq_true rfl) (TxtO.mono _ _) (fun w2 hw2 => ?_) ?_
        · change forallRel w2 [(60, _)] _ _
          intro v17 h17
          obtain ⟨a17, c17, rfl, _⟩ := h17.1.form
          simp only [forallRel, List.drop_succ_cons, List.drop_zero, List.drop_nil]
          refine ⟨rfl, ?_⟩
          go_simp
          refine (ptext_any _ _ _ _).mono ?_
          rintro e w3 ⟨rfl, b3⟩
          exact ⟨_, rfl, ⟨a17, _, c17, rfl, TxB.mono _ _ _ _ _ h17 b3⟩, b3⟩
        iterate 2 (refine wpX_step (by rfl) (fun K hK => ?_); go_simp; first | (refine hK _ ?_; clear hK K) | (apply Exists.intro; refine ⟨fun _ => ?_, hK _ ?_⟩; fail; clear hK K))
        (refine wpX_step (by rfl) (fun K hK => ?_); go_simp; first | (refine hK _ ?_; clear hK K) | (apply Exists.intro; refine ⟨fun _ => ?_, hK _ ?_⟩; exact ptext_any _ _ _ _; clear hK K))
        (refine wpX_step (by rfl) (fun K hK => ?_); rw [if_pos (by rfl)]; refine ⟨_, fun u => const_loadm _ (.tmp 4) (by rfl) _ _ (by rfl) aggItem (by rfl) (rangeAt.ext RG.out u), hK _ ?_⟩; clear hK K; simp only [Act.put, List.setIfInBounds_toArray, List.set_cons_zero, List.set_cons_succ])
        refine wpX_rel 66 (FourR wr.heap.size (.slice sa sn sc) T1 T2 (.slice (some ⟨w.heap.size, 2, none⟩) 32 32) D (lst (.slice ka k kc) ks)) rfl (of_decide_eq_true rfl) (FourR.mono _ _ _ _ _ _ _) (fun w2 hw2 => ?_) ?_
        · change forallRel w2 [(61, _)] _ _
          rintro v56 ⟨a2, m2, c2', rfl, t2⟩
          simp only [forallRel, List.drop_succ_cons, List.drop_zero, List.drop_nil]
          refine ⟨rfl, ?_⟩
          go_simp
          have hb18 : Below w2.heap.size w2 (w2.alloc (.cells #[.bool false, .slice sa sn sc, .slice none 0 0, .bool false, .slice a2 m2 c2', .slice none 0 0, .bool false, .slice (some ⟨w.heap.size, 2, none⟩) 32 32, .slice none 0 0, .bool true, .slice none 0 0, .slice ka k kc] 156)) := (Below.refl _ _).alloc (Nat.le_refl _) _
          exact ⟨hb18, w2.heap.size, a2, m2, c2', rfl, Row.built icells_len w2 156 [txt (.slice sa sn sc) T1, txt (.slice a2 m2 c2') T2, txt (.slice (some ⟨w.heap.size, 2, none⟩) 32 32) D, lst (.slice ka k kc) ks] 4 rfl (by unfold maxLen; omega), TxB.mono _ _ _ _ _ t2 hb18⟩
        refine wpX_rel 67 (AgFourR wr.heap.size (.slice sa sn sc) T1 T2 (.slice (some ⟨w.heap.size, 2, none⟩) 32 32) D (lst (.slice ka k kc) ks)) rfl (of_decide_eq_true rfl) (AgFourR.mono _ _ _ _ _ _ _) (fun w2 hw2 => ?_) ?_
        · change forallRel w2 [(66, _)] _ _
          rintro v61 ⟨g, a2, m2, c2', rfl, hr4, t2⟩
          simp only [forallRel, List.drop_succ_cons, List.drop_zero, List.drop_nil]
          refine ⟨rfl, ?_⟩
          go_simp
          refine (plist_any _ _ _ _).mono ?_
          rintro e w3 ⟨rfl, b3⟩
          exact ⟨_, rfl, ⟨g, a2, m2, c2', rfl, RowOf.kept hr4 b3, TxB.mono _ _ _ _ _ t2 b3⟩, b3⟩
        refine wpX_rel 68 (BytT WB) rfl (of_decide_eq_true rfl) (BytT.mono _) (fun w2 hw2 => ?_) ?_
        · change forallRel w2 [(67, _)] _ _
          rintro v62 ⟨g, a2, m2, c2', rfl, hr4, t2⟩
          simp only [forallRel, List.drop_succ_cons, List.drop_zero, List.drop_nil]
          refine ⟨rfl, ?_⟩
          go_simp
          have hI := rcI_is hr4 (c3.out w2 hw2) t2.1 (c2.out w2 hw2) ((F.kept hw2).is)
          refine (pencode_any (200 + 45 * 1048576) (rcI g (.slice sa sn sc) T1 (.slice a2 m2 c2') T2 (.slice (some ⟨w.heap.size, 2, none⟩) 32 32) D (lst (.slice ka k kc) ks)) w2 (HBk.out _ _ _ _) (by omega) hI).mono ?_
          rintro e w3 ⟨v, rfl, o3, b3⟩
          exact ⟨v, rfl, by have := o3; rw [HE.out] at this; exact this, b3⟩
        refine wpX_nil ?_
        intro u2 hb2 v60 _ v61 _ v66 _ v67 _ v68 h68
        change wpList _ _ _ [_] _ _
        try simp only [Act.put, List.setIfInBounds_toArray, List.set_cons_zero, List.set_cons_succ]
        go_wp2_with fail
        go_ret
        exact ⟨v68, rfl, h68, Below.then BB.out (Below.then F.hb hb2)⟩
  · go_upto_region 4 with (first
      | (go_at_call 95; first
          | (refine (ptext_any (some ⟨w3.heap.size, 0, none⟩) 1 1 _).mono ?_; rintro e w5 ⟨rfl, b5⟩; have b4 : Below w3.heap.size w3 (w3.alloc (.cells #[Value.int .u8 1] 5)) := (Below.refl _ _).alloc (Nat.le_refl _) _; have b45 := Below.then b4 b5; have zR5 := zR.kept b45; have bbR5 := Below.then bbR b45; have m5 := m3.kept b45; have t4 : Bytes (w3.alloc (.cells #[Value.int .u8 1] 5)) (.slice (some ⟨w3.heap.size, 0, none⟩) 1 1) [1] := (Blk.new w3 5 [Value.int .u8 1]).bytesAt 0 1 [1] rfl rfl (by unfold maxLen; omega); have t5 := t4.kept b5)
          | (rw [← Hw1.out]; refine (ptext_any none 0 0 _).mono ?_; rintro e w2 ⟨rfl, b2⟩; have bb2 := Below.then hbel b2; have z2 := hz.kept b2; have hs2 := b2.size))
      | ((with_reducible show wpList _ _ _ (⟨none, Op.store _ _ (Operand.tmp 10), _, _, _, _⟩ :: _) _ _); refine wpList_storeA (o := ⟨none, _, _, _, _, _⟩) (by rfl) 156 (.tmp 3) (.tmp 10) (by rfl) w2.heap.size [.bool false, .slice none 0 0, .slice none 0 0] (by rfl) (by rfl) aggItem (Blk.new w2 156 [.bool false, .slice none 0 0, .slice none 0 0]) (by rfl) (by rfl) (by intro u hu; simp at hu; rcases hu with rfl | rfl <;> rfl) ((Below.refl w2.heap.size w2).alloc (Nat.le_refl _) (.cells #[.bool false, .slice none 0 0, .slice none 0 0] 156)) (Nat.le_refl _) ?_; intro w3 m3 bE _; have zR := z2.kept bE; have bbR := Below.then bb2 bE; have d0 := (HC.out _ zR).1; rw [← Hb.out] at d0)
      | ((with_reducible show wpList _ _ _ (⟨none, Op.store _ _ (Operand.tmp 14), _, _, _, _⟩ :: _) _ _); refine wpList_storeA (o := ⟨none, _, _, _, _, _⟩) (by rfl) 156 (.tmp 3) (.tmp 14) (by rfl) w2.heap.size [.bool false, .slice (some ⟨w3.heap.size, 0, none⟩) 1 1, .slice none 0 0] (by rfl) (by rfl) aggItem m5 (by rfl) (by rfl) (by intro u hu; simp at hu; rcases hu with rfl | rfl | rfl <;> rfl) (Below.refl w2.heap.size _) (Nat.le_refl _) ?_; intro W0 m6 b6 g6'))
    replace zR := zR5.grown g6' (by simp; omega)
    replace bbR := bbR5.grown g6' bbR5.size (fun x hx => by cases hx; exact bb2.size)
    have PK : ∃ sa sn sc, Blk 156 W0 w2.heap.size [.bool false, .slice sa sn sc, .slice none 0 0] ∧ Bytes W0 (.slice sa sn sc) T1 := ⟨some ⟨w3.heap.size, 0, none⟩, 1, 1, m6, by
      rw [HT1.out, ← Hb.out, show numB (mkN true) = [1] from by decide]
      exact RowOf.offT t5 g6' (fun x hx => by simp only [Value.ownBlock, Option.some.injEq] at hx; subst hx; have := m3.lt; omega)⟩
    clear m3
    obtain ⟨sa, sn, sc, m3, t3⟩ := PK
    obtain ⟨g3', hg3'⟩ : ∃ g, g = w2.heap.size := ⟨_, rfl⟩
    rw [← hg3'] at m3
    try rw [← hg3']
    have d34 := (HC.out W0 zR).2.2.1
    have hL := h.kept bbR
    have BB := Lib.hid bbR
    have ZR := Lib.hid zR
    have M3 := Lib.hid m3
    have T3 := Lib.hid t3
    clear hg3' d0 hz hbel hlt1 c34 z2 bb2 b2 hs2 c0 h zR bbR m3 t3 bE
    go_upto_region 5 with (first
      | (go_at_call 94; refine (plist_any none 0 0 _).mono ?_; rintro e y2 ⟨rfl, c2⟩; have hs2 := c2.size; have zz2 := ZR.out.kept c2)
      | ((with_reducible show wpList _ _ _ (⟨none, Op.store _ _ (Operand.tmp 15), _, _, _, _⟩ :: _) _ _); refine wpList_storeA (o := ⟨none, _, _, _, _, _⟩) (by rfl) 156 (.tmp 4) (.tmp 15) (by rfl) y2.heap.size [.bool true, .slice none 0 0, .slice none 0 0] (by rfl) (by rfl) aggItem (Blk.new y2 156 [.bool false, .slice none 0 0, .slice none 0 0]) (by rfl) (by rfl) (by intro u hu; simp at hu; rcases hu with rfl | rfl <;> rfl) ((Below.refl y2.heap.size y2).alloc (Nat.le_refl _) (.cells #[.bool false, .slice none 0 0, .slice none 0 0] 156)) (Nat.le_refl _) ?_; intro w8 hm8 b8 _; have z8 := zz2.kept b8; have d8 := (HC.out w8 z8).2.2.1))
    have F8 : LkV W0 [] y2.heap.size y2.heap.size (.slice none 0 0) [] w8 := ⟨Below.then c2 b8, by simp, hm8, OwnOf.nil icells 3 _ _ _, by simp [Value.ownBlock], by simp, hs2, Nat.le_refl _⟩
    obtain ⟨g3, hg3⟩ : ∃ g, g = y2.heap.size := ⟨_, rfl⟩
    rw [← hg3] at F8
    try rw [← hg3]
    clear c2 hs2 hm8 b8 z8 hg3 zz2 d34
    go_wp2_with fail
    clear d8
    go_loopw [19] (fun ix wr => ∃ (k : Nat) (kv : Value) (ks : List Itm), k ≤ n ∧ ix = .int .i64 (k : Int) ∧ LkV W0 [] g3 g3 kv ks wr ∧ Hid (ks.map erI = (ls.take k).map lgP ∧ bulkL ks ≤ 45 * ((ls.take k).map lgM).sum)) (fun ix _ => n - (intOf ix).toNat)
    case atStart => exact ⟨0, .slice none 0 0, [], by omega, rfl, F8, Lib.hid ⟨rfl, by simp [bulkL]⟩⟩
    case round =>
      clear F8
      obtain ⟨k, kv, ks, hk, rfl, F, Hks⟩ := hrel
      have hkl : ks.length = k := by
        have h1 := congrArg List.length Hks.out.1
        rw [List.length_map, List.length_map, List.length_take, Hn.out] at h1
        omega
      obtain ⟨ka, kc, rfl, _⟩ := F.hO.form' k hkl
      have Hkl := Lib.hid hkl
      clear hkl
      by_cases hlt : k < n
      · have hki : (k : Int) < (n : Int) := by omega
        have hl1 : k < ls.length := by rw [Hn.out]; exact hlt
        obtain ⟨b2, off2, rfl, hr⟩ := RowOf.range lgc_len (hL.1.below F.hb) k hl1
        have hin := hL.2 _ (List.getElem_mem hl1)
        have hpre := lgTs_pre hl1
        have hbd := Hs.out
        have hnx : (ls.take (k + 1)).map lgP = (ls.take k).map lgP ++ [lgP ls[k]] := by rw [List.take_succ_eq_append_getElem hl1, List.map_append]; rfl
        have hny : ((ls.take (k + 1)).map lgM).sum = ((ls.take k).map lgM).sum + lgM ls[k] := by rw [List.take_succ_eq_append_getElem hl1, List.map_append, List.sum_append]; simp
        generalize ls[k] = l at *
        have Hnx := Lib.hid hnx
        have Hny := Lib.hid hny
        have hll := lgc_len l
        obtain ⟨ta, tn, tc, htv⟩ : ∃ a n c, l.tv = .slice a n c := by obtain ⟨_, a, c, hv, _⟩ := hin.ht; exact ⟨_, _, _, hv⟩
        obtain ⟨da, dn, dc, hdv⟩ : ∃ a n c, l.dv = .slice a n c := by obtain ⟨_, a, c, hv, _⟩ := hin.hd; exact ⟨_, _, _, hv⟩
        have h1c := lgc_one l (by rw [htv]; rfl) (by rw [hdv]; rfl)
        have h8c := lgc_tops l
        rw [htv] at h8c
        have h9c := lgc_dat l
        rw [hdv] at h9c
        have htr := hin.ht
        rw [htv] at htr
        have hdr := hin.hd
        have htn : l.tops.length = tn := htr.fits.1.symm
        have htb : tn ≤ 1048576 := by omega
        have Hadr := Lib.hid (lgc_addr l)
        have H8c := Lib.hid h8c
        have H9c := Lib.hid h9c
        have Htr := Lib.hid htr
        have Hdr := Lib.hid hdr
        have Htn := Lib.hid htn
        have Hdv := Lib.hid hdv
        have Htv := Lib.hid htv
        clear hnx hny h8c h9c htr hdr htn hl1 hpre hdv htv hin
        have hlM : lgM l ≤ 1048576 := by have h1 := Hny.out; have h2 := lgM_take ls (k + 1); omega
        have hdin : l.In W0 := ⟨by rw [Htv.out]; exact Htr.out, by exact Hdr.out⟩
        have Rt : Hid (∀ u (g : Nat), Logs u (.slice (some ⟨g, 0, none⟩) 1 1) [l] → Calls Try.prog 44 #[.slice (some ⟨g, 0, none⟩) 1 1] u (TextsP ([l].flatMap lgTs) u)) := Lib.hid fun u g hu => rtexts_any (some ⟨g, 0, none⟩) 1 1 [l] rfl (by simpa using hlM) u hu
        have Hin := Lib.hid hdin
        clear hlM hdin
        go_upto_region 9 with (first
          | (refine wpList_load_mid (op := ⟨some 22, _, _, _, _, _⟩) (by rfl) 143 (.tmp 21) (by rfl) b2 (off2 + k * 10) (by rfl) (lgc l) _ hr Try.underlying143 rfl (by rw [hll]; kernel_rfl) ?_)
          | ((with_reducible show wpList _ _ _ (⟨none, Op.store _ _ (Operand.tmp 22), _, _, _, _⟩ :: _) _ _); refine wpList_storeA (o := ⟨none, _, _, _, _, _⟩) (by rfl) 143 (.tmp 6) (.tmp 22) (by rfl) wr.heap.size (lgc l) (by rfl) (by rfl) aggLog (Blk.newA wr 143 _) hll (by first | rfl | kernel_rfl) h1c ((Below.refl wr.heap.size wr).alloc (Nat.le_refl _) _) (Nat.le_refl _) ?_; intro w6 z6 b6 _; have F6 := F.kept b6; have hl6 := z6.lt)
          | (go_at_call 94; refine (plist_any none 0 0 _).mono ?_; rintro e w7 ⟨rfl, b7⟩; have F7 := F6.kept b7; have z7 := z6.kept b7; have hs7 := b7.size)
          | ((with_reducible show wpList _ _ _ (⟨none, Op.store _ _ (Operand.tmp 23), _, _, _, _⟩ :: _) _ _); refine wpList_storeA (o := ⟨none, _, _, _, _, _⟩) (by rfl) 156 (.tmp 7) (.tmp 23) (by rfl) w7.heap.size [.bool true, .slice none 0 0, .slice none 0 0] (by rfl) (by rfl) aggItem (Blk.new w7 156 [.bool false, .slice none 0 0, .slice none 0 0]) (by rfl) (by rfl) (by intro u hu; simp at hu; rcases hu with rfl | rfl <;> rfl) ((Below.refl w7.heap.size w7).alloc (Nat.le_refl _) (.cells #[.bool false, .slice none 0 0, .slice none 0 0] 156)) (Nat.le_refl _) ?_; intro w8 m8 b8 _; have z8 := z7.kept b8))
        have G8 : LkW w6 [(143, wr.heap.size, lgc l)] w7.heap.size (.slice none 0 0) (txts []) w8 := ⟨Below.then b7 b8, fun p hp => by rw [List.mem_singleton] at hp; subst hp; exact ⟨z8, Nat.lt_of_lt_of_le hl6 hs7⟩, m8, OwnOf.nil icells 3 _ _ _, by simp [txts], hs7⟩
        obtain ⟨g5, hg5⟩ : ∃ g, g = wr.heap.size := ⟨_, rfl⟩
        have hgs : ∀ x, (Value.slice ka k kc).ownBlock = some x → x < g5 := fun x hx => by rw [hg5]; exact own_ltK F.hO hx
        have hg35 : g3 < g5 := by rw [hg5]; exact F.hm.lt
        have hl67 := hs7
        rw [← hg5] at G8 hl6
        try rw [← hg5]
        obtain ⟨g6, hg6⟩ : ∃ g, g = w7.heap.size := ⟨_, rfl⟩
        rw [← hg6] at G8 hl67
        try rw [← hg6]
        have gl6 : Blk 143 w8 g5 (lgc l) := (G8.hz _ List.mem_cons_self).1
        clear z6 z7 z8 m8 b6 b7 b8 hs7 hr h1c F hg5 hg6 F7
        go_wp2_with (first
          | (refine wpList_loadA (o := ⟨some 24, _, _, _, _, _⟩) (by rfl) 143 (.tmp 6) (by rfl) g5 (by rfl) aggLog gl6 hll ?_)
          | (refine wpList_buildW (o := ⟨some 25, _, _, _, _, _⟩) (by rfl) 78 1 [(0, .tmp 24)] (by rfl) elLog [l] [.agg (lgc l).toArray] (by rfl) (by rfl) (by rfl) (by omega) (by omega) ?_; intro wR _ rR bR; have GR := G8.kept bR; have hLg : Logs wR (.slice (some ⟨w8.heap.size, 0, none⟩) 1 1) [l] := ⟨rR, fun x hx => (by rw [List.mem_singleton] at hx; subst hx; exact Hin.out.kept (F6.kept GR.hb).hb)⟩)
          | (go_at_call 44; (with_reducible refine (Rt.out _ _ hLg).mono ?_); rintro e wT ⟨qa, qn, qc, qs, rfl, TL, hqm⟩; obtain rfl : qn = tn + 1 := (by have h1 := TL.oo.row.fits.1; have h2 := congrArg List.length hqm; simp [lgTs] at h2; have h3 := Htn.out; omega); obtain ⟨a63, c63, run63, row63, own63⟩ := from_anyB elTx TL.oo.row 1 (by omega) 1 rfl; rw [show tn + 1 - 1 = tn by omega] at run63 row63 own63))
        have GT := GR.kept TL.hb
        have hg6R : g6 < wR.heap.size := GR.hm.lt
        obtain ⟨QS, hQS⟩ : ∃ Q, Q = qs.drop 1 := ⟨_, rfl⟩
        have hqmap : QS.map (·.2) = l.tops.map wb := by rw [hQS, List.map_drop, hqm]; simp [lgTs]
        have hqt : ∀ q ∈ QS, Bytes wT q.1 q.2 ∧ ∀ x, q.1.ownBlock = some x → g6 + 1 ≤ x ∧ x < wT.heap.size := fun q hq => by
          rw [hQS] at hq
          obtain ⟨h1, h2⟩ := TL.tx q (List.mem_of_mem_drop hq)
          exact ⟨h1, fun x hx => by obtain ⟨h3, h4, _⟩ := h2 x hx; omega⟩
        have hqr : ∀ u, wT.grownBy u (some g6) → Texts u (.slice a63 tn c63) QS := fun u hu => by
          refine ⟨?_, fun q hq => ?_⟩
          · rw [hQS]
            exact RowOf.offT row63 hu (fun x hx => by have := TL.oo.lt x (own63 x hx _ _); omega)
          · obtain ⟨h1, h2⟩ := hqt q hq
            exact RowOf.offT h1 hu (fun x hx => by have := (h2 x hx).1; omega)
        have hql : QS.length = tn := by have := congrArg List.length hqmap; simp at this; rw [this]; exact Htn.out
        have HQm := Lib.hid hqmap
        have HQt := Lib.hid hqt
        have HQr := Lib.hid hqr
        have HQl := Lib.hid hql
        clear hqmap hqt hqr hql hQS row63 own63 run63 TL hqm GR rR bR gl6 hll G8 hLg
        go_loopw [29] (fun ix wr => ∃ (j : Nat) (tkv : Value) (ps : List (Value × List UInt8)), j ≤ tn ∧ ix = .int .i64 (j : Int) ∧ LkW w6 [(143, g5, lgc l)] g6 tkv (txts ps) wr ∧ wT.grownBy wr (some g6) ∧ (∀ x, tkv.ownBlock = some x → wT.heap.size ≤ x) ∧ Hid (ps.map (·.2) = (l.tops.take j).map wb)) (fun ix _ => tn - (intOf ix).toNat)
        case atStart => exact ⟨0, .slice none 0 0, [], by omega, rfl, GT, bel_grown (Below.refl _ _) _, by simp [Value.ownBlock], Lib.hid rfl⟩
        case round =>
          clear GT
          obtain ⟨j, tkv, ps, hj, rfl, G, hgw, hto, Hps⟩ := hrel
          have hpl : (txts ps).length = j := by
            have := congrArg List.length Hps.out
            rw [List.length_map, List.length_map, List.length_take, Htn.out] at this
            unfold txts
            rw [List.length_map]; omega
          obtain ⟨ja, jc, rfl, _⟩ := G.hO.form' j hpl
          have Hpl := Lib.hid hpl
          clear hpl
          have FF := F6.kept G.hb
          by_cases hjt : j < tn
          · have hji : (j : Int) < (tn : Int) := by omega
            have hj1 : j < l.tops.length := by rw [Htn.out]; exact hjt
            obtain ⟨b3, off3, q, rfl, hq, hc3, hb3⟩ := (HQr.out wr hgw).at j (by rw [HQl.out]; exact hjt)
            have hstep : (l.tops.take (j + 1)).map wb = (l.tops.take j).map wb ++ [q.2] := by
              rw [List.map_take, List.map_take, ← HQm.out, List.take_succ_eq_append_getElem (by rw [List.length_map, HQl.out]; exact hjt), List.getElem_map]
              have : QS[j]'(by rw [HQl.out]; exact hjt) = q := by rw [List.getElem?_eq_getElem (by rw [HQl.out]; exact hjt)] at hq; exact Option.some.inj hq
              rw [this]
            have hqo := (HQt.out q (List.mem_of_getElem? hq)).2
            obtain ⟨qv, QT⟩ := q
            change Bytes wr qv QT at hb3
            change wr.cell? _ = some qv at hc3
            obtain ⟨pa, pc, rfl, _⟩ := hb3.form
            obtain ⟨pn, hpn⟩ : ∃ n, n = QT.length := ⟨_, rfl⟩
            dsimp only at hc3 hb3 hqo hstep
            rw [← hpn] at hc3 hb3 hqo
            have hqo2 : ∀ x, (Value.slice pa pn pc).ownBlock = some x → g6 + 1 ≤ x ∧ (Value.slice ja j jc).ownBlock ≠ some x := fun x hx => ⟨(hqo x hx).1, fun e => by have h1 := hto x e; have h2 := (hqo x hx).2; omega⟩
            have Hqo := Lib.hid hqo2
            have Hb3 := Lib.hid hb3
            have Hstep := Lib.hid hstep
            have hc3' : wr.cell? ⟨b3, off3 + j, none⟩ = some (.slice pa pn pc) := hc3
            clear hstep hj1 FF hq hqo hqo2 hpn hb3 hc3
            go_upto_region 12 with fail
            have k1 := fun u : Ext wr => u.cell ((G.hm.cell 2).trans (show _ = some (Value.slice ja j jc) from rfl))
            clear hc3'
            refine wp_region_typed wr 5 (by kernel_rfl) (by kernel_rfl) (Below.refl _ _) ?_; simp only [List.take_succ_cons, List.take_zero, List.take_nil]
            iterate 3 (refine wpX_step (by rfl) (fun K hK => ?_); go_simp; first | (refine hK _ ?_; clear hK K) | (apply Exists.intro; refine ⟨fun _ => ?_, hK _ ?_⟩; fail; clear hK K))
            (refine wpX_step (by rfl) (fun K hK => ?_); go_simp; first | (refine hK _ ?_; clear hK K) | (apply Exists.intro; refine ⟨fun _ => ?_, hK _ ?_⟩; exact ptext_any _ _ _ _; clear hK K))
            refine wpX_rel 37 (OneC (.slice pa pn pc) QT) rfl (of_decide_eq_true rfl) (OneC.mono _ _) (fun w2 hw2 => ?_) ?_
            · simp only [relOf, List.filter_nil, forallRel]
              refine ⟨rfl, ?_⟩
              go_simp
              have hb18 : Below w2.heap.size w2 (w2.alloc (.cells #[.bool false, .slice pa pn pc, .slice none 0 0] 156)) := (Below.refl _ _).alloc (Nat.le_refl _) _
              exact ⟨hb18, w2.heap.size, rfl, Row.built icells_len w2 156 [txt (.slice pa pn pc) QT] 1 rfl (by unfold maxLen; omega)⟩
            refine wpX_nil ?_
            intro u2 hb2 v19 h19
            change wpList _ _ _ [_, _, _] _ _
            obtain ⟨g19, rfl, r19⟩ := h19
            have G2 := G.kept hb2
            have Fp2 : Fp (fun x => g6 + 1 ≤ x ∧ (Value.slice ja j jc).ownBlock ≠ some x) u2 (txt (.slice pa pn pc) QT) := fp_at (RowOf.kept Hb3.out hb2) (fun b hb => Hqo.out b hb)
            clear k1
            try simp only [Act.put, List.setIfInBounds_toArray, List.set_cons_zero, List.set_cons_succ]
            go_wp2_with (refine wpList_appB (o := ⟨some 38, _, _, _, _, _⟩) (by rfl) (.tmp 34) (.tmp 37) 154 (by rfl) elItem (by intro u hu; simp [txt, icells] at hu; rcases hu with rfl | rfl | rfl <;> rfl) (by rfl) G2.hO (by rfl) r19 G2.hm.lt (by rw [Hpl.out]; simp; omega) (by rw [Hpl.out]; unfold maxLen; simp; omega) ?_; intro v5 w5 hO5 gg5 pp5; obtain ⟨a5, c5, rfl, _⟩ := hO5.form' (j + 1) (by rw [List.length_append, Hpl.out]; rfl); have G5 := G2.grew Fp2 gg5 hO5 pp5; have hne5 : (Value.slice ja j jc).ownBlock ≠ some g6 := fun e => (by have := G2.hO.lt g6 e; omega); obtain ⟨y5, hy5⟩ := (G2.hm.grown gg5 hne5).has 2 (by simp); have hf5 := (G2.hm.grown gg5 hne5).free 2)
            rw [← txts_snoc' ps (.slice pa pn pc, QT)] at G5
            have hgw5 : wT.grownBy (w5.setCell ⟨g6, 2, none⟩ (.slice a5 (j + 1) c5)) (some g6) := ((hgw.andThen (bel_grown hb2 none) (by simp)).andThen gg5 (fun x hx => .inl (hto x hx))).andThen (grown_cell 2 _) (fun x hx => .inr hx)
            have hto5 : ∀ x, (Value.slice a5 (j + 1) c5).ownBlock = some x → wT.heap.size ≤ x := fun x hx => by
              rcases pp5 x hx with h1 | h1
              · exact hto x h1
              · exact Nat.le_trans (Nat.le_trans hgw.size hb2.size) h1
            go_roundw
            case rel => exact ⟨j + 1, .slice a5 (j + 1) c5, ps ++ [(.slice pa pn pc, QT)], by omega, by go_num, G5, hgw5, hto5, Lib.hid (by rw [List.map_append, Hps.out, Hstep.out]; rfl)⟩
            case measure => simp [intOf]; omega
          · obtain rfl : j = tn := by omega
            have hall : ps.map (·.2) = l.tops.map wb := by rw [Hps.out, List.take_of_length_le (by rw [Htn.out]; exact Nat.le_refl _)]
            have Hall := Lib.hid hall
            clear hall Hps
            go_upto_region 14 with fail
            have CS : Hid (∀ u, Below wr.heap.size wr u → Blk 143 u g5 (lgc l)) := Lib.hid fun u hu => ((G.hz _ List.mem_cons_self).1).kept hu
            have k2 := fun u : Ext wr => u.cell ((FF.hm.cell 2).trans (show _ = some (Value.slice ka k kc) from rfl))
            have k9 := fun u : Ext wr => u.cell (((G.hz _ List.mem_cons_self).1.cell 9).trans H9c.out)
            have s8 := fun off u => sl8 g5 off u
            have RG := Lib.hid (Blk.all0 G.hm)
            have hgl := G.hm.lt
            rw [Hdv.out] at Hdr
            refine wp_region_typed wr 12 (by kernel_rfl) (by kernel_rfl) (Below.refl _ _) ?_; simp only [List.take_succ_cons, List.take_zero, List.take_nil]
            iterate 4 (refine wpX_step (by rfl) (fun K hK => ?_); go_simp; first | (refine hK _ ?_; clear hK K) | (apply Exists.intro; refine ⟨fun _ => ?_, hK _ ?_⟩; fail; clear hK K))
            (refine wpX_step (by rfl) (fun K hK => ?_); go_simp; first | (refine hK _ ?_; clear hK K) | (apply Exists.intro; refine ⟨fun _ => ?_, hK _ ?_⟩; exact ptext_any _ _ _ _; clear hK K))
            (refine wpX_step (by rfl) (fun K hK => ?_); rw [if_pos (by rfl)]; refine ⟨_, fun u => const_loadm _ (.tmp 7) (by rfl) _ _ (by rfl) aggItem (by rfl) (rangeAt.ext RG.out u), hK _ ?_⟩; clear hK K; simp only [Act.put, List.setIfInBounds_toArray, List.set_cons_zero, List.set_cons_succ])
            iterate 2 (refine wpX_step (by rfl) (fun K hK => ?_); go_simp; first | (refine hK _ ?_; clear hK K) | (apply Exists.intro; refine ⟨fun _ => ?_, hK _ ?_⟩; fail; clear hK K))
            (refine wpX_step (by rfl) (fun K hK => ?_); go_simp; first | (refine hK _ ?_; clear hK K) | (apply Exists.intro; refine ⟨fun _ => ?_, hK _ ?_⟩; exact ptext_any _ _ _ _; clear hK K))
            refine wpX_rel 50 (SlI wr.heap.size 3 [.bool false, .slice (some ⟨g5, 0, none⟩) 8 8, .slice none 0 0, .bool true, .slice none 0 0, .slice ja j jc, .bool false, .slice da dn dc, .slice none 0 0]) rfl (of_decide_eq_true rfl) (SlI.mono _ _ _) (fun w2 hw2 => ?_) ?_
            · simp only [relOf, List.filter_nil, forallRel]
              refine ⟨rfl, ?_⟩
              go_simp
              exact ⟨(Below.refl _ _).alloc (Nat.le_refl _) _, w2.heap.size, rfl, hw2.size, Blk.new w2 _ _⟩
            refine wpX_rel 51 (AgI wr.heap.size 3 [.bool false, .slice (some ⟨g5, 0, none⟩) 8 8, .slice none 0 0, .bool true, .slice none 0 0, .slice ja j jc, .bool false, .slice da dn dc, .slice none 0 0]) rfl (of_decide_eq_true rfl) (AgI.mono _ _ _) (fun w2 hw2 => ?_) ?_
            · change forallRel w2 [(50, _)] _ _
              rintro v45 ⟨g, rfl, hgB, hgb⟩
              simp only [forallRel, List.drop_succ_cons, List.drop_zero, List.drop_nil]
              refine ⟨rfl, ?_⟩
              go_simp
              refine (plist_any _ _ _ _).mono ?_
              rintro e w3 ⟨rfl, b3⟩
              exact ⟨_, rfl, ⟨g, rfl, hgB, hgb.kept b3⟩, b3⟩
            refine wpX_rel 52 (One2 wr.heap.size 3 [.bool false, .slice (some ⟨g5, 0, none⟩) 8 8, .slice none 0 0, .bool true, .slice none 0 0, .slice ja j jc, .bool false, .slice da dn dc, .slice none 0 0]) rfl (of_decide_eq_true rfl) (One2.mono _ _ _) (fun w2 hw2 => ?_) ?_
            · change forallRel w2 [(51, _)] _ _
              rintro v46 ⟨g, rfl, hgB, hgb⟩
              simp only [forallRel, List.drop_succ_cons, List.drop_zero, List.drop_nil]
              refine ⟨rfl, ?_⟩
              go_simp
              have hb18 : Below w2.heap.size w2 (w2.alloc (.cells #[.bool true, .slice none 0 0, .slice (some ⟨g, 0, none⟩) 3 3] 156)) := (Below.refl _ _).alloc (Nat.le_refl _) _
              exact ⟨hb18, g, w2.heap.size, rfl, hgB, hw2.size, hgb.kept hb18, Blk.new w2 _ _⟩
            refine wpX_nil ?_
            intro u2 hb2 v45 h45 v46 h46 v47 h47
            change wpList _ _ _ [_, _, _] _ _
            obtain ⟨gk, gk', rfl, hgB, hgB', zg, zg'⟩ := h47
            have F2 := FF.kept hb2
            have G2 := G.kept hb2
            have Fp2 : Fp (fun x => x ≠ g3 ∧ (Value.slice ka k kc).ownBlock ≠ some x) u2 (lgI (.slice (some ⟨g5, 0, none⟩) 8 8) (.slice ja j jc) ps (.slice (some ⟨gk, 0, none⟩) 3 3) l) :=
              lgI_fp G2 (by rw [Hdv.out]; exact zg) (by omega) ⟨by omega, fun e => by have := hgs g5 e; omega⟩ (fun x hx => ⟨by omega, fun e => by have := hgs x e; omega⟩) ((CS.out u2 hb2).bytesAt 0 8 _ Hadr.out l.len (by unfold maxLen; omega)) (by rw [Hdv.out]; exact F2.low' Hdr.out F2.h1 F2.hb)
            have r19 := (Blk.own (f := icells) (size := 3) (l := [lgI (.slice (some ⟨g5, 0, none⟩) 8 8) (.slice ja j jc) ps (.slice (some ⟨gk, 0, none⟩) 3 3) l]) zg' 1 icells_len rfl (Nat.zero_le _) (by unfold maxLen; omega)).row
            obtain ⟨IT, hIT⟩ : ∃ I, I = lgI (.slice (some ⟨g5, 0, none⟩) 8 8) (.slice ja j jc) ps (.slice (some ⟨gk, 0, none⟩) 3 3) l := ⟨_, rfl⟩
            have hie : erI IT = lgP l := by rw [hIT]; exact lgI_er Hall.out
            have hib : bulkI IT ≤ 45 * lgM l := by rw [hIT]; exact lgI_bulk Hall.out
            have hic : ∀ u ∈ [IT].flatMap icells, u.oneCell' = true := by
              rw [hIT]
              intro u hu
              simp [lgI, lst, icells] at hu
              rcases hu with rfl | rfl | rfl <;> rfl
            rw [← hIT] at Fp2 r19
            have Hie := Lib.hid hie
            have Hib := Lib.hid hib
            clear hIT hie hib k2 k9 s8 RG G G2 FF zg zg' h45 h46 CS
            try simp only [Act.put, List.setIfInBounds_toArray, List.set_cons_zero, List.set_cons_succ]
            go_wp2_with (refine wpList_appB (o := ⟨some 53, _, _, _, _, _⟩) (by rfl) (.tmp 42) (.tmp 52) 154 (by rfl) elItem hic (by rfl) F2.hO (by rfl) r19 (Nat.le_trans F2.h2 (Nat.le_of_lt F2.hm.lt)) (by rw [Hkl.out]; simp; omega) (by rw [Hkl.out]; unfold maxLen; simp; omega) ?_; intro v5 w5 hO5 gg5 pp5; obtain ⟨a5, c5, rfl, _⟩ := hO5.form' (k + 1) (by rw [List.length_append, Hkl.out]; rfl); have F5 := F2.grew Fp2 gg5 hO5 pp5; have hne5 := F2.hn; obtain ⟨y5, hy5⟩ := (F2.hm.grown gg5 hne5).has 2 (by simp); have hf5 := (F2.hm.grown gg5 hne5).free 2)
            go_roundw
            case rel =>
              refine ⟨k + 1, .slice a5 (k + 1) c5, ks ++ [IT], by omega, by go_num, F5, Lib.hid ⟨?_, ?_⟩⟩
              · rw [List.map_append, Hks.out.1, Hnx.out]
                show _ ++ [erI IT] = _
                rw [Hie.out]
              · rw [bulkL_app, Hny.out, bulkL, bulkL]
                have h1 := Hks.out.2
                have h2 := Hib.out
                omega
            case measure => simp [intOf]; omega
      · obtain rfl : k = n := by omega
        have hke : ks.map erI = r.ls.map lgP := by rw [Hks.out.1, List.take_of_length_le (by rw [Hn.out]; exact Nat.le_refl _), Hls.out]
        have hkb : bulkL ks ≤ 45 * 1048576 := by have h1 := Hks.out.2; have h2 := lgM_take ls k; have h3 := Hs.out; omega
        have hB := ZR.out.kept F.hb
        obtain ⟨D, hD⟩ : ∃ D, D = r.bloom := ⟨_, rfl⟩
        have hE : ∀ (g : Nat) (v1 v2 v3 : Value), encI (rcI g v1 T1 v2 T2 v3 D (lst (.slice ka k kc) ks)) = WB := fun g v1 v2 v3 => by rw [HWB.out, HT1.out, HT2.out, hD]; exact rcI_enc hke
        have hbk : ∀ (g : Nat) (v1 v2 v3 : Value), bulkI (rcI g v1 T1 v2 T2 v3 D (lst (.slice ka k kc) ks)) ≤ 200 + 45 * 1048576 := fun g v1 v2 v3 => by rw [HT1.out, HT2.out, hD]; exact rcI_bulk (r := r) hkb
        have c1 := fun u : Ext wr => (HC.out u.val (hB.kept u.property)).2.1
        have c2 : Hid (∀ u, Below wr.heap.size wr u → Bytes u (.slice (some ⟨w.heap.size, 2, none⟩) 32 32) D) := Lib.hid fun u hu => by rw [hD]; exact (HC.out u (hB.kept hu)).2.2.2
        have c3 : Hid (∀ u, Below wr.heap.size wr u → Bytes u (.slice sa sn sc) T1) := Lib.hid fun u hu => (T3.out.kept F.hb).kept hu
        have s32 := fun off u => sl32 w.heap.size off u
        have RG := Lib.hid (Blk.all0 F.hm)
        have R3 := Lib.hid (Blk.all0 (M3.out.kept F.hb))
        have HE := Lib.hid hE
        have HBk := Lib.hid hbk
        clear hke hkb hB hE hbk hD
        go_upto_region 16 with fail
        refine wp_region_typed wr 13 (by kernel_rfl) (by kernel_rfl) (Below.refl _ _) ?_; simp only [List.take_succ_cons, List.take_zero, List.take_nil]
        (refine wpX_step (by rfl) (fun K hK => ?_); rw [if_pos (by rfl)]; refine ⟨_, fun u => const_loadm _ (.tmp 3) (by rfl) _ _ (by rfl) aggItem (by rfl) (rangeAt.ext R3.out u), hK _ ?_⟩; clear hK K; simp only [Act.put, List.setIfInBounds_toArray, List.set_cons_zero, List.set_cons_succ])
        iterate 2 (refine wpX_step (by rfl) (fun K hK => ?_); go_simp; first | (refine hK _ ?_; clear hK K) | (apply Exists.intro; refine ⟨fun _ => ?_, hK _ ?_⟩; fail; clear hK K))
        (refine wpX_step (by rfl) (fun K hK => ?_); go_simp; first | (refine hK _ ?_; clear hK K) | (apply Exists.intro; refine ⟨fun _ => ?_, hK _ ?_⟩; exact Ci.out _; clear hK K))
        refine wpX_rel 60 (TxB wr.heap.size T2) rfl (of_decide_eq_true rfl) (TxB.mono _ _) (fun w2 hw2 => ?_) ?_
        · simp only [relOf, List.filter_nil, forallRel]
          refine ⟨rfl, ?_⟩
          go_simp
          refine (Cn.out w2).mono ?_
          rintro e w3 ⟨v, rfl, o3, b3⟩
          exact ⟨v, rfl, o3.lower hw2.size, b3⟩
        refine wpX_rel 61 (TxtO wr.heap.size T2) rfl (of_decide_eq_true rfl) (TxtO.mono _ _) (fun w2 hw2 => ?_) ?_
        · change forallRel w2 [(60, _)] _ _
          intro v17 h17
          obtain ⟨a17, c17, rfl, _⟩ := h17.1.form
          simp only [forallRel, List.drop_succ_cons, List.drop_zero, List.drop_nil]
          refine ⟨rfl, ?_⟩
          go_simp
          refine (ptext_any _ _ _ _).mono ?_
          rintro e w3 ⟨rfl, b3⟩
          exact ⟨_, rfl, ⟨a17, _, c17, rfl, TxB.mono _ _ _ _ _ h17 b3⟩, b3⟩
        iterate 2 (refine wpX_step (by rfl) (fun K hK => ?_); go_simp; first | (refine hK _ ?_; clear hK K) | (apply Exists.intro; refine ⟨fun _ => ?_, hK _ ?_⟩; fail; clear hK K))
        (refine wpX_step (by rfl) (fun K hK => ?_); go_simp; first | (refine hK _ ?_; clear hK K) | (apply Exists.intro; refine ⟨fun _ => ?_, hK _ ?_⟩; exact ptext_any _ _ _ _; clear hK K))
        (refine wpX_step (by rfl) (fun K hK => ?_); rw [if_pos (by rfl)]; refine ⟨_, fun u => const_loadm _ (.tmp 4) (by rfl) _ _ (by rfl) aggItem (by rfl) (rangeAt.ext RG.out u), hK _ ?_⟩; clear hK K; simp only [Act.put, List.setIfInBounds_toArray, List.set_cons_zero, List.set_cons_succ])
        refine wpX_rel 66 (FourR wr.heap.size (.slice sa sn sc) T1 T2 (.slice (some ⟨w.heap.size, 2, none⟩) 32 32) D (lst (.slice ka k kc) ks)) rfl (of_decide_eq_true rfl) (FourR.mono _ _ _ _ _ _ _) (fun w2 hw2 => ?_) ?_
        · change forallRel w2 [(61, _)] _ _
          rintro v56 ⟨a2, m2, c2', rfl, t2⟩
          simp only [forallRel, List.drop_succ_cons, List.drop_zero, List.drop_nil]
          refine ⟨rfl, ?_⟩
          go_simp
          have hb18 : Below w2.heap.size w2 (w2.alloc (.cells #[.bool false, .slice sa sn sc, .slice none 0 0, .bool false, .slice a2 m2 c2', .slice none 0 0, .bool false, .slice (some ⟨w.heap.size, 2, none⟩) 32 32, .slice none 0 0, .bool true, .slice none 0 0, .slice ka k kc] 156)) := (Below.refl _ _).alloc (Nat.le_refl _) _
          exact ⟨hb18, w2.heap.size, a2, m2, c2', rfl, Row.built icells_len w2 156 [txt (.slice sa sn sc) T1, txt (.slice a2 m2 c2') T2, txt (.slice (some ⟨w.heap.size, 2, none⟩) 32 32) D, lst (.slice ka k kc) ks] 4 rfl (by unfold maxLen; omega), TxB.mono _ _ _ _ _ t2 hb18⟩
        refine wpX_rel 67 (AgFourR wr.heap.size (.slice sa sn sc) T1 T2 (.slice (some ⟨w.heap.size, 2, none⟩) 32 32) D (lst (.slice ka k kc) ks)) rfl (of_decide_eq_true rfl) (AgFourR.mono _ _ _ _ _ _ _) (fun w2 hw2 => ?_) ?_
        · change forallRel w2 [(66, _)] _ _
          rintro v61 ⟨g, a2, m2, c2', rfl, hr4, t2⟩
          simp only [forallRel, List.drop_succ_cons, List.drop_zero, List.drop_nil]
          refine ⟨rfl, ?_⟩
          go_simp
          refine (plist_any _ _ _ _).mono ?_
          rintro e w3 ⟨rfl, b3⟩
          exact ⟨_, rfl, ⟨g, a2, m2, c2', rfl, RowOf.kept hr4 b3, TxB.mono _ _ _ _ _ t2 b3⟩, b3⟩
        refine wpX_rel 68 (BytT WB) rfl (of_decide_eq_true rfl) (BytT.mono _) (fun w2 hw2 => ?_) ?_
        · change forallRel w2 [(67, _)] _ _
          rintro v62 ⟨g, a2, m2, c2', rfl, hr4, t2⟩
          simp only [forallRel, List.drop_succ_cons, List.drop_zero, List.drop_nil]
          refine ⟨rfl, ?_⟩
          go_simp
          have hI := rcI_is hr4 (c3.out w2 hw2) t2.1 (c2.out w2 hw2) ((F.kept hw2).is)
          refine (pencode_any (200 + 45 * 1048576) (rcI g (.slice sa sn sc) T1 (.slice a2 m2 c2') T2 (.slice (some ⟨w.heap.size, 2, none⟩) 32 32) D (lst (.slice ka k kc) ks)) w2 (HBk.out _ _ _ _) (by omega) hI).mono ?_
          rintro e w3 ⟨v, rfl, o3, b3⟩
          exact ⟨v, rfl, by have := o3; rw [HE.out] at this; exact this, b3⟩
        refine wpX_nil ?_
        intro u2 hb2 v60 _ v61 _ v66 _ v67 _ v68 h68
        change wpList _ _ _ [_] _ _
        try simp only [Act.put, List.setIfInBounds_toArray, List.set_cons_zero, List.set_cons_succ]
        go_wp2_with fail
        go_ret
        exact ⟨v68, rfl, h68, Below.then BB.out (Below.then F.hb hb2)⟩
end Go.Proofs.Ytnhbfnegpjkojaa
