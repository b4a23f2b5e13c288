/- The reference's RTexts. -/
import Derived.Test.YtnhbfnegpjkojaaTx11
set_option linter.unusedSimpArgs false
set_option linter.unusedVariables false
namespace Go.Proofs.Ytnhbfnegpjkojaa
open Go.RowKit
set_option maxHeartbeats 4000000 in
set_option maxRecDepth 100000 in
theorem rtexts_any (a : Option Addr) (n c : Nat) (ls : List Lgv) (hn : ls.length = n) (hs : (ls.map lgM).sum ≤ 1048576) (w : World) (h : Logs w (.slice a n c) ls) : Calls Try.prog 44 #[.slice a n c] w (TextsP (ls.flatMap lgTs) w) := by
  have Hn := Lib.hid hn
  have Hs := Lib.hid hs
  have hnn : n ≤ 1048576 := by
    have : ls.length ≤ (ls.map lgM).sum := by
      clear hn hs Hn Hs h
      induction ls with
      | nil => simp
      | cons l ls ih => rw [List.length_cons, List.map_cons, List.sum_cons]; have : 1 ≤ lgM l := by unfold lgM; omega
                        omega
    omega
  clear hn hs
  have F0 := TlW.nil w
  go_enter Try.func44, Try.ntmps44
  go_wp2_with fail
  go_loopw [3, 10] (fun ov ix wr => ∃ (k m : Nat) (oa : Option Addr) (oc : Nat) (ps : List (Value × List UInt8)), k ≤ n ∧ ix = .int .i64 (k : Int) ∧ ov = .slice oa m oc ∧ TlW w (.slice oa m oc) ps wr ∧ Hid (ps.length = m ∧ ps.map (·.2) = (ls.take k).flatMap lgTs)) (fun _ ix _ => n - (intOf ix).toNat)
  case atStart => exact ⟨0, 0, none, 0, [], by omega, rfl, rfl, F0, Lib.hid ⟨rfl, rfl⟩⟩
  case round =>
    clear F0
    obtain ⟨k, m, oa, oc, ps, hk, rfl, rfl, F, Hps⟩ := hrel
    by_cases hlt : k < n
    · have hki : (k : Int) < (n : Int) := by omega
      have hl1 : k < ls.length := by rw [Hn.out]; exact hlt
      obtain ⟨b2, off2, rfl, hr⟩ := RowOf.range lgc_len (h.1.below F.hb) k hl1
      have hin := h.2 _ (List.getElem_mem hl1)
      have hnext := lgTs_next hl1
      have hpre := lgTs_pre hl1
      have hbd := Hs.out
      generalize ls[k] = l at *
      have Hnext := Lib.hid hnext
      have hm0 : m = ((ls.take k).flatMap lgTs).length := by rw [← Hps.out.2, List.length_map, Hps.out.1]
      rw [← hm0] at hpre
      have hll := lgc_len l
      obtain ⟨ta, tn, tc, htv⟩ : ∃ a n c, l.tv = .slice a n c := by obtain ⟨_, a, c, hv, _⟩ := hin.ht; exact ⟨_, _, _, hv⟩
      obtain ⟨da, dn, dc, hdv⟩ : ∃ a n c, l.dv = .slice a n c := by obtain ⟨_, a, c, hv, _⟩ := hin.hd; exact ⟨_, _, _, hv⟩
      have h1c := lgc_one l (by rw [htv]; rfl) (by rw [hdv]; rfl)
      have h8c := lgc_tops l
      rw [htv] at h8c
      have htr := hin.ht
      rw [htv] at htr
      have htn : l.tops.length = tn := htr.fits.1.symm
      have hadr := lgc_addr l
      have Hadr := Lib.hid hadr
      have H8c := Lib.hid h8c
      have Htr := Lib.hid htr
      have Htn := Lib.hid htn
      have s8 := fun off u => sl8 wr.heap.size off u
      clear hnext hm0 hadr h8c htr htn hl1
      go_wp2_with (first
        | (refine wpList_load_mid (op := ⟨some 13, _, _, _, _, _⟩) (by rfl) 143 (.tmp 12) (by rfl) b2 (off2 + k * 10) (by rfl) (lgc l) _ hr Try.underlying143 rfl (by rw [hll]; kernel_rfl) ?_)
        | ((with_reducible show wpList _ _ _ (⟨none, Op.store _ _ (Operand.tmp 13), _, _, _, _⟩ :: _) _ _); refine wpList_storeA (o := ⟨none, _, _, _, _, _⟩) (by rfl) 143 (.tmp 5) (.tmp 13) (by rfl) wr.heap.size (lgc l) (by rfl) (by rfl) aggLog (Blk.newA wr 143 _) hll (by first | rfl | kernel_rfl) h1c ((Below.refl wr.heap.size wr).alloc (Nat.le_refl _) _) (Nat.le_refl _) ?_; intro w6 z6 b6 _; have F6 := F.kept b6; have d68 : w6.cell? ⟨wr.heap.size, 8, none⟩ = some (.slice ta tn tc) := (z6.cell 8).trans H8c.out)
        | (refine wpList_appA (o := ⟨some 18, _, _, _, _, _⟩) (by rfl) (.tmp 15) (.tmp 17) 22 (by rfl) elU8 (by rfl) (OwnOf.empty b8 1 5 w6 w6.heap.size (Nat.le_refl _)) (by rfl) ((z6.alloc (.cells #[] 5)).bytesAt 0 8 _ Hadr.out l.len (by unfold maxLen; omega)) (by simp) (by rw [l.len]; simp) (by rw [l.len]; unfold maxLen; simp) ?_; intro v7' w6' hO7' gg7' _; have b66 : Below w6.heap.size w6 w6' := ((Below.refl _ _).alloc (Nat.le_refl _) (.cells #[] 5)).grown gg7' (by simp) (fun x hx => OwnOf.lt (OwnOf.empty b8 1 5 w6 w6.heap.size (Nat.le_refl _)) x hx); obtain ⟨xa, xc, rfl, _⟩ := hO7'.form' 8 (by simp [l.len]); have F6' := F6.kept b66; have z6' := z6.kept b66)
        | (refine wpList_buildW (o := ⟨some 19, _, _, _, _, _⟩) (by rfl) 26 1 [(0, .tmp 18)] (by rfl) elTx [(.slice xa 8 xc, l.addr)] [.slice xa 8 xc] (by rfl) (by rfl) (by rfl) (by omega) (by omega) ?_; intro w7 _ r7 b7; have F7 := F6'.kept b7; have z7 := z6'.kept b7; have hlt7 : w.heap.size ≤ w7.heap.size := F7.hb.size; have q7 := F6.fresh (v := .slice xa 8 xc) (t := l.addr) (u' := w7) (Below.then b66 b7) (RowOf.kept hO7'.row b7) (fun x hx => ⟨hO7'.lt x hx, Nat.lt_of_lt_of_le (own_ltK hO7' hx) b7.size⟩))
        | (refine wpList_appB (o := ⟨some 20, _, _, _, _, _⟩) (by rfl) (.tmp 14) (.tmp 19) 26 (by rfl) elTx (by intro u hu; simp [tcell] at hu; subst hu; rfl) (by rfl) F7.oo (by rfl) r7 hlt7 (by rw [Hps.out.1]; simp; omega) (by rw [Hps.out.1]; unfold maxLen; simp; omega) ?_; intro v8 w8 hO8 gg8 pp8; obtain ⟨oa8, oc8, rfl, _⟩ := hO8.form' (m + 1) (by rw [List.length_append, Hps.out.1]; rfl); have F8 := F7.grew (p := (.slice xa 8 xc, l.addr)) q7 gg8 hO8 pp8; have d88 : w8.cell? ⟨wr.heap.size, 8, none⟩ = some (.slice ta tn tc) := ((z7.grown gg8 (fun e => (by have := own_ltK F.oo e; omega))).cell 8).trans H8c.out))
      have F8' : TlW w (.slice oa8 (m + 1 + 0) oc8) (ps ++ [(.slice xa 8 xc, l.addr)]) w8 := F8
      have H0 : Hid ((ps ++ [(Value.slice xa 8 xc, l.addr)]).length = m + 1 + 0 ∧ (ps ++ [(Value.slice xa 8 xc, l.addr)]).map (·.2) = (ls.take k).flatMap lgTs ++ l.addr :: (l.tops.take 0).map wb) := Lib.hid ⟨by rw [List.length_append, Hps.out.1]; rfl, by rw [List.map_append, Hps.out.2]; rfl⟩
      clear s8 F6 F6' z6' d68 F7 F8 z6 b6 r7 b7 z7 hlt7 q7 hO7' gg7' b66 d88 hO8 gg8 pp8 hr F h1c Hps hll
      obtain ⟨PRE, hPRE⟩ : ∃ P, P = (ls.take k).flatMap lgTs := ⟨_, rfl⟩
      rw [← hPRE] at H0 Hnext
      go_loopw [3, 24] (fun ov ix wr => ∃ (j : Nat) (oa : Option Addr) (oc : Nat) (ps : List (Value × List UInt8)), j ≤ tn ∧ ix = .int .i64 (j : Int) ∧ ov = .slice oa (m + 1 + j) oc ∧ TlW w (.slice oa (m + 1 + j) oc) ps wr ∧ Hid (ps.length = m + 1 + j ∧ ps.map (·.2) = PRE ++ l.addr :: (l.tops.take j).map wb)) (fun _ ix _ => tn - (intOf ix).toNat)
      case atStart => exact ⟨0, oa8, oc8, _, by omega, rfl, rfl, F8', H0⟩
      case round =>
        clear F8' H0
        obtain ⟨j, ja, jc, js, hj, rfl, rfl, F, Hjs⟩ := hrel
        by_cases hjt : j < tn
        · have hji : (j : Int) < (tn : Int) := by omega
          have hj1 : j < l.tops.length := by rw [Htn.out]; exact hjt
          obtain ⟨b3, off3, rfl, hr3⟩ := RowOf.range wcs_len (Htr.out.below F.hb) j hj1
          have hstep : (l.tops.take (j + 1)).map wb = (l.tops.take j).map wb ++ [wb l.tops[j]] := by
            rw [List.take_succ_eq_append_getElem hj1, List.map_append]; rfl
          have hbj : m + 1 + j + 1 ≤ 1048576 := by omega
          generalize l.tops[j] = N at *
          have Hstep := Lib.hid hstep
          have cb : ∀ u : World, Calls Try.prog 102 #[.agg (wcs N).toArray] u (fun e w' => ∃ v, e = .returned v ∧ OwnOf b8 1 5 w' u.heap.size v (wb N) ∧ Below u.heap.size u w') := fun u => wbytes_any N u
          have Cb := Lib.hid cb
          have hwl := wcs_len N
          clear hstep cb hj1
          go_wp2_with (first
            | (refine wpList_load_mid (op := ⟨some 27, _, _, _, _, _⟩) (by rfl) 48 (.tmp 26) (by rfl) b3 (off3 + j * 4) (by rfl) (wcs N) _ hr3 Try.underlying48 rfl (by rw [hwl]; kernel_rfl) ?_)
            | ((with_reducible show wpList _ _ _ (⟨none, Op.store _ _ (Operand.tmp 27), _, _, _, _⟩ :: _) _ _); refine wpList_storeA (o := ⟨none, _, _, _, _, _⟩) (by rfl) 48 (.tmp 7) (.tmp 27) (by rfl) wr.heap.size (wcs N) (by rfl) (by rfl) aggWord (Blk.newA wr 48 _) hwl (by first | rfl | kernel_rfl) (wcs_one N) ((Below.refl wr.heap.size wr).alloc (Nat.le_refl _) _) (Nat.le_refl _) ?_; intro w4 z4 b4 _; have F4 := F.kept b4; have hs4 : wr.heap.size ≤ w4.heap.size := b4.size)
            | (refine wpList_loadA (o := ⟨some 29, _, _, _, _, _⟩) (by rfl) 48 (.tmp 7) (by rfl) wr.heap.size (by rfl) aggWord z4 hwl ?_)
            | (go_at_call 102; refine (Cb.out _).mono ?_; rintro e w5 ⟨v5, rfl, o5, b5⟩; obtain ⟨xa, xc, rfl, _⟩ := o5.form' 32 (wb_len N))
            | (refine wpList_buildW (o := ⟨some 31, _, _, _, _, _⟩) (by rfl) 26 1 [(0, .tmp 30)] (by rfl) elTx [(.slice xa 32 xc, wb N)] [.slice xa 32 xc] (by rfl) (by rfl) (by rfl) (by omega) (by omega) ?_; intro w7 _ r7 b7; have F7 := (F4.kept b5).kept b7; have hlt7 : w.heap.size ≤ w7.heap.size := F7.hb.size; have q7 := F4.fresh (v := .slice xa 32 xc) (t := wb N) (u' := w7) (Below.then b5 b7) (RowOf.kept o5.row b7) (fun x hx => ⟨o5.lt x hx, Nat.lt_of_lt_of_le (own_ltK o5 hx) b7.size⟩))
            | (refine wpList_appB (o := ⟨some 32, _, _, _, _, _⟩) (by rfl) (.tmp 28) (.tmp 31) 26 (by rfl) elTx (by intro u hu; simp [tcell] at hu; subst hu; rfl) (by rfl) F7.oo (by rfl) r7 hlt7 (by rw [Hjs.out.1]; simp; omega) (by rw [Hjs.out.1]; unfold maxLen; simp; omega) ?_; intro v8 w8 hO8 gg8 pp8; obtain ⟨oa8, oc8, rfl, _⟩ := hO8.form' (m + 1 + (j + 1)) (by rw [List.length_append, Hjs.out.1]; rfl); have F8 := F7.grew (p := (.slice xa 32 xc, wb N)) q7 gg8 hO8 pp8))
          go_roundw
          case rel => exact ⟨j + 1, oa8, oc8, js ++ [(.slice xa 32 xc, wb N)], by omega, by go_num, rfl, F8, Lib.hid ⟨by rw [List.length_append, Hjs.out.1]; rfl, by rw [List.map_append, Hjs.out.2, Hstep.out]; simp⟩⟩
          case measure => simp [intOf]; omega
        · obtain rfl : j = tn := by omega
          have hall : js.map (·.2) = PRE ++ lgTs l := by rw [Hjs.out.2, List.take_of_length_le (by rw [Htn.out]; exact Nat.le_refl _)]; rfl
          have Hall := Lib.hid hall
          clear hall
          go_wp2_with fail
          go_roundw
          case rel => exact ⟨k + 1, m + 1 + j, ja, jc, js, by omega, by go_num, rfl, F, Lib.hid ⟨Hjs.out.1, by rw [Hall.out, Hnext.out]⟩⟩
          case measure => simp [intOf]; omega
    · obtain rfl : k = n := by omega
      have hall : ps.map (·.2) = ls.flatMap lgTs := by rw [Hps.out.2, List.take_of_length_le (by rw [Hn.out]; exact Nat.le_refl _)]
      have Hall := Lib.hid hall
      clear hall
      go_wp2_with fail
      go_ret
      exact ⟨_, _, _, ps, rfl, F, Hall.out⟩
end Go.Proofs.Ytnhbfnegpjkojaa
