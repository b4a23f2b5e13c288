/- sift.may itself. -/
import Derived.Test.YtljbbpcnoajfeaaSf4
set_option linter.unusedSimpArgs false
set_option linter.unusedVariables false
namespace Go.Proofs.Ytljbbpcnoajfeaa
open Go.RowKit
set_option maxHeartbeats 4000000 in
set_option maxRecDepth 100000 in
theorem smay_any (f : Flt) (kf : f.Ok) (F : List UInt8) (hF : F.length = 32) (w : World) (hf : f.In w) :
    Calls Try.prog 37 #[.agg (flc f).toArray, .agg (fcs F).toArray] w fun e w' => e = .returned (.bool (maB f F)) ∧ Below w.heap.size w w' := by
  obtain ⟨aa, ac, hav, _⟩ := hf.ha.form
  obtain ⟨ta, tc, htv, _⟩ := hf.ht.form
  obtain ⟨w1, hw1⟩ : ∃ w1, w1 = (w.alloc (.cells (flc f).toArray 36)).alloc (.cells (fcs F).toArray 43) := ⟨_, rfl⟩
  have z1 : Blk 36 w1 w.heap.size (flc f) := by rw [hw1]; exact (Blk.new w _ _).alloc _
  have z2 : Blk 43 w1 (w.heap.size + 1) (fcs F) := by
    have := Blk.new (w.alloc (.cells (flc f).toArray 36)) 43 (fcs F)
    simp only [World.size_alloc] at this
    rw [hw1]; exact this
  have hbel : Below w.heap.size w w1 := by rw [hw1]; exact ((Below.refl _ _).alloc (Nat.le_refl _) _).alloc (by simp) _
  have d0 : ∀ u, Below w1.heap.size w1 u → u.cell? ⟨w.heap.size, 0, none⟩ = some (.slice aa f.A.length ac) := fun u hu => by rw [← hav]; exact (z1.kept hu).cell 0
  have d1 : w1.cell? ⟨w.heap.size, 1, none⟩ = some (.slice ta f.T.length tc) := by rw [← htv]; exact z1.cell 1
  have r1 : ∀ u, Below w1.heap.size w1 u → u.rangeAt (w.heap.size + 1) 0 (fcs F) := fun u hu => (z2.kept hu).all0
  have hA : RowOf adc 8 w1 (.slice aa f.A.length ac) f.A := by rw [← hav]; exact hf.ha.below hbel
  have hT : RowOf wcs 4 w1 (.slice ta f.T.length tc) f.T := by rw [← htv]; exact hf.ht.below hbel
  have hfl : flc f = [.slice aa f.A.length ac, .slice ta f.T.length tc] := by unfold flc; rw [hav, htv]
  have ck := kf.a
  have cc := fun (u : World) (hu : Below w1.heap.size w1 u) => containsF_any F hF (w.heap.size + 1) aa f.A.length ac f.A rfl u (hA.below hu) (z2.kept hu) (by omega)
  obtain ⟨qa, hqa⟩ : ∃ q, q = f.A.any fun a => mayB F a.b := ⟨_, rfl⟩
  simp only [← hqa] at cc
  obtain ⟨an, han⟩ : ∃ n, n = f.A.length := ⟨_, rfl⟩
  obtain ⟨tn, htn⟩ : ∃ n, n = f.T.length := ⟨_, rfl⟩
  have hres : maB f F = ((decide (an = 0) || qa) && f.T.all fun t => mayB F (wb t)) := by rw [han, hqa]; rfl
  obtain ⟨R, hR⟩ : ∃ R, R = maB f F := ⟨_, rfl⟩
  rw [← hR] at hres ⊢
  rw [← han] at d0 hA hfl ck
  simp only [← han] at cc
  rw [← htn] at d1 hT hfl
  have htn1 : tn ≤ 1048576 := by rw [htn]; exact kf.t
  have hfl2 := fcs_len hF
  obtain ⟨E, hE⟩ : ∃ E, E = fcs F := ⟨_, rfl⟩
  have cm := fun (N g : Nat) (u : World) (h : Blk 43 u g (hcs N)) => may_any F hF (some ⟨g, 0, none⟩) 32 32 (wb N) u (row_by _ 32 (wb N) (wb_len N) (by omega) g u h)
  simp only [← hE] at cm
  rw [← hE] at hfl2
  simp only [← hE] at r1
  rw [hfl, ← hE] at hw1 ⊢
  have HWe := Lib.hid hw1
  have D0 := Lib.hid d0
  have R1 := Lib.hid r1
  have HT := Lib.hid hT
  have Htn := Lib.hid htn.symm
  have Hfl := Lib.hid hfl2
  have HRes := Lib.hid hres
  have Cc := Lib.hid cc
  have Cm := Lib.hid cm
  have Hz := Lib.hid (fun u : World => Blk.new u 142 z4)
  have Hzh := Lib.hid (fun u : World => Blk.new u 43 z32)
  have hent := enters_my
  clear hw1 d0 r1 hT hA hf kf hfl hfl2 hE hR han htn hqa hav htv z1 z2 hres cc cm
  go_enter Try.func37, Try.ntmps37
  go_upto_region 1 with fail
  rw [← HWe.out]
  go_wp2_with fail
  have Q0 : Below w1.heap.size w1 w1 := Below.refl _ _
  go_loopw [11] (fun ix wr => ∃ k : Nat, k ≤ tn ∧ ix = .int .i64 (k : Int) ∧ Below w1.heap.size w1 wr ∧ Hid (∀ j (hj : j < f.T.length), j < k → mayB F (wb f.T[j]) = true)) (fun ix _ => tn - (intOf ix).toNat)
  case atStart => exact ⟨0, by omega, rfl, Q0, Lib.hid (fun j hj h => by omega)⟩
  case round =>
    clear Q0 d1
    obtain ⟨k, hk, rfl, hb, hno⟩ := hrel
    by_cases hlt : k < tn
    · have hki : (k : Int) < (tn : Int) := by omega
      have hwi : IntKind.i64.wrap ((k : Int) + 1) = ((k + 1 : Nat) : Int) := by rw [IntWalk.i64_in _ (by omega)]; omega
      have hil : k < f.T.length := by rw [Htn.out]; exact hlt
      obtain ⟨b, off, rfl, hr⟩ := RowOf.range wcs_len (HT.out.below hb) k hil
      obtain ⟨x, hx⟩ : ∃ x, x = f.T[k] := ⟨_, rfl⟩
      rw [← hx] at hr
      have cb : ∀ u : World, Calls Try.prog 66 #[.agg (wcs x).toArray] u _ := fun u => bytes_any x u
      have cx := fun (g : Nat) (u : World) => Cm.out x g u
      obtain ⟨q, hq⟩ : ∃ q, q = mayB F (wb x) := ⟨_, rfl⟩
      simp only [← hq] at cx
      have hXl := wcs_len x
      have hXo := wcs_one x
      have hHl := hcs_len x
      have hHo := hcs_one x
      obtain ⟨XC, hXC⟩ : ∃ C, C = wcs x := ⟨_, rfl⟩
      obtain ⟨HC, hHC⟩ : ∃ C, C = hcs x := ⟨_, rfl⟩
      rw [← hXC] at hr hXl hXo
      simp only [← hXC, ← hHC] at cb
      rw [← hHC] at hHl hHo
      simp only [← hHC] at cx
      have HR := Lib.hid hr
      have HXl := Lib.hid hXl
      have HXo := Lib.hid hXo
      have HHl := Lib.hid hHl
      have HHo := Lib.hid hHo
      have Cx := Lib.hid cx
      have Cb := Lib.hid cb
      have Hfin : Hid ((q = true → mayB F (wb f.T[k]) = true) ∧ (q = false → R = false)) := Lib.hid (by
        refine ⟨fun e => by rw [← hx, ← hq]; exact e, fun e => ?_⟩
        rw [HRes.out]
        have : (f.T.all fun t => mayB F (wb t)) = false := by
          rw [List.all_eq_false]
          exact ⟨_, List.getElem_mem hil, by rw [← hx, ← hq, e]; simp⟩
        rw [this, Bool.and_false])
      clear hr hXl hXo hHl hHo hXC hHC cx cb hq hx
      have hz4l : z4.length = 4 := rfl
      have hz32l : z32.length = 32 := rfl
      go_upto_region 5 with (first
        | ((with_reducible show wpList _ _ _ (⟨some 14, _, _, _, _, _⟩ :: _) _ _); refine wpList_loadW (o := ⟨some 14, _, _, _, _, _⟩) 142 (.tmp 13) (by rfl) b (off + k * 4) (by rfl) aggWord HXl.out HR.out (by rfl) ?_)
        | ((with_reducible show wpList _ _ _ (⟨none, Op.store _ _ (Operand.tmp 14), _, _, _, _⟩ :: _) _ _); refine wpList_storeA (o := ⟨none, _, _, _, _, _⟩) (by rfl) 142 (.tmp 6) (.tmp 14) (by rfl) wr.heap.size XC (by rfl) (by rfl) aggWord (Hz.out wr) HXl.out hz4l HXo.out ((Below.refl wr.heap.size wr).alloc (Nat.le_refl _) _) (Nat.le_refl _) ?_; intro w5 h5 b5 _; have b15 := Below.then hb b5; have r5 := h5.all0)
        | ((with_reducible show wpList _ _ _ (⟨some 15, _, _, _, _, _⟩ :: _) _ _); refine wpList_loadW (o := ⟨some 15, _, _, _, _, _⟩) 142 (.tmp 6) (by rfl) wr.heap.size 0 (by rfl) aggWord HXl.out r5 (by rfl) ?_)
        | (go_at_call 66; (with_reducible refine (Cb.out _).mono ?_); rintro e w6 ⟨rfl, b6⟩; have b16 := Below.then b15 b6)
        | ((with_reducible show wpList _ _ _ (⟨none, Op.store _ _ (Operand.tmp 16), _, _, _, _⟩ :: _) _ _); refine wpList_storeA (o := ⟨none, _, _, _, _, _⟩) (by rfl) 43 (.tmp 7) (.tmp 16) (by rfl) w6.heap.size HC (by rfl) (by rfl) aggHash' (Hzh.out w6) HHl.out hz32l HHo.out ((Below.refl w6.heap.size w6).alloc (Nat.le_refl _) _) (Nat.le_refl _) ?_; intro w7 h7 b7 _; have b17 := Below.then b16 b7))
      have rE := R1.out w7 b17
      have cy := fun (u : World) (hu : Below w7.heap.size w7 u) => Cx.out w6.heap.size u (h7.kept hu)
      have Cy := Lib.hid cy
      clear cy Cx Cb
      refine wp_region_typed w7 4 (by kernel_rfl) (by kernel_rfl) (Below.refl _ _) ?_; simp only [List.take_succ_cons, List.take_zero, List.take_nil]
      (refine wpX_step (by rfl) (fun K hK => ?_); rw [if_pos (by rfl)]; refine ⟨_, fun u => const_loadm _ (.tmp 3) (by rfl) _ _ (by rfl) aggHash' Hfl.out (rangeAt.ext rE u), hK _ ?_⟩; clear hK K; simp only [Act.put, List.setIfInBounds_toArray, List.set_cons_zero, List.set_cons_succ])
      (refine wpX_step (by rfl) (fun K hK => ?_); go_simp; first | (refine hK _ ?_; clear hK K) | (apply Exists.intro; refine ⟨fun _ => ?_, hK _ ?_⟩; fail; clear hK K))
      refine wpX_eq (.bool q) (fun w2 hw2 => ?_) ?_
      · simp only [relOf, List.filter_nil, List.filter_cons, forallRel]
        refine ⟨rfl, ?_⟩
        go_simp
        refine (Cy.out w2 hw2).mono ?_
        rintro e w8 ⟨rfl, b8⟩
        exact ⟨_, rfl, rfl, b8⟩
      (refine wpX_step (by rfl) (fun K hK => ?_); go_simp; first | (refine hK _ ?_; clear hK K) | (apply Exists.intro; refine ⟨fun _ => ?_, hK _ ?_⟩; fail; clear hK K))
      refine wpX_nil ?_
      intro u2 hb2
      change forallRel u2 [] _ _
      simp only [forallRel, List.drop_succ_cons, List.drop_zero, List.drop_nil]
      try simp only [Act.put, List.setIfInBounds_toArray, List.set_cons_zero, List.set_cons_succ]
      have b1u := Below.then b17 hb2
      have bwu := Below.then b5 (Below.then b6 (Below.then b7 hb2))
      cases q with
      | false =>
        have hfal : R = false := by have := Hfin.out.2; simpa using this
        subst hfal
        go_wp2_with fail
        go_ret
        exact ⟨rfl, Below.then hbel b1u⟩
      | true =>
        have htru : mayB F (wb f.T[k]) = true := by have := Hfin.out.1; simpa using this
        have HTru := Lib.hid htru
        clear htru Hfin
        go_wp2_with fail
        go_roundw
        case rel => exact ⟨k + 1, by omega, by go_num, Below.then hb bwu, Lib.hid (fun j hj h => by
          rcases Nat.lt_succ_iff_lt_or_eq.1 h with h | rfl
          · exact hno.out j hj h
          · exact HTru.out)⟩
        case measure => simp [intOf]; omega
    · obtain rfl : k = tn := by omega
      have hres : R = (decide (an = 0) || qa) := by
        have : (f.T.all fun t => mayB F (wb t)) = true := by
          rw [List.all_eq_true]
          intro x hx
          obtain ⟨j, hj, rfl⟩ := List.mem_iff_getElem.1 hx
          exact hno.out j hj (by rw [← Htn.out]; exact hj)
        rw [HRes.out, this, Bool.and_true]
      have e0 := D0.out wr hb
      have Cw := Lib.hid (Cc.out wr hb)
      clear HRes Cc D0 hno
      by_cases ha0 : an = 0
      · subst ha0
        have hR1 : R = true := by rw [hres]; rfl
        clear hres Cw
        subst hR1
        go_wp2_with fail
        go_ret
        exact ⟨rfl, Below.then hbel hb⟩
      · have hai : ((an : Int) == 0) = false := by simp; omega
        rw [show decide (an = 0) = false from decide_eq_false ha0, Bool.false_or] at hres
        subst hres
        go_wp2_with (go_at_call 68; (with_reducible refine Cw.out.mono ?_); rintro e w9 ⟨rfl, b9⟩)
        go_ret
        exact ⟨rfl, Below.then hbel (Below.then hb b9)⟩
end Go.Proofs.Ytljbbpcnoajfeaa
