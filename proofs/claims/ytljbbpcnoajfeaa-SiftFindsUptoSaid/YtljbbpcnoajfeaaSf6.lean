/- The reference's tmay. -/
import Derived.Test.YtljbbpcnoajfeaaSf3
import Derived.Test.YtljbbpcnoajfeaaSf4
import Derived.Test.YtljbbpcnoajfeaaPackA
set_option linter.unusedSimpArgs false
set_option linter.unusedVariables false
namespace Go.Proofs.Ytljbbpcnoajfeaa
open Go.RowKit
theorem any_step {α : Type} (p : α → Bool) (l : List α) (k : Nat) (hk : k < l.length) : (l.take (k + 1)).any p = ((l.take k).any p || p l[k]) := by
  rw [List.take_succ_eq_append_getElem hk, List.any_append]
  simp
def WbT (x : Nat) : Ty := fun v w => Bytes w v (wb x)
theorem WbT.mono (x : Nat) : Mono (WbT x) := fun _ _ _ h hb => RowOf.below h hb
set_option maxHeartbeats 8000000 in
set_option maxRecDepth 100000 in
theorem tmay_any (f : Flt) (kf : f.Ok) (F : List UInt8) (hF : F.length = 32) (w : World) (hf : f.In w) :
    Calls Try.prog 35 #[.agg (flc f).toArray, .agg (fcs F).toArray] w fun e w' => e = .returned (.bool (maB f F)) ∧ Below w.heap.size w w' := by
  obtain ⟨aa, ac, hav, _⟩ := hf.ha.form
  obtain ⟨ta, tc, htv, _⟩ := hf.ht.form
  obtain ⟨w1, hw1⟩ : ∃ w1, w1 = (w.alloc (.cells (flc f).toArray 36)).alloc (.cells (fcs F).toArray 43) := ⟨_, rfl⟩
  have z1 : Blk 36 w1 w.heap.size (flc f) := by rw [hw1]; exact (Blk.new w _ _).alloc _
  have z2 : Blk 43 w1 (w.heap.size + 1) (fcs F) := by
    have := Blk.new (w.alloc (.cells (flc f).toArray 36)) 43 (fcs F)
    simp only [World.size_alloc] at this
    rw [hw1]; exact this
  have hbel : Below w.heap.size w w1 := by rw [hw1]; exact ((Below.refl _ _).alloc (Nat.le_refl _) _).alloc (by simp) _
  have c0 : w1.cell? ⟨w.heap.size, 0, none⟩ = some (.slice aa f.A.length ac) := by rw [← hav]; exact z1.cell 0
  have d1 : ∀ u, Below w1.heap.size w1 u → u.cell? ⟨w.heap.size, 1, none⟩ = some (.slice ta f.T.length tc) := fun u hu => by rw [← htv]; exact (z1.kept hu).cell 1
  have r1 : ∀ u, Below w1.heap.size w1 u → u.rangeAt (w.heap.size + 1) 0 (fcs F) := fun u hu => (z2.kept hu).all0
  have hA : RowOf adc 8 w1 (.slice aa f.A.length ac) f.A := by rw [← hav]; exact hf.ha.below hbel
  have hT : RowOf wcs 4 w1 (.slice ta f.T.length tc) f.T := by rw [← htv]; exact hf.ht.below hbel
  have hfl : flc f = [.slice aa f.A.length ac, .slice ta f.T.length tc] := by unfold flc; rw [hav, htv]
  obtain ⟨an, han⟩ : ∃ n, n = f.A.length := ⟨_, rfl⟩
  obtain ⟨tn, htn⟩ : ∃ n, n = f.T.length := ⟨_, rfl⟩
  have hres : maB f F = ((decide (f.A.length = 0) || (f.A.take an).any fun a => mayB F a.b) && (f.T.take tn).all fun t => mayB F (wb t)) := by
    rw [han, htn, List.take_length, List.take_length]; rfl
  obtain ⟨R, hR⟩ : ∃ R, R = maB f F := ⟨_, rfl⟩
  rw [← hR] at hres ⊢
  rw [← han] at c0 hA hfl hres
  rw [← htn] at d1 hT hfl
  have han1 : an ≤ 1048576 := by rw [han]; exact kf.a
  have htn1 : tn ≤ 1048576 := by rw [htn]; exact kf.t
  have hfl2 := fcs_len hF
  have cmA := fun (x : Ad8) (g : Nat) (u : World) (h : Blk 46 u g (by8 x.b)) => jmay_any F hF (some ⟨g, 0, none⟩) 8 8 x.b x.l u (row_by _ 8 x.b x.l (by omega) g u h) (by omega)
  have cmW := fun (N : Nat) (a : Option Addr) (c : Nat) (u : World) (h : Bytes u (.slice a 32 c) (wb N)) => jmay_any F hF a 32 c (wb N) (wb_len N) u h (by omega)
  obtain ⟨E, hE⟩ : ∃ E, E = fcs F := ⟨_, rfl⟩
  simp only [← hE] at cmA cmW r1
  rw [← hE] at hfl2
  rw [hfl, ← hE] at hw1 ⊢
  have HWe := Lib.hid hw1
  have D1 := Lib.hid d1
  have R1 := Lib.hid r1
  have HA := Lib.hid hA
  have HT := Lib.hid hT
  have Han := Lib.hid han.symm
  have Htn := Lib.hid htn.symm
  have Hfl := Lib.hid hfl2
  have CmA := Lib.hid cmA
  have CmW := Lib.hid cmW
  have Hz4 := Lib.hid (fun u : World => Blk.new u 142 z4)
  have Hza := Lib.hid (fun u : World => Blk.new u 46 (List.replicate 8 (Value.int .u8 0)))
  have HRes := Lib.hid hres
  obtain ⟨q0, hq0⟩ : ∃ q, q = decide (an = 0) := ⟨_, rfl⟩
  have HQ0 := Lib.hid hq0
  have hq1 : ((an : Int) == 0) = q0 := by rw [hq0]; by_cases h : an = 0 <;> simp [h]
  clear hw1 d1 r1 hT hA hf kf hfl hfl2 cmA cmW hE hR hav htv z1 z2 htn han hres hq0
  go_enter Try.func35, Try.ntmps35
  go_upto_region 1 with fail
  rw [← HWe.out]
  go_wp2_with fail
  have Q0 : Below w1.heap.size w1 w1 := Below.refl _ _
  go_loopw [5, 17] (fun ok ix wr => ∃ k : Nat, k ≤ an ∧ ok = .bool (q0 || (f.A.take k).any fun a => mayB F a.b) ∧ ix = .int .i64 (k : Int) ∧ Below w1.heap.size w1 wr) (fun _ ix _ => an - (intOf ix).toNat)
  case atStart => exact ⟨0, by omega, by simp, rfl, Q0⟩
  case round =>
    clear Q0 c0
    obtain ⟨k, hk, rfl, rfl, hb⟩ := hrel
    by_cases hlt : k < an
    · have hki : (k : Int) < (an : Int) := by omega
      have hwi : IntKind.i64.wrap ((k : Int) + 1) = ((k + 1 : Nat) : Int) := by rw [IntWalk.i64_in _ (by omega)]; omega
      have hil : k < f.A.length := by rw [Han.out]; exact hlt
      obtain ⟨b, off, rfl, hr⟩ := RowOf.range adc_len (HA.out.below hb) k hil
      obtain ⟨X, hX⟩ : ∃ X, X = f.A[k] := ⟨_, rfl⟩
      have hr' : wr.rangeAt b (off + k * 8) (by8 X.b) := by rw [hX]; exact hr
      have hXl : (by8 X.b).length = 8 := by rw [by8_len]; exact X.l
      have hXo := by8_one X.b
      have cx := fun (g : Nat) (u : World) => CmA.out X g u
      obtain ⟨q, hq⟩ : ∃ q, q = mayB F X.b := ⟨_, rfl⟩
      simp only [← hq] at cx
      obtain ⟨o1, ho1⟩ : ∃ s, s = (q0 || (f.A.take k).any fun a => mayB F a.b) := ⟨_, rfl⟩
      have hst : (q0 || (f.A.take (k + 1)).any fun a => mayB F a.b) = (o1 || q) := by rw [any_step _ f.A k hil, ← hX, ← hq, ho1, Bool.or_assoc]
      obtain ⟨s2, hs2⟩ : ∃ s, s = (q0 || (f.A.take (k + 1)).any fun a => mayB F a.b) := ⟨_, rfl⟩
      rw [← hs2] at hst
      rw [← ho1]
      obtain ⟨XC, hXC⟩ : ∃ C, C = by8 X.b := ⟨_, rfl⟩
      rw [← hXC] at hr' hXl hXo
      simp only [← hXC] at cx
      have HR := Lib.hid hr'
      have HXl := Lib.hid hXl
      have HXo := Lib.hid hXo
      have HS2 := Lib.hid hs2
      have HSt := Lib.hid hst
      have Cx := Lib.hid cx
      clear hr' hr hXC hXl hXo hq hX hs2 hst cx ho1
      have hzal : (List.replicate 8 (Value.int .u8 0)).length = 8 := rfl
      go_upto_block 1 with fail
      go_upto_region 5 with (first
        | ((with_reducible show wpList _ _ _ (⟨some 20, _, _, _, _, _⟩ :: _) _ _); refine wpList_loadW (o := ⟨some 20, _, _, _, _, _⟩) 46 (.tmp 19) (by rfl) b (off + k * 8) (by rfl) aggAd HXl.out HR.out (by rfl) ?_)
        | ((with_reducible show wpList _ _ _ (⟨none, Op.store _ _ (Operand.tmp 20), _, _, _, _⟩ :: _) _ _); refine wpList_storeA (o := ⟨none, _, _, _, _, _⟩) (by rfl) 46 (.tmp 7) (.tmp 20) (by rfl) wr.heap.size XC (by rfl) (by rfl) aggAd (Hza.out wr) HXl.out hzal HXo.out ((Below.refl wr.heap.size wr).alloc (Nat.le_refl _) _) (Nat.le_refl _) ?_; intro w5 h5 b5 _; have b15 := Below.then hb b5))
      have rE := R1.out w5 b15
      have cy := fun (u : World) (hu : Below w5.heap.size w5 u) => Cx.out wr.heap.size u (h5.kept hu)
      have Cy := Lib.hid cy
      clear cy Cx
      cases q with
      | true =>
        refine wp_region_typed w5 6 (by kernel_rfl) (by kernel_rfl) (Below.refl _ _) ?_; simp only [List.take_succ_cons, List.take_zero, List.take_nil]
        (refine wpX_step (by rfl) (fun K hK => ?_); rw [if_pos (by rfl)]; refine ⟨_, fun u => const_loadm _ (.tmp 3) (by rfl) _ _ (by rfl) aggHash' Hfl.out (rangeAt.ext rE u), hK _ ?_⟩; clear hK K; simp only [Act.put, List.setIfInBounds_toArray, List.set_cons_zero, List.set_cons_succ])
        (refine wpX_step (by rfl) (fun K hK => ?_); go_simp; first | (refine hK _ ?_; clear hK K) | (apply Exists.intro; refine ⟨fun _ => ?_, hK _ ?_⟩; fail; clear hK K))
        refine wpX_eq (.bool true) (fun w2 hw2 => ?_) ?_
        · simp only [relOf, List.filter_nil, List.filter_cons, forallRel]
          refine ⟨rfl, ?_⟩
          go_simp
          refine (Cy.out w2 hw2).mono ?_
          rintro e w8 ⟨rfl, b8⟩
          exact ⟨_, rfl, rfl, b8⟩
        iterate 3 (refine wpX_step (by rfl) (fun K hK => ?_); go_simp; first | (refine hK _ ?_; clear hK K) | (apply Exists.intro; refine ⟨fun _ => ?_, hK _ ?_⟩; fail; clear hK K))
        refine wpX_nil ?_
        intro u2 hb2
        change wpList _ _ _ [_] _ _
        try simp only [Act.put, List.setIfInBounds_toArray, List.set_cons_zero, List.set_cons_succ]
        have b1u := Below.then b15 hb2
        go_wp2_with fail
        go_roundw
        case rel => exact ⟨k + 1, by omega, by rw [← HS2.out, HSt.out, Bool.or_true], by go_num, b1u⟩
        case measure => simp [intOf]; omega
      | false =>
        refine wp_region_typed w5 6 (by kernel_rfl) (by kernel_rfl) (Below.refl _ _) ?_; simp only [List.take_succ_cons, List.take_zero, List.take_nil]
        (refine wpX_step (by rfl) (fun K hK => ?_); rw [if_pos (by rfl)]; refine ⟨_, fun u => const_loadm _ (.tmp 3) (by rfl) _ _ (by rfl) aggHash' Hfl.out (rangeAt.ext rE u), hK _ ?_⟩; clear hK K; simp only [Act.put, List.setIfInBounds_toArray, List.set_cons_zero, List.set_cons_succ])
        (refine wpX_step (by rfl) (fun K hK => ?_); go_simp; first | (refine hK _ ?_; clear hK K) | (apply Exists.intro; refine ⟨fun _ => ?_, hK _ ?_⟩; fail; clear hK K))
        refine wpX_eq (.bool false) (fun w2 hw2 => ?_) ?_
        · simp only [relOf, List.filter_nil, List.filter_cons, forallRel]
          refine ⟨rfl, ?_⟩
          go_simp
          refine (Cy.out w2 hw2).mono ?_
          rintro e w8 ⟨rfl, b8⟩
          exact ⟨_, rfl, rfl, b8⟩
        iterate 3 (refine wpX_step (by rfl) (fun K hK => ?_); go_simp; first | (refine hK _ ?_; clear hK K) | (apply Exists.intro; refine ⟨fun _ => ?_, hK _ ?_⟩; fail; clear hK K))
        refine wpX_nil ?_
        intro u2 hb2
        change wpList _ _ _ [_] _ _
        try simp only [Act.put, List.setIfInBounds_toArray, List.set_cons_zero, List.set_cons_succ]
        have b1u := Below.then b15 hb2
        go_wp2_with fail
        go_roundw
        case rel => exact ⟨k + 1, by omega, by rw [← HS2.out, HSt.out, Bool.or_false], by go_num, b1u⟩
        case measure => simp [intOf]; omega
    · obtain rfl : k = an := by omega
      obtain ⟨W0, rfl⟩ : ∃ x, x = wr := ⟨wr, rfl⟩
      obtain ⟨qa, hqa⟩ : ∃ q, q = (q0 || (f.A.take k).any fun a => mayB F a.b) := ⟨_, rfl⟩
      have hres := HRes.out
      rw [← HQ0.out, ← hqa] at hres
      rw [← hqa]
      have HRes2 := Lib.hid hres
      have e1 := D1.out W0 hb
      clear hres hqa HRes HQ0
      go_wp2_with fail
      have Q0 : Below W0.heap.size W0 W0 := Below.refl _ _
      go_loopw [5, 31] (fun ok ix wr => ∃ k : Nat, k ≤ tn ∧ ok = .bool (qa && (f.T.take k).all fun t => mayB F (wb t)) ∧ ix = .int .i64 (k : Int) ∧ Below w1.heap.size w1 wr) (fun _ ix _ => tn - (intOf ix).toNat)
      case atStart => exact ⟨0, by omega, by simp, rfl, hb⟩
      case round =>
        clear Q0 hb e1 hlt hk
        obtain ⟨i, hi, rfl, rfl, hb⟩ := hrel
        by_cases hlt : i < tn
        · have hki : (i : Int) < (tn : Int) := by omega
          have hwi : IntKind.i64.wrap ((i : Int) + 1) = ((i + 1 : Nat) : Int) := by rw [IntWalk.i64_in _ (by omega)]; omega
          have hil : i < f.T.length := by rw [Htn.out]; exact hlt
          obtain ⟨b, off, rfl, hr⟩ := RowOf.range wcs_len (HT.out.below hb) i hil
          obtain ⟨x, hx⟩ : ∃ x, x = f.T[i] := ⟨_, rfl⟩
          rw [← hx] at hr
          have hXl := wcs_len x
          have hXo := wcs_one x
          have cx := fun (a : Option Addr) (c : Nat) (u : World) => CmW.out x a c u
          have cb := fun u : World => wbytes_any x u
          have cb2 : ∀ u : World, Calls Try.prog 65 #[.agg (wcs x).toArray] u _ := cb
          obtain ⟨q, hq⟩ : ∃ q, q = mayB F (wb x) := ⟨_, rfl⟩
          simp only [← hq] at cx
          have hst : ((f.T.take (i + 1)).all fun t => mayB F (wb t)) = (((f.T.take i).all fun t => mayB F (wb t)) && q) := by rw [all_step _ _ i hil, ← hx, ← hq]
          obtain ⟨o1, ho1⟩ : ∃ s, s = (qa && (f.T.take i).all fun t => mayB F (wb t)) := ⟨_, rfl⟩
          obtain ⟨s2, hs2⟩ : ∃ s, s = (qa && (f.T.take (i + 1)).all fun t => mayB F (wb t)) := ⟨_, rfl⟩
          have hfin : s2 = (o1 && q) := by rw [hs2, hst, ho1, Bool.and_assoc]
          rw [← ho1]
          have HFin := Lib.hid hfin
          have HS2 := Lib.hid hs2
          obtain ⟨XC, hXC⟩ : ∃ C, C = wcs x := ⟨_, rfl⟩
          rw [← hXC] at hr hXl hXo
          simp only [← hXC] at cb2
          have HR := Lib.hid hr
          have HXl := Lib.hid hXl
          have HXo := Lib.hid hXo
          have Cx := Lib.hid cx
          have Cb := Lib.hid cb2
          clear hr hXl hXo hXC hx hst hs2 hfin cx cb cb2 hq ho1
          have hz4l : z4.length = 4 := rfl
          go_upto_region 10 with (first
            | ((with_reducible show wpList _ _ _ (⟨some 34, _, _, _, _, _⟩ :: _) _ _); refine wpList_loadW (o := ⟨some 34, _, _, _, _, _⟩) 142 (.tmp 33) (by rfl) b (off + i * 4) (by rfl) aggWord HXl.out HR.out (by rfl) ?_)
            | ((with_reducible show wpList _ _ _ (⟨none, Op.store _ _ (Operand.tmp 34), _, _, _, _⟩ :: _) _ _); refine wpList_storeA (o := ⟨none, _, _, _, _, _⟩) (by rfl) 142 (.tmp 9) (.tmp 34) (by rfl) wr.heap.size XC (by rfl) (by rfl) aggWord (Hz4.out wr) HXl.out hz4l HXo.out ((Below.refl wr.heap.size wr).alloc (Nat.le_refl _) _) (Nat.le_refl _) ?_; intro w5 h5 b5 _; have b15 := Below.then hb b5; have r5 := h5.all0))
          have rE := R1.out w5 b15
          cases q with
          | true =>
            refine wp_region_typed w5 7 (by kernel_rfl) (by kernel_rfl) (Below.refl _ _) ?_; simp only [List.take_succ_cons, List.take_zero, List.take_nil]
            (refine wpX_step (by rfl) (fun K hK => ?_); rw [if_pos (by rfl)]; refine ⟨_, fun u => const_loadm _ (.tmp 3) (by rfl) _ _ (by rfl) aggHash' Hfl.out (rangeAt.ext rE u), hK _ ?_⟩; clear hK K; simp only [Act.put, List.setIfInBounds_toArray, List.set_cons_zero, List.set_cons_succ])
            (refine wpX_step (by rfl) (fun K hK => ?_); rw [if_pos (by rfl)]; refine ⟨_, fun u => const_loadm _ (.tmp 9) (by rfl) _ _ (by rfl) aggWord HXl.out (rangeAt.ext r5 u), hK _ ?_⟩; clear hK K; simp only [Act.put, List.setIfInBounds_toArray, List.set_cons_zero, List.set_cons_succ])
            refine wpX_rel 37 (WbT x) rfl (of_decide_eq_true rfl) (WbT.mono _) (fun w2 hw2 => ?_) ?_
            · simp only [relOf, List.filter_nil, List.filter_cons, forallRel]
              refine ⟨rfl, ?_⟩
              go_simp
              refine (Cb.out w2).mono ?_
              rintro e w8 ⟨v, rfl, o8, b8⟩
              exact ⟨v, rfl, o8.row, b8⟩
            refine wpX_eq (.bool true) (fun w2 hw2 => ?_) ?_
            · change forallRel w2 [(37, _)] _ _
              intro v37 h37
              obtain ⟨a37, c37, rfl, _⟩ := RowOf.form' h37 32 (wb_len x)
              simp only [forallRel]
              refine ⟨rfl, ?_⟩
              go_simp
              refine (Cx.out a37 c37 w2 h37).mono ?_
              rintro e w8 ⟨rfl, b8⟩
              exact ⟨_, rfl, rfl, b8⟩
            iterate 3 (refine wpX_step (by rfl) (fun K hK => ?_); go_simp; first | (refine hK _ ?_; clear hK K) | (apply Exists.intro; refine ⟨fun _ => ?_, hK _ ?_⟩; fail; clear hK K))
            refine wpX_nil ?_
            intro u2 hb2 v37 _
            change wpList _ _ _ [_] _ _
            try simp only [Act.put, List.setIfInBounds_toArray, List.set_cons_zero, List.set_cons_succ]
            have b1u := Below.then b15 hb2
            go_wp2_with fail
            go_roundw
            case rel => exact ⟨i + 1, by omega, by rw [← HS2.out, HFin.out, Bool.and_true], by go_num, b1u⟩
            case measure => simp [intOf]; omega
          | false =>
            refine wp_region_typed w5 7 (by kernel_rfl) (by kernel_rfl) (Below.refl _ _) ?_; simp only [List.take_succ_cons, List.take_zero, List.take_nil]
            (refine wpX_step (by rfl) (fun K hK => ?_); rw [if_pos (by rfl)]; refine ⟨_, fun u => const_loadm _ (.tmp 3) (by rfl) _ _ (by rfl) aggHash' Hfl.out (rangeAt.ext rE u), hK _ ?_⟩; clear hK K; simp only [Act.put, List.setIfInBounds_toArray, List.set_cons_zero, List.set_cons_succ])
            (refine wpX_step (by rfl) (fun K hK => ?_); rw [if_pos (by rfl)]; refine ⟨_, fun u => const_loadm _ (.tmp 9) (by rfl) _ _ (by rfl) aggWord HXl.out (rangeAt.ext r5 u), hK _ ?_⟩; clear hK K; simp only [Act.put, List.setIfInBounds_toArray, List.set_cons_zero, List.set_cons_succ])
            refine wpX_rel 37 (WbT x) rfl (of_decide_eq_true rfl) (WbT.mono _) (fun w2 hw2 => ?_) ?_
            · simp only [relOf, List.filter_nil, List.filter_cons, forallRel]
              refine ⟨rfl, ?_⟩
              go_simp
              refine (Cb.out w2).mono ?_
              rintro e w8 ⟨v, rfl, o8, b8⟩
              exact ⟨v, rfl, o8.row, b8⟩
            refine wpX_eq (.bool false) (fun w2 hw2 => ?_) ?_
            · change forallRel w2 [(37, _)] _ _
              intro v37 h37
              obtain ⟨a37, c37, rfl, _⟩ := RowOf.form' h37 32 (wb_len x)
              simp only [forallRel]
              refine ⟨rfl, ?_⟩
              go_simp
              refine (Cx.out a37 c37 w2 h37).mono ?_
              rintro e w8 ⟨rfl, b8⟩
              exact ⟨_, rfl, rfl, b8⟩
            iterate 3 (refine wpX_step (by rfl) (fun K hK => ?_); go_simp; first | (refine hK _ ?_; clear hK K) | (apply Exists.intro; refine ⟨fun _ => ?_, hK _ ?_⟩; fail; clear hK K))
            refine wpX_nil ?_
            intro u2 hb2 v37 _
            change wpList _ _ _ [_] _ _
            try simp only [Act.put, List.setIfInBounds_toArray, List.set_cons_zero, List.set_cons_succ]
            have b1u := Below.then b15 hb2
            go_wp2_with fail
            go_roundw
            case rel => exact ⟨i + 1, by omega, by rw [← HS2.out, HFin.out, Bool.and_false], by go_num, b1u⟩
            case measure => simp [intOf]; omega
        · obtain rfl : i = tn := by omega
          rw [← HRes2.out]
          go_wp2_with fail
          go_ret
          exact ⟨rfl, Below.then hbel hb⟩
end Go.Proofs.Ytljbbpcnoajfeaa
