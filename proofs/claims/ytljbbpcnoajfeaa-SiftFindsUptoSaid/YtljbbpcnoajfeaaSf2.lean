/- sift.lets. -/
import Derived.Test.YtljbbpcnoajfeaaSf1
import Derived.Test.YtljbbpcnoajfeaaOpenA
set_option linter.unusedSimpArgs false
set_option linter.unusedVariables false
namespace Go.Proofs.Ytljbbpcnoajfeaa
open Go.RowKit
/-- a filter -/
structure Flt where
  av : Value
  A : List Ad8
  tv : Value
  T : List Nat
def flc (f : Flt) : List Value := [f.av, f.tv]
structure Flt.In (w : World) (f : Flt) : Prop where
  ha : RowOf adc 8 w f.av f.A
  ht : RowOf wcs 4 w f.tv f.T
theorem Flt.In.kept {w w' : World} {f : Flt} (h : f.In w) (hb : Below w.heap.size w w') : f.In w' := ⟨h.ha.below hb, h.ht.below hb⟩
theorem aggFl : Agg Try.prog 36 2 := ⟨_, Try.underlying36, rfl, by kernel_rfl⟩
structure Flt.Ok (f : Flt) : Prop where
  a : f.A.length ≤ 1048576
  t : f.T.length ≤ 1048576
  w : ∀ x ∈ f.T, x < W256
structure Lgv.Ok (l : Lgv) : Prop where
  t : l.tops.length ≤ 1048576
  d : l.dat.length ≤ 1048576
  w : ∀ x ∈ l.tops, x < W256
/-- does a filter let a log through? -/
def letB (f : Flt) (l : Lgv) : Bool := (decide (f.A.length = 0) || hasA f.A l.addr) && f.T.all fun t => hasW l.tops t
set_option maxHeartbeats 4000000 in
set_option maxRecDepth 100000 in
theorem lets_any (f : Flt) (kf : f.Ok) (l : Lgv) (kl : l.Ok) (w : World) (hf : f.In w) (hl : l.In w) :
    Calls Try.prog 62 #[.agg (flc f).toArray, .agg (lgc l).toArray] w fun e w' => e = .returned (.bool (letB f l)) ∧ Below w.heap.size w w' := by
  obtain ⟨aa, ac, hav, _⟩ := hf.ha.form
  obtain ⟨ta, tc, htv, _⟩ := hf.ht.form
  obtain ⟨la, lc, hlv, _⟩ := hl.ht.form
  obtain ⟨w1, hw1⟩ : ∃ w1, w1 = (w.alloc (.cells (flc f).toArray 36)).alloc (.cells (lgc l).toArray 84) := ⟨_, rfl⟩
  have z1 : Blk 36 w1 w.heap.size (flc f) := by rw [hw1]; exact (Blk.new w _ _).alloc _
  have z2 : Blk 84 w1 (w.heap.size + 1) (lgc l) := by
    have := Blk.new (w.alloc (.cells (flc f).toArray 36)) 84 (lgc l)
    simp only [World.size_alloc] at this
    rw [hw1]; exact this
  have hbel : Below w.heap.size w w1 := by rw [hw1]; exact ((Below.refl _ _).alloc (Nat.le_refl _) _).alloc (by simp) _
  have c0 : w1.cell? ⟨w.heap.size, 0, none⟩ = some (.slice aa f.A.length ac) := by rw [← hav]; exact z1.cell 0
  have d1 : ∀ u, Below w1.heap.size w1 u → u.cell? ⟨w.heap.size, 1, none⟩ = some (.slice ta f.T.length tc) := fun u hu => by rw [← htv]; exact (z1.kept hu).cell 1
  have d8 : ∀ u, Below w1.heap.size w1 u → u.cell? ⟨w.heap.size + 1, 8, none⟩ = some (.slice la l.tops.length lc) := fun u hu => by rw [← hlv, (z2.kept hu).cell 8]; exact lgc_tops l
  have r1 : w1.rangeAt (w.heap.size + 1) 0 (by8 l.addr) := by have := z2.range 0 8; rw [lgc_addr] at this; exact this
  have hA : RowOf adc 8 w1 (.slice aa f.A.length ac) f.A := by rw [← hav]; exact hf.ha.below hbel
  have hT : RowOf wcs 4 w1 (.slice ta f.T.length tc) f.T := by rw [← htv]; exact hf.ht.below hbel
  have hL : RowOf wcs 4 w1 (.slice la l.tops.length lc) l.tops := by rw [← hlv]; exact hl.ht.below hbel
  have c1 := containsA_any aa f.A.length ac f.A rfl l.addr l.len w1 hA (by have := kf.a; omega)
  have c2 := fun (x : Nat) (hx : x < W256) u (hu : Below w1.heap.size w1 u) => containsW_any la l.tops.length lc l.tops rfl kl.w x hx u (hL.below hu) (by have := kl.t; omega)
  have hfl : flc f = [.slice aa f.A.length ac, .slice ta f.T.length tc] := by unfold flc; rw [hav, htv]
  have hres : letB f l = ((decide (f.A.length = 0) || hasA f.A l.addr) && f.T.all fun t => hasW l.tops t) := rfl
  obtain ⟨R, hR⟩ : ∃ R, R = letB f l := ⟨_, rfl⟩
  rw [← hR] at hres ⊢
  obtain ⟨qa, hqa⟩ : ∃ q, q = hasA f.A l.addr := ⟨_, rfl⟩
  rw [← hqa] at c1 hres
  obtain ⟨an, han⟩ : ∃ n, n = f.A.length := ⟨_, rfl⟩
  obtain ⟨tn, htn⟩ : ∃ n, n = f.T.length := ⟨_, rfl⟩
  obtain ⟨ln, hln⟩ : ∃ n, n = l.tops.length := ⟨_, rfl⟩
  rw [← han] at c0 c1 hres hfl
  rw [← htn] at d1 hT hfl
  rw [← hln] at d8
  simp only [← hln] at c2
  have hAl : (by8 l.addr).length = 8 := by rw [by8_len]; exact l.len
  obtain ⟨AC, hAC⟩ : ∃ C, C = by8 l.addr := ⟨_, rfl⟩
  obtain ⟨LC, hLC⟩ : ∃ C, C = lgc l := ⟨_, rfl⟩
  rw [← hAC] at r1 c1 hAl
  rw [hfl, ← hLC] at hw1 ⊢
  have htn1 : tn ≤ 1048576 := by rw [htn]; exact kf.t
  have HWe := Lib.hid hw1
  have HAl := Lib.hid hAl
  have C1 := Lib.hid c1
  have C2 := Lib.hid c2
  have D1 := Lib.hid d1
  have D8 := Lib.hid d8
  have HT := Lib.hid hT
  have Htn := Lib.hid htn.symm
  have HTw := Lib.hid kf.w
  have hz4 := fun u : World => Blk.new u 142 z4
  have Hz4 := Lib.hid hz4
  have hd1 := d1 w1 (Below.refl _ _)
  clear han hw1 hAl c1 c2 d1 d8 hT htn hA hL hf hl kl hfl hAC hLC hR hqa hln hav htv hlv z1 z2 hz4
  go_enter Try.func62, Try.ntmps62
  go_upto_region 1 with fail
  rw [← HWe.out]
  by_cases ha0 : an = 0
  · subst ha0
    have HRes : Hid (R = f.T.all fun t => hasW l.tops t) := Lib.hid (by rw [hres]; rfl)
    clear hres C1
    go_upto_region 3 with fail
    obtain ⟨W0, hW0⟩ : ∃ W, W = w1 := ⟨_, rfl⟩
    have b10 : Below w1.heap.size w1 W0 := by rw [hW0]; exact Below.refl _ _
    have e1 := D1.out W0 b10
    rw [← hW0]
    clear hW0 hd1 c0
    go_wp2_with fail
    have Q0 : Below W0.heap.size W0 W0 := Below.refl _ _
    go_loopw [22] (fun ix wr => ∃ k : Nat, k ≤ tn ∧ ix = .int .i64 (k : Int) ∧ Below W0.heap.size W0 wr ∧ Hid (∀ j (hj : j < f.T.length), j < k → hasW l.tops f.T[j] = true)) (fun ix _ => tn - (intOf ix).toNat)
    case atStart => exact ⟨0, by omega, rfl, Q0, Lib.hid (fun j hj h => by omega)⟩
    case round =>
      clear Q0
      obtain ⟨k, hk, rfl, hb, hno⟩ := hrel
      have b1w := Below.then b10 hb
      by_cases hlt : k < tn
      · have hki : (k : Int) < (tn : Int) := by omega
        have hwi : IntKind.i64.wrap ((k : Int) + 1) = ((k + 1 : Nat) : Int) := by rw [IntWalk.i64_in _ (by omega)]; omega
        have hil : k < f.T.length := by rw [Htn.out]; exact hlt
        obtain ⟨b, off, rfl, hr⟩ := RowOf.range wcs_len (HT.out.below b1w) k hil
        obtain ⟨x, hx⟩ : ∃ x, x = f.T[k] := ⟨_, rfl⟩
        have hxw : x < W256 := by rw [hx]; exact HTw.out _ (List.getElem_mem hil)
        rw [← hx] at hr
        have cx := fun u hu => C2.out x hxw u hu
        obtain ⟨q, hq⟩ : ∃ q, q = hasW l.tops x := ⟨_, rfl⟩
        simp only [← hq] at cx
        have hXl := wcs_len x
        have hXo := wcs_one x
        obtain ⟨XC, hXC⟩ : ∃ C, C = wcs x := ⟨_, rfl⟩
        rw [← hXC] at hr hXl hXo
        simp only [← hXC] at cx
        have HR := Lib.hid hr
        have HXl := Lib.hid hXl
        have HXo := Lib.hid hXo
        have Cx := Lib.hid cx
        have Hfin : Hid ((q = true → hasW l.tops f.T[k] = true) ∧ (q = false → R = false)) := Lib.hid (by
          refine ⟨fun e => by rw [← hx, ← hq]; exact e, fun e => ?_⟩
          rw [HRes.out, List.all_eq_false]
          exact ⟨_, List.getElem_mem hil, by rw [← hx, ← hq, e]; simp⟩)
        clear hr hXl hXo hXC cx hq hx hxw
        have hz4l : z4.length = 4 := rfl
        go_wp2_with (first
          | ((with_reducible show wpList _ _ _ (⟨some 25, _, _, _, _, _⟩ :: _) _ _); refine wpList_loadW (o := ⟨some 25, _, _, _, _, _⟩) 142 (.tmp 24) (by rfl) b (off + k * 4) (by rfl) aggWord HXl.out HR.out (by rfl) ?_)
          | ((with_reducible show wpList _ _ _ (⟨none, Op.store _ _ (Operand.tmp 25), _, _, _, _⟩ :: _) _ _); refine wpList_storeA (o := ⟨none, _, _, _, _, _⟩) (by rfl) 142 (.tmp 6) (.tmp 25) (by rfl) wr.heap.size XC (by rfl) (by rfl) aggWord (Hz4.out wr) HXl.out hz4l HXo.out ((Below.refl wr.heap.size wr).alloc (Nat.le_refl _) _) (Nat.le_refl _) ?_; intro w5 h5 b5 _; have b15 := Below.then b1w b5; have d5 := D8.out w5 b15; have r5 := h5.all0)
          | ((with_reducible show wpList _ _ _ (⟨some 28, _, _, _, _, _⟩ :: _) _ _); refine wpList_loadW (o := ⟨some 28, _, _, _, _, _⟩) 142 (.tmp 6) (by rfl) wr.heap.size 0 (by rfl) aggWord HXl.out r5 (by rfl) ?_)
          | (go_at_call 96; (with_reducible refine (Cx.out _ b15).mono ?_); rintro e w6 ⟨rfl, b6⟩; cases q))
        · have hfal : R = false := by have := Hfin.out.2; simpa using this
          subst hfal
          go_wp2_with fail
          go_ret
          exact ⟨rfl, Below.then hbel (Below.then b15 b6)⟩
        · have htru : hasW l.tops f.T[k] = true := by have := Hfin.out.1; simpa using this
          have HTru := Lib.hid htru
          clear htru Hfin
          go_wp2_with fail
          go_roundw
          case rel => exact ⟨k + 1, by omega, by go_num, Below.then hb (Below.then b5 b6), Lib.hid (fun j hj h => by
            rcases Nat.lt_succ_iff_lt_or_eq.1 h with h | rfl
            · exact hno.out j hj h
            · exact HTru.out)⟩
          case measure => simp [intOf]; omega
      · obtain rfl : k = tn := by omega
        have hres : R = true := by
          rw [HRes.out, List.all_eq_true]
          intro x hx
          obtain ⟨j, hj, rfl⟩ := List.mem_iff_getElem.1 hx
          exact hno.out j hj (by rw [← Htn.out]; exact hj)
        subst hres
        go_wp2_with fail
        go_ret
        exact ⟨rfl, Below.then hbel b1w⟩
  · have hai : (0 : Int) < (an : Int) := by omega
    rw [show decide (an = 0) = false from decide_eq_false ha0, Bool.false_or] at hres
    cases qa with
    | false =>
      rw [Bool.false_and] at hres
      subst hres
      go_wp2_with (first
        | ((with_reducible show wpList _ _ _ (⟨some 15, _, _, _, _, _⟩ :: _) _ _); refine wpList_loadW (o := ⟨some 15, _, _, _, _, _⟩) 46 (.tmp 14) (by rfl) (w.heap.size + 1) 0 (by rfl) aggAd HAl.out r1 (by rfl) ?_)
        | (go_at_call 95; (with_reducible refine C1.out.mono ?_); rintro e w2 ⟨rfl, b2⟩))
      go_ret
      exact ⟨rfl, Below.then hbel b2⟩
    | true =>
      have HRes : Hid (R = f.T.all fun t => hasW l.tops t) := Lib.hid (by rw [hres, Bool.true_and])
      clear hres
      go_upto_region 3 with (first
        | ((with_reducible show wpList _ _ _ (⟨some 15, _, _, _, _, _⟩ :: _) _ _); refine wpList_loadW (o := ⟨some 15, _, _, _, _, _⟩) 46 (.tmp 14) (by rfl) (w.heap.size + 1) 0 (by rfl) aggAd HAl.out r1 (by rfl) ?_)
        | (go_at_call 95; (with_reducible refine C1.out.mono ?_); rintro e W0 ⟨rfl, b10⟩))
      have e1 := D1.out W0 b10
      clear C1 hd1 c0 r1
      go_wp2_with fail
      have Q0 : Below W0.heap.size W0 W0 := Below.refl _ _
      go_loopw [22] (fun ix wr => ∃ k : Nat, k ≤ tn ∧ ix = .int .i64 (k : Int) ∧ Below W0.heap.size W0 wr ∧ Hid (∀ j (hj : j < f.T.length), j < k → hasW l.tops f.T[j] = true)) (fun ix _ => tn - (intOf ix).toNat)
      case atStart => exact ⟨0, by omega, rfl, Q0, Lib.hid (fun j hj h => by omega)⟩
      case round =>
        clear Q0
        obtain ⟨k, hk, rfl, hb, hno⟩ := hrel
        have b1w := Below.then b10 hb
        by_cases hlt : k < tn
        · have hki : (k : Int) < (tn : Int) := by omega
          have hwi : IntKind.i64.wrap ((k : Int) + 1) = ((k + 1 : Nat) : Int) := by rw [IntWalk.i64_in _ (by omega)]; omega
          have hil : k < f.T.length := by rw [Htn.out]; exact hlt
          obtain ⟨b, off, rfl, hr⟩ := RowOf.range wcs_len (HT.out.below b1w) k hil
          obtain ⟨x, hx⟩ : ∃ x, x = f.T[k] := ⟨_, rfl⟩
          have hxw : x < W256 := by rw [hx]; exact HTw.out _ (List.getElem_mem hil)
          rw [← hx] at hr
          have cx := fun u hu => C2.out x hxw u hu
          obtain ⟨q, hq⟩ : ∃ q, q = hasW l.tops x := ⟨_, rfl⟩
          simp only [← hq] at cx
          have hXl := wcs_len x
          have hXo := wcs_one x
          obtain ⟨XC, hXC⟩ : ∃ C, C = wcs x := ⟨_, rfl⟩
          rw [← hXC] at hr hXl hXo
          simp only [← hXC] at cx
          have HR := Lib.hid hr
          have HXl := Lib.hid hXl
          have HXo := Lib.hid hXo
          have Cx := Lib.hid cx
          have Hfin : Hid ((q = true → hasW l.tops f.T[k] = true) ∧ (q = false → R = false)) := Lib.hid (by
            refine ⟨fun e => by rw [← hx, ← hq]; exact e, fun e => ?_⟩
            rw [HRes.out, List.all_eq_false]
            exact ⟨_, List.getElem_mem hil, by rw [← hx, ← hq, e]; simp⟩)
          clear hr hXl hXo hXC cx hq hx hxw
          have hz4l : z4.length = 4 := rfl
          go_wp2_with (first
            | ((with_reducible show wpList _ _ _ (⟨some 25, _, _, _, _, _⟩ :: _) _ _); refine wpList_loadW (o := ⟨some 25, _, _, _, _, _⟩) 142 (.tmp 24) (by rfl) b (off + k * 4) (by rfl) aggWord HXl.out HR.out (by rfl) ?_)
            | ((with_reducible show wpList _ _ _ (⟨none, Op.store _ _ (Operand.tmp 25), _, _, _, _⟩ :: _) _ _); refine wpList_storeA (o := ⟨none, _, _, _, _, _⟩) (by rfl) 142 (.tmp 6) (.tmp 25) (by rfl) wr.heap.size XC (by rfl) (by rfl) aggWord (Hz4.out wr) HXl.out hz4l HXo.out ((Below.refl wr.heap.size wr).alloc (Nat.le_refl _) _) (Nat.le_refl _) ?_; intro w5 h5 b5 _; have b15 := Below.then b1w b5; have d5 := D8.out w5 b15; have r5 := h5.all0)
            | ((with_reducible show wpList _ _ _ (⟨some 28, _, _, _, _, _⟩ :: _) _ _); refine wpList_loadW (o := ⟨some 28, _, _, _, _, _⟩) 142 (.tmp 6) (by rfl) wr.heap.size 0 (by rfl) aggWord HXl.out r5 (by rfl) ?_)
            | (go_at_call 96; (with_reducible refine (Cx.out _ b15).mono ?_); rintro e w6 ⟨rfl, b6⟩; cases q))
          · have hfal : R = false := by have := Hfin.out.2; simpa using this
            subst hfal
            go_wp2_with fail
            go_ret
            exact ⟨rfl, Below.then hbel (Below.then b15 b6)⟩
          · have htru : hasW l.tops f.T[k] = true := by have := Hfin.out.1; simpa using this
            have HTru := Lib.hid htru
            clear htru Hfin
            go_wp2_with fail
            go_roundw
            case rel => exact ⟨k + 1, by omega, by go_num, Below.then hb (Below.then b5 b6), Lib.hid (fun j hj h => by
              rcases Nat.lt_succ_iff_lt_or_eq.1 h with h | rfl
              · exact hno.out j hj h
              · exact HTru.out)⟩
            case measure => simp [intOf]; omega
        · obtain rfl : k = tn := by omega
          have hres : R = true := by
            rw [HRes.out, List.all_eq_true]
            intro x hx
            obtain ⟨j, hj, rfl⟩ := List.mem_iff_getElem.1 hx
            exact hno.out j hj (by rw [← Htn.out]; exact hj)
          subst hres
          go_wp2_with fail
          go_ret
          exact ⟨rfl, Below.then hbel b1w⟩
end Go.Proofs.Ytljbbpcnoajfeaa
