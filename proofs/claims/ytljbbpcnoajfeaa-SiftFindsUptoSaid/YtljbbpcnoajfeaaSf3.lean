/- The reference's Through. -/
import Derived.Test.YtljbbpcnoajfeaaSf2
set_option linter.unusedSimpArgs false
set_option linter.unusedVariables false
namespace Go.Proofs.Ytljbbpcnoajfeaa
open Go.RowKit
theorem hasA_step (l : List Ad8) (A : List UInt8) (k : Nat) (hk : k < l.length) : hasA (l.take (k + 1)) A = (hasA (l.take k) A || (l[k].b == A)) := by
  unfold hasA
  rw [List.take_succ_eq_append_getElem hk, List.any_append]
  simp
theorem hasW_step (l : List Nat) (N : Nat) (k : Nat) (hk : k < l.length) : hasW (l.take (k + 1)) N = (hasW (l.take k) N || decide (l[k] = N)) := by
  unfold hasW
  rw [List.take_succ_eq_append_getElem hk, List.any_append]
  simp
theorem all_step (p : Nat → Bool) (l : List Nat) (k : Nat) (hk : k < l.length) : (l.take (k + 1)).all p = ((l.take k).all p && p l[k]) := by
  rw [List.take_succ_eq_append_getElem hk, List.all_append]
  simp
theorem by8_one (l : List UInt8) : ∀ u ∈ by8 l, u.oneCell' = true := by
  intro u hu
  obtain ⟨x, _, rfl⟩ := List.mem_map.1 hu
  rfl
theorem wpList_eqlF {P : Program} {w : World} {ops : Array Oper} {rest : List Oper} {o : Oper} {a : Act} {Q : Exit → Act → World → Prop} (ty : TypeId) (x y : Operand) (t : TypeId) (ho : o.op = .binOp .eql ty x y t) {v v' u : Value} (hx : a.eval x = v) (hy : a.eval y = v')
    (hg : ∀ o1 o2 w1, (eqGuard .eql ty o1 o2 v v').run P w1 = .ok () w1) (hq : ∀ w1, (binOp .eql ty v v').run P w1 = .ok u w1) (hw : Region.wanted o (yielded ops a.tmps) = true) (h : wpList P ops Q rest (a.put o.dst u) w) : wpList P ops Q (o :: rest) a w := by
  refine wpList_step fun K hK => ?_
  rw [if_pos hw]
  unfold Oper.wp execOp
  simp only [ho, hx, hy, Sem.run_bind, hg, hq, Result.andThen_ok, Sem.run_pure]
  exact hK _ _ h
set_option maxHeartbeats 8000000 in
set_option maxRecDepth 100000 in
theorem through_any (f : Flt) (kf : f.Ok) (l : Lgv) (kl : l.Ok) (w : World) (hf : f.In w) (hl : l.In w) :
    Calls Try.prog 34 #[.agg (flc f).toArray, .agg (lgc l).toArray] w fun e w' => e = .returned (.bool (letB f l)) ∧ Below w.heap.size w w' := by
  obtain ⟨aa, ac, hav, _⟩ := hf.ha.form
  obtain ⟨ta, tc, htv, _⟩ := hf.ht.form
  obtain ⟨la, lc, hlv, _⟩ := hl.ht.form
  obtain ⟨w1, hw1⟩ : ∃ w1, w1 = (w.alloc (.cells (flc f).toArray 36)).alloc (.cells (lgc l).toArray 84) := ⟨_, rfl⟩
  have z1 : Blk 36 w1 w.heap.size (flc f) := by rw [hw1]; exact (Blk.new w _ _).alloc _
  have z2 : Blk 84 w1 (w.heap.size + 1) (lgc l) := by
    have := Blk.new (w.alloc (.cells (flc f).toArray 36)) 84 (lgc l)
    simp only [World.size_alloc] at this
    rw [hw1]; exact this
  have hbel : Below w.heap.size w w1 := by rw [hw1]; exact ((Below.refl _ _).alloc (Nat.le_refl _) _).alloc (by simp) _
  have c0 : w1.cell? ⟨w.heap.size, 0, none⟩ = some (.slice aa f.A.length ac) := by rw [← hav]; exact z1.cell 0
  have d1 : ∀ u, Below w1.heap.size w1 u → u.cell? ⟨w.heap.size, 1, none⟩ = some (.slice ta f.T.length tc) := fun u hu => by rw [← htv]; exact (z1.kept hu).cell 1
  have d8 : ∀ u, Below w1.heap.size w1 u → u.cell? ⟨w.heap.size + 1, 8, none⟩ = some (.slice la l.tops.length lc) := fun u hu => by rw [← hlv, (z2.kept hu).cell 8]; exact lgc_tops l
  have r1 : ∀ u, Below w1.heap.size w1 u → u.rangeAt (w.heap.size + 1) 0 (by8 l.addr) := fun u hu => by have := (z2.kept hu).range 0 8; rw [lgc_addr] at this; exact this
  have hA : RowOf adc 8 w1 (.slice aa f.A.length ac) f.A := by rw [← hav]; exact hf.ha.below hbel
  have hT : RowOf wcs 4 w1 (.slice ta f.T.length tc) f.T := by rw [← htv]; exact hf.ht.below hbel
  have hL : RowOf wcs 4 w1 (.slice la l.tops.length lc) l.tops := by rw [← hlv]; exact hl.ht.below hbel
  have hfl : flc f = [.slice aa f.A.length ac, .slice ta f.T.length tc] := by unfold flc; rw [hav, htv]
  obtain ⟨an, han⟩ : ∃ n, n = f.A.length := ⟨_, rfl⟩
  obtain ⟨tn, htn⟩ : ∃ n, n = f.T.length := ⟨_, rfl⟩
  obtain ⟨ln, hln⟩ : ∃ n, n = l.tops.length := ⟨_, rfl⟩
  have hres : letB f l = ((decide (f.A.length = 0) || hasA (f.A.take an) l.addr) && (f.T.take tn).all fun t => hasW l.tops t) := by
    rw [han, htn, List.take_length, List.take_length]; rfl
  obtain ⟨R, hR⟩ : ∃ R, R = letB f l := ⟨_, rfl⟩
  rw [← hR] at hres ⊢
  rw [← han] at c0 hA hfl hres
  rw [← htn] at d1 hT hfl
  rw [← hln] at d8 hL
  have hAl : (by8 l.addr).length = 8 := by rw [by8_len]; exact l.len
  obtain ⟨AC, hAC⟩ : ∃ C, C = by8 l.addr := ⟨_, rfl⟩
  obtain ⟨LC, hLC⟩ : ∃ C, C = lgc l := ⟨_, rfl⟩
  rw [← hAC] at r1 hAl
  rw [hfl, ← hLC] at hw1 ⊢
  have han1 : an ≤ 1048576 := by rw [han]; exact kf.a
  have htn1 : tn ≤ 1048576 := by rw [htn]; exact kf.t
  have hln1 : ln ≤ 1048576 := by rw [hln]; exact kl.t
  have HWe := Lib.hid hw1
  have HAl := Lib.hid hAl
  have D1 := Lib.hid d1
  have D8 := Lib.hid d8
  have R1 := Lib.hid r1
  have HA := Lib.hid hA
  have HT := Lib.hid hT
  have HL := Lib.hid hL
  have Han := Lib.hid han.symm
  have Htn := Lib.hid htn.symm
  have Hln := Lib.hid hln.symm
  have HTw := Lib.hid kf.w
  have HLw := Lib.hid kl.w
  have HAC := Lib.hid hAC
  have Hz4 := Lib.hid (fun u : World => Blk.new u 142 z4)
  have Hza := Lib.hid (fun u : World => Blk.new u 46 (List.replicate 8 (Value.int .u8 0)))
  have HRes := Lib.hid hres
  obtain ⟨q0, hq0⟩ : ∃ q, q = decide (an = 0) := ⟨_, rfl⟩
  have HQ0 := Lib.hid hq0
  have hq1 : ((an : Int) == 0) = q0 := by rw [hq0]; by_cases h : an = 0 <;> simp [h]
  have HLa := Lib.hid l.len
  clear hw1 hAl d1 d8 r1 hT hA hL hf hl kl kf hfl hAC hLC hR hln hav htv hlv z1 z2 htn han hres hq0
  go_enter Try.func34, Try.ntmps34
  go_upto_region 1 with fail
  rw [← HWe.out]
  go_wp2_with fail
  have Q0 : Below w1.heap.size w1 w1 := Below.refl _ _
  go_loopw [5, 20] (fun ok ix wr => ∃ k : Nat, k ≤ an ∧ ok = .bool (q0 || hasA (f.A.take k) l.addr) ∧ ix = .int .i64 (k : Int) ∧ Below w1.heap.size w1 wr) (fun _ ix _ => an - (intOf ix).toNat)
  case atStart => exact ⟨0, by omega, by simp [hasA], rfl, Q0⟩
  case round =>
    clear Q0 c0
    obtain ⟨k, hk, rfl, rfl, hb⟩ := hrel
    by_cases hlt : k < an
    · have hki : (k : Int) < (an : Int) := by omega
      have hwi : IntKind.i64.wrap ((k : Int) + 1) = ((k + 1 : Nat) : Int) := by rw [IntWalk.i64_in _ (by omega)]; omega
      have hil : k < f.A.length := by rw [Han.out]; exact hlt
      obtain ⟨b, off, rfl, hr⟩ := RowOf.range adc_len (HA.out.below hb) k hil
      obtain ⟨X, hX⟩ : ∃ X, X = f.A[k].b := ⟨_, rfl⟩
      have hX8 : X.length = 8 := by rw [hX]; exact f.A[k].l
      have hr' : wr.rangeAt b (off + k * 8) (by8 X) := by rw [hX]; exact hr
      have hXl : (by8 X).length = 8 := by rw [by8_len]; exact hX8
      have hXo := by8_one X
      have g1 := guard_eq_a X l.addr
      have q1 := run_eq_a X l.addr hX8 HLa.out
      obtain ⟨q, hq⟩ : ∃ q, q = (X == l.addr) := ⟨_, rfl⟩
      obtain ⟨s, hs⟩ : ∃ s, s = hasA (f.A.take k) l.addr := ⟨_, rfl⟩
      have hst : hasA (f.A.take (k + 1)) l.addr = (s || q) := by rw [hasA_step f.A l.addr k hil, ← hX, ← hs, ← hq]
      obtain ⟨s2, hs2⟩ : ∃ s, s = hasA (f.A.take (k + 1)) l.addr := ⟨_, rfl⟩
      rw [← hs2] at hst
      rw [← hq] at q1
      rw [← hs]
      obtain ⟨XC, hXC⟩ : ∃ C, C = by8 X := ⟨_, rfl⟩
      rw [← hXC] at hr' hXl hXo
      rw [← hXC, ← HAC.out] at g1 q1
      have G1 := Lib.hid g1
      have Q1 := Lib.hid q1
      have HR := Lib.hid hr'
      have HXl := Lib.hid hXl
      have HXo := Lib.hid hXo
      have HS2 := Lib.hid hs2
      have HSt := Lib.hid hst
      clear g1 q1 hr' hr hXC hXl hXo hq hX hX8 hs hs2 hst
      have hzal : (List.replicate 8 (Value.int .u8 0)).length = 8 := rfl
      go_upto_block 1 with fail
      go_upto_region 5 with (first
        | ((with_reducible show wpList _ _ _ (⟨some 23, _, _, _, _, _⟩ :: _) _ _); refine wpList_loadW (o := ⟨some 23, _, _, _, _, _⟩) 46 (.tmp 22) (by rfl) b (off + k * 8) (by rfl) aggAd HXl.out HR.out (by rfl) ?_)
        | ((with_reducible show wpList _ _ _ (⟨none, Op.store _ _ (Operand.tmp 23), _, _, _, _⟩ :: _) _ _); refine wpList_storeA (o := ⟨none, _, _, _, _, _⟩) (by rfl) 46 (.tmp 7) (.tmp 23) (by rfl) wr.heap.size XC (by rfl) (by rfl) aggAd (Hza.out wr) HXl.out hzal HXo.out ((Below.refl wr.heap.size wr).alloc (Nat.le_refl _) _) (Nat.le_refl _) ?_; intro w5 h5 b5 _; have b15 := Below.then hb b5; have r5 := h5.all0; have r6 := R1.out w5 b15))
      have hfin : (q0 || s2) = ((q0 || s) || q) := by rw [HSt.out, Bool.or_assoc]
      obtain ⟨o1, ho1⟩ : ∃ o, o = (q0 || s) := ⟨_, rfl⟩
      rw [← ho1] at hfin ⊢
      have HFin := Lib.hid hfin
      clear hfin ho1 HSt
      cases o1 with
      | true =>
        go_wp2_with fail
        go_roundw
        case rel => exact ⟨k + 1, by omega, by rw [← HS2.out, HFin.out]; rfl, by go_num, b15⟩
        case measure => simp [intOf]; omega
      | false =>
        go_wp2_with (first
          | ((with_reducible show wpList _ _ _ (⟨some 26, _, _, _, _, _⟩ :: _) _ _); refine wpList_loadW (o := ⟨some 26, _, _, _, _, _⟩) 46 (.tmp 7) (by rfl) wr.heap.size 0 (by rfl) aggAd HXl.out r5 (by rfl) ?_)
          | ((with_reducible show wpList _ _ _ (⟨some 28, _, _, _, _, _⟩ :: _) _ _); refine wpList_loadW (o := ⟨some 28, _, _, _, _, _⟩) 46 (.tmp 27) (by rfl) (w.heap.size + 1) 0 (by rfl) aggAd HAl.out r6 (by rfl) ?_)
          | ((with_reducible show wpList _ _ _ (⟨some 29, _, _, _, _, _⟩ :: _) _ _); refine wpList_eqlF (o := ⟨some 29, _, _, _, _, _⟩) 46 (.tmp 26) (.tmp 28) _ (by rfl) (by rfl) (by rfl) G1.out Q1.out (by rfl) ?_))
        go_roundw
        case rel => exact ⟨k + 1, by omega, by rw [← HS2.out, HFin.out]; rfl, by go_num, b15⟩
        case measure => simp [intOf]; omega
    · obtain rfl : k = an := by omega
      obtain ⟨W0, rfl⟩ : ∃ x, x = wr := ⟨wr, rfl⟩
      obtain ⟨qa, hqa⟩ : ∃ q, q = (q0 || hasA (f.A.take k) l.addr) := ⟨_, rfl⟩
      have hres := HRes.out
      rw [← HQ0.out, ← hqa] at hres
      rw [← hqa]
      have HRes2 := Lib.hid hres
      have e1 := D1.out W0 hb
      clear hres hqa HRes HQ0
      go_wp2_with fail
      have Q0 : Below W0.heap.size W0 W0 := Below.refl _ _
      go_loopw [5, 35] (fun ok ix wr => ∃ k : Nat, k ≤ tn ∧ ok = .bool (qa && (f.T.take k).all fun t => hasW l.tops t) ∧ ix = .int .i64 (k : Int) ∧ Below w1.heap.size w1 wr) (fun _ ix _ => tn - (intOf ix).toNat)
      case atStart => exact ⟨0, by omega, by simp, rfl, hb⟩
      case round =>
        clear Q0 hb e1 hlt hk
        obtain ⟨i, hi, rfl, rfl, hb⟩ := hrel
        obtain ⟨W2, rfl⟩ : ∃ x, x = wr := ⟨wr, rfl⟩
        by_cases hlt : i < tn
        · have hki : (i : Int) < (tn : Int) := by omega
          have hwi : IntKind.i64.wrap ((i : Int) + 1) = ((i + 1 : Nat) : Int) := by rw [IntWalk.i64_in _ (by omega)]; omega
          have hil : i < f.T.length := by rw [Htn.out]; exact hlt
          obtain ⟨b, off, rfl, hr⟩ := RowOf.range wcs_len (HT.out.below hb) i hil
          obtain ⟨x, hx⟩ : ∃ x, x = f.T[i] := ⟨_, rfl⟩
          have hxw : x < W256 := by rw [hx]; exact HTw.out _ (List.getElem_mem hil)
          rw [← hx] at hr
          have hXl := wcs_len x
          have hXo := wcs_one x
          have hst : ((f.T.take (i + 1)).all fun t => hasW l.tops t) = (((f.T.take i).all fun t => hasW l.tops t) && hasW l.tops x) := by rw [all_step _ _ i hil, ← hx]
          obtain ⟨s, hs⟩ : ∃ s, s = (qa && (f.T.take i).all fun t => hasW l.tops t) := ⟨_, rfl⟩
          obtain ⟨s2, hs2⟩ : ∃ s, s = (qa && (f.T.take (i + 1)).all fun t => hasW l.tops t) := ⟨_, rfl⟩
          have hfin : s2 = (s && hasW l.tops x) := by rw [hs2, hst, hs, Bool.and_assoc]
          rw [← hs]
          have HFin := Lib.hid hfin
          have HS2 := Lib.hid hs2
          have HXw := Lib.hid hxw
          obtain ⟨XC, hXC⟩ : ∃ C, C = wcs x := ⟨_, rfl⟩
          rw [← hXC] at hr hXl hXo
          have HR := Lib.hid hr
          have HXl := Lib.hid hXl
          have HXo := Lib.hid hXo
          have HXC := Lib.hid hXC
          clear hr hXl hXo hXC hx hxw hst hs hs2 hfin
          have hz4l : z4.length = 4 := rfl
          go_wp2_with (first
            | ((with_reducible show wpList _ _ _ (⟨some 38, _, _, _, _, _⟩ :: _) _ _); refine wpList_loadW (o := ⟨some 38, _, _, _, _, _⟩) 142 (.tmp 37) (by rfl) b (off + i * 4) (by rfl) aggWord HXl.out HR.out (by rfl) ?_)
            | ((with_reducible show wpList _ _ _ (⟨none, Op.store _ _ (Operand.tmp 38), _, _, _, _⟩ :: _) _ _); refine wpList_storeA (o := ⟨none, _, _, _, _, _⟩) (by rfl) 142 (.tmp 9) (.tmp 38) (by rfl) W2.heap.size XC (by rfl) (by rfl) aggWord (Hz4.out W2) HXl.out hz4l HXo.out ((Below.refl W2.heap.size W2).alloc (Nat.le_refl _) _) (Nat.le_refl _) ?_; intro W5 h5 b5 _; have b15 := Below.then hb b5; have d5 := D8.out W5 b15))
          have hW5 : W2.heap.size < W5.heap.size := h5.lt
          have Q0 : Below W5.heap.size W5 W5 := Below.refl _ _
          go_loopw [10, 42] (fun ok ix wr => ∃ j : Nat, j ≤ ln ∧ ok = .bool (hasW (l.tops.take j) x) ∧ ix = .int .i64 (j : Int) ∧ Below W5.heap.size W5 wr) (fun _ ix _ => ln - (intOf ix).toNat)
          case atStart => exact ⟨0, by omega, by simp [hasW], rfl, Q0⟩
          case round =>
            clear Q0 d5 hlt
            obtain ⟨j, hj, rfl, rfl, hb5⟩ := hrel
            have hb15 := Below.then b15 hb5
            have rx := (h5.kept hb5).all0
            by_cases hlt : j < ln
            · have hkj : (j : Int) < (ln : Int) := by omega
              have hwj : IntKind.i64.wrap ((j : Int) + 1) = ((j + 1 : Nat) : Int) := by rw [IntWalk.i64_in _ (by omega)]; omega
              have hjl : j < l.tops.length := by rw [Hln.out]; exact hlt
              obtain ⟨b2, off2, rfl, hr2⟩ := RowOf.range wcs_len (HL.out.below hb15) j hjl
              obtain ⟨y, hy⟩ : ∃ y, y = l.tops[j] := ⟨_, rfl⟩
              have hyw : y < W256 := by rw [hy]; exact HLw.out _ (List.getElem_mem hjl)
              rw [← hy] at hr2
              have hYl := wcs_len y
              have hYo := wcs_one y
              have g1 := guardWN x y
              have q1 := eqWN x y HXw.out hyw
              obtain ⟨q, hq⟩ : ∃ q, q = decide (x = y) := ⟨_, rfl⟩
              obtain ⟨t, ht⟩ : ∃ s, s = hasW (l.tops.take j) x := ⟨_, rfl⟩
              obtain ⟨t2, ht2⟩ : ∃ s, s = hasW (l.tops.take (j + 1)) x := ⟨_, rfl⟩
              have hst : t2 = (t || q) := by rw [ht2, hasW_step l.tops x j hjl, ← hy, ← ht, hq]; congr 1; exact decide_eq_decide.2 eq_comm
              rw [← hq] at q1
              rw [← ht]
              obtain ⟨YC, hYC⟩ : ∃ C, C = wcs y := ⟨_, rfl⟩
              rw [← hYC] at hr2 hYl hYo
              rw [← hYC, ← HXC.out] at g1 q1
              have G1 := Lib.hid g1
              have Q1 := Lib.hid q1
              have HR2 := Lib.hid hr2
              have HYl := Lib.hid hYl
              have HYo := Lib.hid hYo
              have HT2 := Lib.hid ht2
              have HSt := Lib.hid hst
              clear g1 q1 hr2 hYC hYl hYo hq hy hyw ht ht2 hst
              have hz4l : z4.length = 4 := rfl
              go_upto_region 14 with (first
                | ((with_reducible show wpList _ _ _ (⟨some 45, _, _, _, _, _⟩ :: _) _ _); refine wpList_loadW (o := ⟨some 45, _, _, _, _, _⟩) 142 (.tmp 44) (by rfl) b2 (off2 + j * 4) (by rfl) aggWord HYl.out HR2.out (by rfl) ?_)
                | ((with_reducible show wpList _ _ _ (⟨none, Op.store _ _ (Operand.tmp 45), _, _, _, _⟩ :: _) _ _); refine wpList_storeA (o := ⟨none, _, _, _, _, _⟩) (by rfl) 142 (.tmp 12) (.tmp 45) (by rfl) wr.heap.size YC (by rfl) (by rfl) aggWord (Hz4.out wr) HYl.out hz4l HYo.out ((Below.refl wr.heap.size wr).alloc (Nat.le_refl _) _) (Nat.le_refl _) ?_; intro w7 h7 b7 _; have b57 := Below.then hb5 b7; have r7 := h7.all0; have r8 := (h5.kept b57).all0))
              cases t with
              | true =>
                go_wp2_with fail
                go_roundw
                case rel => exact ⟨j + 1, by omega, by rw [← HT2.out, HSt.out]; rfl, by go_num, b57⟩
                case measure => simp [intOf]; omega
              | false =>
                go_wp2_with (first
                  | ((with_reducible show wpList _ _ _ (⟨some 48, _, _, _, _, _⟩ :: _) _ _); refine wpList_loadW (o := ⟨some 48, _, _, _, _, _⟩) 142 (.tmp 9) (by rfl) W2.heap.size 0 (by rfl) aggWord HXl.out r8 (by rfl) ?_)
                  | ((with_reducible show wpList _ _ _ (⟨some 49, _, _, _, _, _⟩ :: _) _ _); refine wpList_loadW (o := ⟨some 49, _, _, _, _, _⟩) 142 (.tmp 12) (by rfl) wr.heap.size 0 (by rfl) aggWord HYl.out r7 (by rfl) ?_)
                  | ((with_reducible show wpList _ _ _ (⟨some 50, _, _, _, _, _⟩ :: _) _ _); refine wpList_eqlF (o := ⟨some 50, _, _, _, _, _⟩) 142 (.tmp 48) (.tmp 49) _ (by rfl) (by rfl) (by rfl) G1.out Q1.out (by rfl) ?_))
                go_roundw
                case rel => exact ⟨j + 1, by omega, by rw [← HT2.out, HSt.out]; rfl, by go_num, b57⟩
                case measure => simp [intOf]; omega
            · obtain rfl : j = ln := by omega
              have hfull : hasW (l.tops.take j) x = hasW l.tops x := by rw [← Hln.out, List.take_length]
              obtain ⟨q, hq⟩ : ∃ q, q = hasW l.tops x := ⟨_, rfl⟩
              have hf3 := HFin.out
              rw [← hq] at hf3
              rw [hfull, ← hq]
              have HF3 := Lib.hid hf3
              clear hfull hq hf3 HFin rx
              cases s with
              | true =>
                go_wp2_with fail
                go_roundw
                case rel => exact ⟨i + 1, by omega, by rw [← HS2.out, HF3.out]; rfl, by go_num, hb15⟩
                case measure => simp [intOf]; omega
              | false =>
                go_wp2_with fail
                go_roundw
                case rel => exact ⟨i + 1, by omega, by rw [← HS2.out, HF3.out]; rfl, by go_num, hb15⟩
                case measure => simp [intOf]; omega
        · obtain rfl : i = tn := by omega
          rw [← HRes2.out]
          go_wp2_with fail
          go_ret
          exact ⟨rfl, Below.then hbel hb⟩
end Go.Proofs.Ytljbbpcnoajfeaa
