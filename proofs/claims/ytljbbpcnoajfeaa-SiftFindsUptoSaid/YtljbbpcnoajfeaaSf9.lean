/- sift.logs and what it hands back: the logs one behind the other. -/
import Derived.Test.YtljbbpcnoajfeaaSf8
import Derived.Test.YtljbbpcnoajfeaaBuild0
import Derived.Sort.CutIn
set_option linter.unusedSimpArgs false
set_option linter.unusedVariables false
namespace Go.Proofs.Ytljbbpcnoajfeaa
open Go.RowKit
attribute [local go_sem] Oper.semAt_some
theorem place_pre' (lk : Rcp → Bool) (ps : List Pgv) (a b c : Nat) (p : Pgv) (r : Rcp) (ha : ps[a]? = some p) (hb : p.rs[b]? = some r) (hl : lk r = true) :
    pgF lk (ps.take a) ++ rcF lk p (p.rs.take b) ++ lgF p b (r.ls.take c) <+: pgF lk ps := by
  obtain ⟨h1, rfl⟩ := List.getElem?_eq_some_iff.1 ha
  obtain ⟨h2, rfl⟩ := List.getElem?_eq_some_iff.1 hb
  exact place_pre lk ps a b c h1 h2 hl
set_option maxRecDepth 100000 in
theorem built_fd (x : Fdv) : Try.prog.built 86 [(0, .int .u64 (x.num : Int)), (1, .int .i64 (x.tx : Int)), (2, .int .i64 (x.at_ : Int)), (3, .agg (lgc x.l).toArray)] = some (fdc x).toArray := by
  obtain ⟨num, hn, tx, at_, ⟨addr, len, tv, tops, dv, dat⟩⟩ := x
  match addr, len with
  | [a0, a1, a2, a3, a4, a5, a6, a7], _ => show _ = _; kernel_rfl
theorem grown_none {w w' : World} (h : Below w.heap.size w w') : w.grownBy w' none := ⟨h.os, h.tape, h.output, h.size, fun k hk _ => h.block k hk⟩
/-- what a round of the loop's body keeps -/
structure Kp (w0 : World) (W W' : World) : Prop where
  b : Below w0.heap.size W W'
  k : ∀ g e cs, e = 95 ∨ e = 92 → Blk e W g cs → Blk e W' g cs
theorem Kp.tr {w0 A B C : World} (h : Kp w0 A B) (k : Kp w0 B C) : Kp w0 A C := ⟨h.b.trans k.b, fun g e cs he hb => k.k g e cs he (h.k g e cs he hb)⟩
theorem Kp.put {w0 w : World} (hn : w0.heap.size ≤ w.heap.size) (W : World) (l : Nat) (o o' : Obj) (hl : w.heap.size ≤ l) (h : W.heap[l]? = some o) (hc : o.isCells = false) (hw : o.isWalk = false) : Kp w0 W (W.putObj l o') :=
  ⟨belowK_b hn W l o o' hl h hc hw, fun g e cs _ hb => by
    refine (World.putObj_heap_other ?_).trans hb
    intro e
    subst e
    rw [show W.heap[g]? = _ from hb] at h
    cases h
    cases hc⟩
/-- where the loops stand -/
structure ItS (w0 : World) (J : List (FdA w0) → World → Prop) (B2 : Nat) (LV : Value) (L : List Fdv) (wr : World) : Prop where
  j : ∃ pre : List (FdA w0), pre.map FdA.v = L ∧ J pre wr
  b : Below w0.heap.size w0 wr
  f : Blk 92 wr B2 [LV]
theorem ItS.go {w0 : World} {J : List (FdA w0) → World → Prop} {B2 : Nat} {LV : Value} {L : List Fdv} {wr w' : World} {B : Nat} (hJ : AbidesFrom B J) (h : ItS w0 J B2 LV L wr) (hb : Below wr.heap.size wr w') : ItS w0 J B2 LV L w' :=
  ⟨by obtain ⟨pre, h1, h2⟩ := h.j; exact ⟨pre, h1, hJ pre wr w' none h2 (grown_none hb) (fun r e => by cases e)⟩, Below.then h.b hb, h.f.kept hb⟩
set_option maxHeartbeats 8000000 in
set_option maxRecDepth 100000 in
theorem logs1_in (n : Nat) (hn : 1 ≤ n) (lk : Rcp → Bool) (gf : Nat) (lb : Array Value) (eg : ∀ args w, (callFunc gf args).run Try.prog w = .ok (.enter gf args) w) (w0 : World) (v : Value) (ps : List Pgv) (hp : Pgs w0 v ps) (kp : PgOk ps)
    (Cl : ∀ p ∈ ps, ∀ r ∈ p.rs, ∀ u, Below w0.heap.size w0 u → Calls Try.prog gf (#[.agg (rpc r).toArray] ++ lb) u fun e w' => e = .returned (.bool (lk r)) ∧ Below u.heap.size u w')
    (B1 B2 : Nat) (w : World) (hw : Below w0.heap.size w0 w) (h1 : Blk 32 w B1 [v]) (h2 : Blk 92 w B2 [.func (.func gf) #[] lb]) :
    SeqStopsK (FW none) n Try.prog 94 #[.pointer (some ⟨B1, 0, none⟩), .pointer (some ⟨B2, 0, none⟩)] (fun x : FdA w0 => #[.agg (fdc x.v).toArray]) (Kp w0) (fun xs => xs.map FdA.v = pgF lk ps) (fun pre => pre.map FdA.v <+: pgF lk ps) (pgF lk ps).length w := by
  intro l J Jx W hW hJ hJx hY h0
  obtain ⟨pa, pc, hpv, _⟩ := hp.row.form
  obtain ⟨pn, hpn⟩ : ∃ n, n = ps.length := ⟨_, rfl⟩
  have c1 : W.cell? ⟨B1, 0, none⟩ = some (.slice pa pn pc) := by rw [hpn, ← hpv]; exact (h1.kept hW).cell 0
  have hP := hp.row
  rw [hpv, ← hpn] at hP
  obtain ⟨LV, hLV⟩ : ∃ LV, LV = Value.func (.func gf) #[] lb := ⟨_, rfl⟩
  have i0 : ItS w0 J B2 LV [] W := ⟨⟨[], rfl, h0⟩, hw.trans (hW.mono hw.size), by rw [hLV]; exact h2.kept hW⟩
  have hpn1 : pn ≤ 1048576 := by rw [hpn]; exact kp.p
  have HP := Lib.hid hP
  have Hp := Lib.hid hp
  have Kp' := Lib.hid kp
  have Hpn := Lib.hid hpn.symm
  have HLV := Lib.hid hLV
  have HY := Lib.hid hY
  have HJ := Lib.hid hJ
  have I0 := Lib.hid i0
  have CL := Lib.hid Cl
  clear hP hp kp hpn hLV hY hJ i0 Cl hpv h1 h2 hw h0 hJx
  refine callsIn_of_wp Try.func94 rfl trivial ?_
  simp only [Try.ntmps94, List.size_toArray, List.length_cons, List.length_nil, Nat.reduceAdd, Nat.reduceSub, Array.replicate_succ, Array.replicate_zero, List.push_toArray, List.append_toArray, List.nil_append, List.cons_append]
  refine wpIn_scope ?_
  refine wpIn_seq_k (fun K hK => wpIn_label (hK _ _ ?_))
  clear hK K
  gi_wp2_with fail
  gi_loopw [12] (fun ix wr => ∃ k : Nat, k ≤ pn ∧ ix = .int .i64 (k : Int) ∧ Hid (ItS w0 J B2 LV (pgF lk (ps.take k)) wr)) (fun ix _ => pn - (intOf ix).toNat)
  case atStart => exact ⟨0, by omega, rfl, Lib.hid (by rw [List.take_zero]; exact I0.out)⟩
  case round =>
    clear I0 c1
    obtain ⟨a, ha, rfl, i1⟩ := hrel
    by_cases hlt : a < pn
    · have hki : (a : Int) < (pn : Int) := by omega
      have hwi : IntKind.i64.wrap ((a : Int) + 1) = ((a + 1 : Nat) : Int) := by rw [IntWalk.i64_in _ (by omega)]; omega
      have hil : a < ps.length := by rw [Hpn.out]; exact hlt
      obtain ⟨b, off, rfl, hr⟩ := RowOf.range pgc_len (HP.out.below i1.out.b) a hil
      obtain ⟨p, hpe⟩ : ∃ p, p = ps[a] := ⟨_, rfl⟩
      have hpm : p ∈ ps := by rw [hpe]; exact List.getElem_mem hil
      have hrs := Hp.out.rs p hpm
      obtain ⟨ra, rc, hrv, _⟩ := hrs.form
      obtain ⟨rn, hrn⟩ : ∃ n, n = p.rs.length := ⟨_, rfl⟩
      have hrn1 : rn ≤ 1048576 := by rw [hrn]; exact Kp'.out.r p hpm
      rw [← hpe] at hr
      rw [hrv, ← hrn] at hrs
      obtain ⟨PC, hPC⟩ : ∃ C, C = pgc p := ⟨_, rfl⟩
      have hPl : PC.length = 2 := by rw [hPC]; rfl
      have hPo : ∀ u ∈ PC, u.oneCell' = true := by rw [hPC]; exact pgc_one p ⟨_, _, _, hrv⟩
      have hP1 : PC[1]? = some (.slice ra rn rc) := by rw [hPC, hrn, ← hrv]; rfl
      have hP0 : PC[0]? = some (.int .u64 (p.num : Int)) := by rw [hPC]; rfl
      rw [← hPC] at hr
      have HR := Lib.hid hr
      have HRs := Lib.hid hrs
      have Hrn := Lib.hid hrn.symm
      have HPl := Lib.hid hPl
      have HPo := Lib.hid hPo
      have HP1 := Lib.hid hP1
      have HP0 := Lib.hid hP0
      have Hpm := Lib.hid hpm
      have Hpe := Lib.hid hpe
      have Hpa : Hid (ps[a]? = some p) := Lib.hid (by rw [hpe]; exact List.getElem?_eq_getElem hil)
      clear hr hrs hrn hPC hPl hPo hP1 hP0 hrv hpm hpe
      obtain ⟨WA, rfl⟩ : ∃ x, x = wr := ⟨wr, rfl⟩
      have hz2 := Blk.new WA 95 [.int .u64 0, .slice none 0 0]
      gi_upto_region 2 with fail
      refine regionFW (k := 4) (by rfl) ?_
      simp only [List.take_succ_cons, List.take_zero, List.drop_succ_cons, List.drop_zero]
      go_wp2_with (first
        | ((with_reducible show wpList _ _ _ (⟨some 15, _, _, _, _, _⟩ :: _) _ _); refine wpList_loadW (o := ⟨some 15, _, _, _, _, _⟩) 95 (.tmp 14) (by rfl) b (off + a * 2) (by rfl) aggPg HPl.out HR.out (by rfl) ?_)
        | ((with_reducible show wpList _ _ _ (⟨none, Op.store _ _ (Operand.tmp 15), _, _, _, _⟩ :: _) _ _); refine wpList_storeA (o := ⟨none, _, _, _, _, _⟩) (by rfl) 95 (.tmp 5) (.tmp 15) (by rfl) WA.heap.size PC (by rfl) (by rfl) aggPg hz2 HPl.out (by rfl) HPo.out ((Below.refl WA.heap.size WA).alloc (Nat.le_refl _) _) (Nat.le_refl _) ?_; intro w5 h5 b5 _))
      have i5 := Lib.hid (i1.out.go HJ.out b5)
      have e1 : w5.cell? ⟨WA.heap.size, 1, none⟩ = some (.slice ra rn rc) := by rw [h5.cell 1]; exact HP1.out
      clear hz2 b5
      refine ⟨rfl, ?_⟩
      have i6 : Hid (ItS w0 J B2 LV (pgF lk (ps.take a) ++ rcF lk p (p.rs.take 0)) w5) := Lib.hid (by
        rw [List.take_zero]
        show ItS w0 J B2 LV (pgF lk (ps.take a) ++ []) w5
        rw [List.append_nil]; exact i5.out)
      gi_wp2_with fail
      gi_loopw [19] (fun ix wr => ∃ k : Nat, k ≤ rn ∧ ix = .int .i64 (k : Int) ∧ Hid (ItS w0 J B2 LV (pgF lk (ps.take a) ++ rcF lk p (p.rs.take k)) wr) ∧ Blk 95 wr WA.heap.size PC) (fun ix _ => rn - (intOf ix).toNat)
      case atStart => exact ⟨0, by omega, rfl, i6, h5⟩
      case round =>
        clear i6 i5 e1 h5
        obtain ⟨c, hc, rfl, i7, hpg⟩ := hrel
        by_cases hltc : c < rn
        · have hkc : (c : Int) < (rn : Int) := by omega
          have hwc : IntKind.i64.wrap ((c : Int) + 1) = ((c + 1 : Nat) : Int) := by rw [IntWalk.i64_in _ (by omega)]; omega
          have hic : c < p.rs.length := by rw [Hrn.out]; exact hltc
          obtain ⟨b7, off7, rfl, hr⟩ := RowOf.range rpc_len (HRs.out.below i7.out.b) c hic
          obtain ⟨r, hre⟩ : ∃ r, r = p.rs[c] := ⟨_, rfl⟩
          have hrm : r ∈ p.rs := by rw [hre]; exact List.getElem_mem hic
          have hls := Hp.out.ls p Hpm.out r hrm
          obtain ⟨la, lc, hlv, _⟩ := hls.form
          obtain ⟨ln, hln⟩ : ∃ n, n = r.ls.length := ⟨_, rfl⟩
          have hln1 : ln ≤ 1048576 := by rw [hln]; exact Kp'.out.l p Hpm.out r hrm
          have cl := CL.out p Hpm.out r hrm
          rw [← hre] at hr
          rw [hlv, ← hln] at hls
          obtain ⟨q, hq⟩ : ∃ q, q = lk r := ⟨_, rfl⟩
          rw [← hq] at cl
          obtain ⟨RC, hRC⟩ : ∃ C, C = rpc r := ⟨_, rfl⟩
          have hRl : RC.length = 35 := by rw [hRC]; exact rpc_len r
          have hRo : ∀ u ∈ RC, u.oneCell' = true := by rw [hRC]; exact rpc_one r ⟨_, _, _, hlv⟩
          have hR1 : RC[34]? = some (.slice la ln lc) := by rw [hRC, hln, ← hlv]; exact rpc_logs r
          rw [← hRC] at hr cl
          have HR7 := Lib.hid hr
          have HLs := Lib.hid hls
          have Hln := Lib.hid hln.symm
          have HRl := Lib.hid hRl
          have HRo := Lib.hid hRo
          have HR1 := Lib.hid hR1
          have Hrm := Lib.hid hrm
          have Hre := Lib.hid hre
          have Hrc : Hid (p.rs[c]? = some r) := Lib.hid (by rw [hre]; exact List.getElem?_eq_getElem hic)
          have Hq := Lib.hid hq
          have Cl := Lib.hid cl
          clear hr hls hln hRC hRl hRo hR1 hlv hrm hre hq cl
          obtain ⟨WB, rfl⟩ : ∃ x, x = wr := ⟨wr, rfl⟩
          gi_upto_region 5 with fail
          refine regionFW (k := 6) (by rfl) ?_
          simp only [List.take_succ_cons, List.take_zero, List.drop_succ_cons, List.drop_zero]
          go_wp2_with (first
            | ((with_reducible show wpList _ _ _ (⟨some 23, _, _, _, _, _⟩ :: _) _ _); refine wpList_loadW (o := ⟨some 23, _, _, _, _, _⟩) 91 (.tmp 22) (by rfl) b7 (off7 + c * 35) (by rfl) aggRp HRl.out HR7.out (by rfl) ?_)
            | ((with_reducible show wpList _ _ _ (⟨none, Op.store _ _ (Operand.tmp 23), _, _, _, _⟩ :: _) _ _); refine wpList_storeA (o := ⟨none, _, _, _, _, _⟩) (by rfl) 91 (.tmp 7) (.tmp 23) (by rfl) WB.heap.size RC (by rfl) (by rfl) aggRp (Blk.newA WB 91 _) HRl.out (by rfl) HRo.out ((Below.refl WB.heap.size WB).alloc (Nat.le_refl _) _) (Nat.le_refl _) ?_; intro w8 h8 b8 _))
          refine ⟨rfl, ?_⟩
          have i8 := Lib.hid (i7.out.go HJ.out b8)
          have p8 := hpg.kept b8
          have e2 : w8.cell? ⟨B2, 0, none⟩ = some (.func (.func gf) #[] lb) := by rw [i8.out.f.cell 0, HLV.out]; rfl
          have r8 := h8.all0
          clear b8 hpg i7
          gi_upto_region 6 with fail
          refine regionFW (k := 4) (by rfl) ?_
          simp only [List.take_succ_cons, List.take_zero, List.drop_succ_cons, List.drop_zero]
          go_wp2_with (first
            | ((with_reducible show wpList _ _ _ (⟨some 25, _, _, _, _, _⟩ :: _) _ _); refine wpList_loadW (o := ⟨some 25, _, _, _, _, _⟩) 91 (.tmp 7) (by rfl) WB.heap.size 0 (by rfl) aggRp HRl.out r8 (by rfl) ?_)
            | (go_at_fn gf; refine (Cl.out w8 i8.out.b).mono ?_; rintro e w9 ⟨rfl, b9⟩))
          refine ⟨rfl, ?_⟩
          have i9 := Lib.hid (i8.out.go HJ.out b9)
          have p9 := p8.kept b9
          have h9 := h8.kept b9
          clear i8 p8 h8 e2 r8 b9
          cases q with
          | false =>
            gi_wp2_with fail
            go_roundw
            case rel => exact ⟨c + 1, by omega, by go_num, Lib.hid (by
              rw [rcF_step lk p p.rs c hic, ← Hre.out, if_neg (by rw [← Hq.out]; simp), List.append_nil]
              exact i9.out), p9⟩
            case measure => simp [intOf]; omega
          | true =>
            have e3 : w9.cell? ⟨WB.heap.size, 34, none⟩ = some (.slice la ln lc) := by rw [h9.cell 34]; exact HR1.out
            have i10 : Hid (ItS w0 J B2 LV (pgF lk (ps.take a) ++ rcF lk p (p.rs.take c) ++ lgF p c (r.ls.take 0)) w9) := Lib.hid (by
              rw [List.take_zero]
              show ItS w0 J B2 LV (pgF lk (ps.take a) ++ rcF lk p (p.rs.take c) ++ []) w9
              rw [List.append_nil]; exact i9.out)
            gi_wp2_with fail
            gi_loopw [31] (fun ix wr => ∃ k : Nat, k ≤ ln ∧ ix = .int .i64 (k : Int) ∧ Hid (ItS w0 J B2 LV (pgF lk (ps.take a) ++ rcF lk p (p.rs.take c) ++ lgF p c (r.ls.take k)) wr) ∧ Blk 95 wr WA.heap.size PC) (fun ix _ => ln - (intOf ix).toNat)
            case atStart => exact ⟨0, by omega, rfl, i10, p9⟩
            case round =>
              clear i10 i9 p9 h9 e3
              obtain ⟨d, hd, rfl, i11, hpg⟩ := hrel
              by_cases hltd : d < ln
              · have hkd : (d : Int) < (ln : Int) := by omega
                have hwd : IntKind.i64.wrap ((d : Int) + 1) = ((d + 1 : Nat) : Int) := by rw [IntWalk.i64_in _ (by omega)]; omega
                have hid : d < r.ls.length := by rw [Hln.out]; exact hltd
                obtain ⟨b11, off11, rfl, hr⟩ := RowOf.range lgc_len (HLs.out.below i11.out.b) d hid
                obtain ⟨lg, hlg⟩ : ∃ l, l = r.ls[d] := ⟨_, rfl⟩
                have hlf := Hp.out.lg p Hpm.out r Hrm.out r.ls[d] (List.getElem_mem hid)
                rw [← hlg] at hr hlf
                obtain ⟨ta, tc, htv, _⟩ := hlf.1.ht.form
                obtain ⟨da, dc, hdv, _⟩ := hlf.1.hd.form
                obtain ⟨F, hF⟩ : ∃ F : Fdv, F = ⟨p.num, p.hn, c, d, lg⟩ := ⟨_, rfl⟩
                obtain ⟨FC, hFC⟩ : ∃ C, C = fdc F := ⟨_, rfl⟩
                obtain ⟨LC, hLC⟩ : ∃ C, C = lgc lg := ⟨_, rfl⟩
                have hLl : LC.length = 10 := by rw [hLC]; exact lgc_len lg
                have hLo : ∀ u ∈ LC, u.oneCell' = true := by rw [hLC]; exact lgc_one lg (by rw [htv]; rfl) (by rw [hdv]; rfl)
                have hbt : Try.prog.built 86 [(0, .int .u64 (p.num : Int)), (1, .int .i64 (c : Int)), (2, .int .i64 (d : Int)), (3, .agg LC.toArray)] = some FC.toArray := by
                  rw [hFC, hLC, hF]; exact built_fd ⟨p.num, p.hn, c, d, lg⟩
                have hFl : F.l.In w0 ∧ F.l.Ok := by rw [hF]; exact hlf
                have hst : lgF p c (r.ls.take (d + 1)) = lgF p c (r.ls.take d) ++ [F] := by rw [lgF_step p c r.ls d hid, hF, hlg]
                have hpre : pgF lk (ps.take a) ++ rcF lk p (p.rs.take c) ++ (lgF p c (r.ls.take d) ++ [F]) <+: pgF lk ps := by
                  rw [← hst]
                  exact place_pre' lk ps a c (d + 1) p r Hpa.out Hrc.out Hq.out.symm
                rw [← hLC] at hr
                have HR11 := Lib.hid hr
                have HLl := Lib.hid hLl
                have HLo := Lib.hid hLo
                have Hbt := Lib.hid hbt
                have Hst := Lib.hid hst
                have Hpre := Lib.hid hpre
                have HFC := Lib.hid hFC
                have HFl := Lib.hid hFl
                clear hr hLl hLo hbt hst hpre hLC hFC hF hlf htv hdv hFl hlg
                obtain ⟨WC, rfl⟩ : ∃ x, x = wr := ⟨wr, rfl⟩
                gi_upto_region 9 with fail
                refine regionFW (k := 6) (by rfl) ?_
                simp only [List.take_succ_cons, List.take_zero, List.drop_succ_cons, List.drop_zero]
                go_wp2_with (first
                  | ((with_reducible show wpList _ _ _ (⟨some 35, _, _, _, _, _⟩ :: _) _ _); refine wpList_loadW (o := ⟨some 35, _, _, _, _, _⟩) 84 (.tmp 34) (by rfl) b11 (off11 + d * 10) (by rfl) aggLog HLl.out HR11.out (by rfl) ?_)
                  | ((with_reducible show wpList _ _ _ (⟨none, Op.store _ _ (Operand.tmp 35), _, _, _, _⟩ :: _) _ _); refine wpList_storeA (o := ⟨none, _, _, _, _, _⟩) (by rfl) 84 (.tmp 9) (.tmp 35) (by rfl) WC.heap.size LC (by rfl) (by rfl) aggLog (Blk.newA WC 84 _) HLl.out (by rfl) HLo.out ((Below.refl WC.heap.size WC).alloc (Nat.le_refl _) _) (Nat.le_refl _) ?_; intro w12 h12 b12 _))
                refine ⟨rfl, ?_⟩
                have i12 := Lib.hid (i11.out.go HJ.out b12)
                have p12 := hpg.kept b12
                have e4 : w12.cell? ⟨WA.heap.size, 0, none⟩ = some (.int .u64 (p.num : Int)) := by rw [p12.cell 0]; exact HP0.out
                have r12 := h12.all0
                obtain ⟨pre, q1, q2⟩ := i12.out.j
                have hlen : pre.length < (pgF lk ps).length := by
                  have := Hpre.out.length_le
                  rw [← List.append_assoc, ← q1] at this
                  simp only [List.length_append, List.length_map, List.length_cons, List.length_nil] at this
                  omega
                obtain ⟨fn, tmps, assign, body, hy, hR⟩ := HY.out pre (FdA.of F HFl.out) w12 q2 hlen
                rw [FdA.of_v, ← HFC.out] at hy
                have HRn := Lib.hid hR
                have HQ1 := Lib.hid q1
                clear b12 hpg i11 q1 q2 hlen hR
                gi_upto_region 10 with fail
                refine regionFW (k := 7) (by rfl) ?_
                simp only [List.take_succ_cons, List.take_zero, List.drop_succ_cons, List.drop_zero]
                go_wp2_with (first
                  | ((with_reducible show wpList _ _ _ (⟨some 41, _, _, _, _, _⟩ :: _) _ _); refine wpList_loadW (o := ⟨some 41, _, _, _, _, _⟩) 84 (.tmp 9) (by rfl) WC.heap.size 0 (by rfl) aggLog HLl.out r12 (by rfl) ?_)
                  | ((with_reducible show wpList _ _ _ (⟨some 42, _, _, _, _, _⟩ :: _) _ _); refine wpList_buildB (o := ⟨some 42, _, _, _, _, _⟩) (by rfl) 86 [(0, .tmp 38), (1, .tmp 39), (2, .tmp 40), (3, .tmp 41)] (by rfl) _ (by rfl) _ Hbt.out ?_))
                refine ⟨rfl, ?_⟩
                gi_wp2_with fail
                refine HRn.out.mono ?_
                rintro e W3 (⟨rfl, hJ3, hk3⟩ | ⟨rfl, hJx3⟩)
                · have i13 : Hid (ItS w0 J B2 LV (pgF lk (ps.take a) ++ rcF lk p (p.rs.take c) ++ lgF p c (r.ls.take (d + 1))) W3) := Lib.hid
                    ⟨⟨_, by rw [List.map_append, HQ1.out, Hst.out, ← List.append_assoc]; rfl, hJ3⟩, i12.out.b.trans hk3.b, hk3.k _ _ _ (.inr rfl) i12.out.f⟩
                  have p13 := hk3.k _ _ _ (.inl rfl) p12
                  clear hJ3 hk3 p12 i12 h12 e4 r12 hy
                  gi_wp2_with fail
                  go_roundw
                  case rel => exact ⟨d + 1, by omega, by go_num, i13, p13⟩
                  case measure => simp [intOf]; omega
                · clear p12 i12 h12 e4 r12 hy
                  gi_wp2_with fail
                  simp only [Exit.noGoto]
                  go_end0
                  exact ⟨⟨_, rfl⟩, .inr ⟨_, by rw [List.map_append, HQ1.out, List.append_assoc]; exact Hpre.out, hJx3⟩⟩
              · obtain rfl : d = ln := by omega
                gi_wp2_with fail
                go_roundw
                case rel => exact ⟨c + 1, by omega, by go_num, Lib.hid (by
                  have := i11.out
                  rw [← Hln.out, List.take_length] at this
                  rw [rcF_step lk p p.rs c hic, ← Hre.out, if_pos Hq.out.symm, ← List.append_assoc]
                  exact this), hpg⟩
                case measure => simp [intOf]; omega
        · obtain rfl : c = rn := by omega
          gi_wp2_with fail
          go_roundw
          case rel => exact ⟨a + 1, by omega, by go_num, Lib.hid (by
            have := i7.out
            rw [← Hrn.out, List.take_length] at this
            rw [pgF_step lk ps a hil, ← Hpe.out]
            exact this)⟩
          case measure => simp [intOf]; omega
    · obtain rfl : a = pn := by omega
      gi_wp2_with fail
      simp only [Exit.noGoto]
      go_end0
      obtain ⟨pre, q1, q2⟩ := i1.out.j
      exact ⟨⟨_, rfl⟩, .inl ⟨pre, by rw [q1, ← Hpn.out, List.take_length], q2⟩⟩
end Go.Proofs.Ytljbbpcnoajfeaa
