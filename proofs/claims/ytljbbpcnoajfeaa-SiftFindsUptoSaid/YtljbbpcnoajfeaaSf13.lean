/- The reference's TFind. -/
import Derived.Test.YtljbbpcnoajfeaaSf6
import Derived.Test.YtljbbpcnoajfeaaSf11
set_option linter.unusedSimpArgs false
set_option linter.unusedVariables false
namespace Go.Proofs.Ytljbbpcnoajfeaa
open Go.RowKit
/-- the first that are let through -/
def tkF (f : Flt) (most : Int) (L : List Fdv) : List Fdv := (L.filter fun x => letB f x.l).take most.toNat
theorem tkF_tel (f : Flt) (most : Int) (L : List Fdv) : (tkF f most L).map tel = firstF f most L := rfl
theorem tkF_no (f : Flt) (most : Int) (L : List Fdv) (F : Fdv) (q : Bool) (h : (q && letB f F.l && decide ((tkF f most L).length < most.toNat)) = false) : tkF f most (L ++ if q then [F] else []) = tkF f most L := by
  cases q with
  | false => simp
  | true =>
    rw [if_pos rfl]
    unfold tkF at h ⊢
    rw [List.filter_append]
    cases hl : letB f F.l with
    | false => simp [hl]
    | true =>
      rw [hl] at h
      simp only [Bool.true_and, decide_eq_false_iff_not, List.length_take] at h
      rw [List.take_append, show most.toNat - (L.filter fun x => letB f x.l).length = 0 by omega]
      simp
theorem tkF_yes (f : Flt) (most : Int) (L : List Fdv) (F : Fdv) (q : Bool) (hq : q = true) (hl : letB f F.l = true) (h : (tkF f most L).length < most.toNat) : tkF f most (L ++ if q then [F] else []) = tkF f most L ++ [F] := by
  subst hq
  rw [if_pos rfl]
  unfold tkF at h ⊢
  simp only [List.length_take] at h
  rw [List.filter_append, List.filter_cons, if_pos hl, List.filter_nil, List.take_append, List.take_of_length_le (by omega), List.take_of_length_le (by simp only [List.length_cons, List.length_nil]; omega)]
theorem tkF_len (f : Flt) (most : Int) (L : List Fdv) : (tkF f most L).length ≤ L.length := by
  unfold tkF
  rw [List.length_take]
  have := List.length_filter_le (fun x => letB f x.l) L
  omega
theorem tkF_neg (f : Flt) {most : Int} (h : most ≤ 0) (L : List Fdv) : tkF f most L = [] := by
  unfold tkF
  rw [show most.toNat = 0 by omega, List.take_zero]
theorem here_pre (lk : Rcp → Bool) (ps : List Pgv) (a b c : Nat) (p : Pgv) (r : Rcp) (ha : ps[a]? = some p) (hb : p.rs[b]? = some r) :
    pgF lk (ps.take a) ++ rcF lk p (p.rs.take b) ++ (if lk r then lgF p b (r.ls.take c) else []) <+: pgF lk ps := by
  by_cases hl : lk r = true
  · rw [if_pos hl]; exact place_pre' lk ps a b c p r ha hb hl
  · rw [if_neg hl, List.append_nil]
    obtain ⟨h1, rfl⟩ := List.getElem?_eq_some_iff.1 ha
    refine List.IsPrefix.trans ?_ (pgF_pre lk ps (a + 1))
    rw [pgF_step lk ps a h1]
    exact (List.prefix_append_right_inj _).2 (rcF_pre _ _ _ _)
theorem wpList_build1B {α : Type} {f : α → List Value} {P : Program} {w : World} {ops : Array Oper} {rest : List Oper} {o : Oper} {a : Act} {Q : Exit → Act → World → Prop} (hgd : o.guard = none) (x : Operand) (t : TypeId)
    (ho : o.op = .buildSlice t 1 #[(0, x)]) {e : TypeId} {z : Value} {size bytes : Nat} (el : El0 P t e z size bytes f) (v : Value) (C : List Value) (hx : a.eval x = v) (hv : v.cells = C.toArray) (hC : C.length = size) (hs : size ≤ 16777216)
    (h : wpList P ops Q rest (a.put o.dst (.slice (some ⟨w.heap.size, 0, none⟩) 1 1)) (w.alloc (.cells C.toArray e))) : wpList P ops Q (o :: rest) a w := by
  obtain ⟨i, hi, hz, hsi, _⟩ := el.info
  have hp := el.hsz
  refine wpList_buildSlice hgd t e 1 #[(0, x)] ho C.toArray i z el.ht hi hz (by rw [hsi]; omega) (by rw [hsi]; omega) ?_ h
  have hf := Great.fill_whole (s := size) hp [v] ((Array.range (1 * size)).map (z.cells[· % z.cells.size]!)) (fun u hu => by rw [List.mem_singleton] at hu; rw [hu, hv]; simpa using hC) (by simp)
  rw [hsi]
  have e1 : ([v].flatMap fun v => v.cells.toList).toArray = C.toArray := by simp [hv]
  rw [e1] at hf
  rw [← hf]
  simp [hx]
def herL (lk : Rcp → Bool) (ps : List Pgv) (a : Nat) (p : Pgv) (c : Nat) (r : Rcp) (k : Nat) : List Fdv := pgF lk (ps.take a) ++ rcF lk p (p.rs.take c) ++ (if lk r then lgF p c (r.ls.take k) else [])
theorem herL_zero (lk : Rcp → Bool) (ps : List Pgv) (a : Nat) (p : Pgv) (c : Nat) (r : Rcp) : herL lk ps a p c r 0 = pgF lk (ps.take a) ++ rcF lk p (p.rs.take c) := by
  unfold herL
  rw [List.take_zero, show lgF p c [] = [] from rfl, ite_self, List.append_nil]
theorem herL_step (lk : Rcp → Bool) (ps : List Pgv) (a : Nat) (p : Pgv) (c : Nat) (r : Rcp) (k : Nat) (hk : k < r.ls.length) : herL lk ps a p c r (k + 1) = herL lk ps a p c r k ++ if lk r then [⟨p.num, p.hn, c, k, r.ls[k]⟩] else [] := by
  unfold herL
  by_cases h : lk r = true
  · rw [if_pos h, if_pos h, if_pos h, lgF_step p c r.ls k hk, List.append_assoc, List.append_assoc, List.append_assoc]
  · rw [if_neg h, if_neg h, if_neg h, List.append_nil, List.append_nil]
theorem herL_end (lk : Rcp → Bool) (ps : List Pgv) (a : Nat) (p : Pgv) (c : Nat) (r : Rcp) (hc : p.rs[c]? = some r) : herL lk ps a p c r r.ls.length = pgF lk (ps.take a) ++ rcF lk p (p.rs.take (c + 1)) := by
  obtain ⟨h2, rfl⟩ := List.getElem?_eq_some_iff.1 hc
  unfold herL
  rw [rcF_step lk p p.rs c h2, List.take_length, List.append_assoc]
theorem herL_len (lk : Rcp → Bool) (ps : List Pgv) (a : Nat) (p : Pgv) (c : Nat) (r : Rcp) (k : Nat) (ha : ps[a]? = some p) (hc : p.rs[c]? = some r) : (herL lk ps a p c r k).length ≤ (pgF lk ps).length := (here_pre lk ps a c k p r ha hc).length_le
/-- where the loops stand -/
structure TfS (w0 : World) (f : Flt) (most : Int) (L : List Fdv) (v : Value) (wr : World) : Prop where
  b : Below w0.heap.size w0 wr
  flt : Blk 36 wr w0.heap.size (flc f)
  out : OwnOf fdc 13 86 wr w0.heap.size v (tkF f most L)
theorem TfS.kept {w0 : World} {f : Flt} {most : Int} {L : List Fdv} {v : Value} {wr w' : World} (h : TfS w0 f most L v wr) (hb : Below wr.heap.size wr w') : TfS w0 f most L v w' :=
  ⟨Below.then h.b hb, h.flt.kept hb, h.out.kept hb⟩
theorem TfS.to {w0 : World} {f : Flt} {most : Int} {L L' : List Fdv} {v : Value} {wr : World} (h : TfS w0 f most L v wr) (he : tkF f most L' = tkF f most L) : TfS w0 f most L' v wr :=
  ⟨h.b, h.flt, by rw [he]; exact h.out⟩
theorem TfS.app {w0 : World} {f : Flt} {most : Int} {L L' : List Fdv} {v v' : Value} {y y6 : World} {F : Fdv} (h : TfS w0 f most L v y) (ho : OwnOf fdc 13 86 y6 w0.heap.size v' (tkF f most L ++ [F])) (hg : y.grownBy y6 v.ownBlock) (he : tkF f most L' = tkF f most L ++ [F]) : TfS w0 f most L' v' y6 :=
  ⟨h.b.grown hg h.b.size (fun k hk => h.out.lt k hk), h.flt.grown hg (h.out.notT h.flt (by decide)), by rw [he]; exact ho⟩
def TFoundP (f : Flt) (most : Int) (L : List Fdv) (w : World) (e : Ending) (w' : World) : Prop := ∃ u, e = .returned u ∧ OwnOf fdc 13 86 w' w.heap.size u (tkF f most L) ∧ Below w.heap.size w w'
set_option maxHeartbeats 8000000 in
set_option maxRecDepth 100000 in
theorem tfind_any (f : Flt) (kf : f.Ok) (most : Int) (skip : Bool) (v : Value) (ps : List Pgv) (kp : PgOk ps) (lk : Rcp → Bool) (hlk : lk = fun r => !skip || maB f r.bloom) (kt : (pgF lk ps).length ≤ 1048576) (w : World) (hp : Pgs w v ps) (hf : f.In w) :
    Calls Try.prog 12 #[v, .agg (flc f).toArray, .int .i64 most, .bool skip] w (TFoundP f most (pgF lk ps) w) := by
  obtain ⟨pa, pc, hpv, _⟩ := hp.row.form
  obtain ⟨pn, hpn⟩ : ∃ n, n = ps.length := ⟨_, rfl⟩
  have hP := hp.row
  rw [hpv, ← hpn] at hP
  rw [hpv, ← hpn]
  obtain ⟨w1, hw1⟩ : ∃ w1, w1 = w.alloc (.cells (flc f).toArray 36) := ⟨_, rfl⟩
  have i0 : TfS w f most [] (.slice none 0 0) w1 := ⟨by rw [hw1]; exact (Below.refl _ _).alloc (Nat.le_refl _) _, by rw [hw1]; exact Blk.new w _ _, by rw [show tkF f most [] = [] from by simp [tkF]]; exact OwnOf.nil _ _ _ _ _⟩
  have hpn1 : pn ≤ 1048576 := by rw [hpn]; exact kp.p
  have ct := fun (l : Lgv) (kl : l.Ok) u (hu : Below w.heap.size w u) (hl : l.In w) => through_any f kf l kl u (hf.kept hu) (hl.kept hu)
  have cm := fun (F : List UInt8) (hF : F.length = 32) u (hu : Below w.heap.size w u) => tmay_any f kf F hF u (hf.kept hu)
  obtain ⟨FLC, hFLC⟩ : ∃ C, C = flc f := ⟨_, rfl⟩
  have hFl : FLC.length = 2 := by rw [hFLC]; rfl
  rw [← hFLC] at hw1 ct cm ⊢
  have HWe := Lib.hid hw1
  have Ct := Lib.hid ct
  have Cm := Lib.hid cm
  have HFl := Lib.hid hFl
  have HFLC := Lib.hid hFLC
  have HP := Lib.hid hP
  have Hp := Lib.hid hp
  have Kp' := Lib.hid kp
  have Hpn := Lib.hid hpn.symm
  have I0 := Lib.hid i0
  have Kt := Lib.hid kt
  have Hlk := Lib.hid hlk
  clear hw1 ct cm hFl hFLC hP hp kp hpn i0 kt hlk hpv hf
  go_enter Try.func12, Try.ntmps12
  go_wp2_with (rw [← HWe.out])
  go_loopw [9, 18] (fun o ix wr => ∃ k : Nat, k ≤ pn ∧ ix = .int .i64 (k : Int) ∧ Hid (TfS w f most (pgF lk (ps.take k)) o wr)) (fun _ ix _ => pn - (intOf ix).toNat)
  case atStart => exact ⟨0, by omega, rfl, Lib.hid (by rw [List.take_zero]; exact I0.out)⟩
  case round =>
    clear I0
    obtain ⟨a, ha, rfl, i1⟩ := hrel
    obtain ⟨U9, rfl⟩ : ∃ x, x = u9 := ⟨_, rfl⟩
    by_cases hlt : a < pn
    · have hki : (a : Int) < (pn : Int) := by omega
      have hwi : IntKind.i64.wrap ((a : Int) + 1) = ((a + 1 : Nat) : Int) := by rw [IntWalk.i64_in _ (by omega)]; omega
      have hil : a < ps.length := by rw [Hpn.out]; exact hlt
      obtain ⟨b, off, rfl, hr⟩ := RowOf.range pgc_len (HP.out.below i1.out.b) a hil
      obtain ⟨p, hpe⟩ : ∃ p, p = ps[a] := ⟨_, rfl⟩
      have hpm : p ∈ ps := by rw [hpe]; exact List.getElem_mem hil
      have hrs := Hp.out.rs p hpm
      obtain ⟨ra, rc, hrv, _⟩ := hrs.form
      obtain ⟨rn, hrn⟩ : ∃ n, n = p.rs.length := ⟨_, rfl⟩
      have hrn1 : rn ≤ 1048576 := by rw [hrn]; exact Kp'.out.r p hpm
      rw [← hpe] at hr
      rw [hrv, ← hrn] at hrs
      obtain ⟨PC, hPC⟩ : ∃ C, C = pgc p := ⟨_, rfl⟩
      have hPl : PC.length = 2 := by rw [hPC]; rfl
      have hPo : ∀ u ∈ PC, u.oneCell' = true := by rw [hPC]; exact pgc_one p ⟨_, _, _, hrv⟩
      have hP1 : PC[1]? = some (.slice ra rn rc) := by rw [hPC, hrn, ← hrv]; rfl
      have hP0 : PC[0]? = some (.int .u64 (p.num : Int)) := by rw [hPC]; rfl
      rw [← hPC] at hr
      have HR := Lib.hid hr
      have HRs := Lib.hid hrs
      have Hrn := Lib.hid hrn.symm
      have HPl := Lib.hid hPl
      have HPo := Lib.hid hPo
      have HP1 := Lib.hid hP1
      have HP0 := Lib.hid hP0
      have Hpm := Lib.hid hpm
      have Hpe := Lib.hid hpe
      have Hpa : Hid (ps[a]? = some p) := Lib.hid (by rw [hpe]; exact List.getElem?_eq_getElem hil)
      clear hr hrs hrn hPC hPl hPo hP1 hP0 hrv hpm hpe
      obtain ⟨WA, rfl⟩ : ∃ x, x = wr := ⟨wr, rfl⟩
      have hz2 := Blk.new WA 95 [.int .u64 0, .slice none 0 0]
      go_upto_region 5 with (first
        | ((with_reducible show wpList _ _ _ (⟨some 21, _, _, _, _, _⟩ :: _) _ _); refine wpList_loadW (o := ⟨some 21, _, _, _, _, _⟩) 95 (.tmp 20) (by rfl) b (off + a * 2) (by rfl) aggPg HPl.out HR.out (by rfl) ?_)
        | ((with_reducible show wpList _ _ _ (⟨none, Op.store _ _ (Operand.tmp 21), _, _, _, _⟩ :: _) _ _); refine wpList_storeA (o := ⟨none, _, _, _, _, _⟩) (by rfl) 95 (.tmp 11) (.tmp 21) (by rfl) WA.heap.size PC (by rfl) (by rfl) aggPg hz2 HPl.out (by rfl) HPo.out ((Below.refl WA.heap.size WA).alloc (Nat.le_refl _) _) (Nat.le_refl _) ?_; intro w5 h5 b5 _))
      have i5 := Lib.hid (i1.out.kept b5)
      have e1 : w5.cell? ⟨WA.heap.size, 1, none⟩ = some (.slice ra rn rc) := by rw [h5.cell 1]; exact HP1.out
      clear hz2 b5
      have i6 : Hid (TfS w f most (pgF lk (ps.take a) ++ rcF lk p (p.rs.take 0)) U9 w5) := Lib.hid (by
        rw [List.take_zero]
        show TfS w f most (pgF lk (ps.take a) ++ []) U9 w5
        rw [List.append_nil]; exact i5.out)
      go_wp2_with fail
      go_loopw [9, 25] (fun o ix wr => ∃ k : Nat, k ≤ rn ∧ ix = .int .i64 (k : Int) ∧ Hid (TfS w f most (pgF lk (ps.take a) ++ rcF lk p (p.rs.take k)) o wr) ∧ Blk 95 wr WA.heap.size PC) (fun _ ix _ => rn - (intOf ix).toNat)
      case atStart => exact ⟨0, by omega, rfl, i6, h5⟩
      case round =>
        clear i6 i5 e1 h5
        obtain ⟨c, hc, rfl, i7, hpg⟩ := hrel
        obtain ⟨V9, rfl⟩ : ∃ x, x = u9 := ⟨_, rfl⟩
        by_cases hltc : c < rn
        · have hkc : (c : Int) < (rn : Int) := by omega
          have hwc : IntKind.i64.wrap ((c : Int) + 1) = ((c + 1 : Nat) : Int) := by rw [IntWalk.i64_in _ (by omega)]; omega
          have hic : c < p.rs.length := by rw [Hrn.out]; exact hltc
          obtain ⟨b7, off7, rfl, hr⟩ := RowOf.range rpc_len (HRs.out.below i7.out.b) c hic
          obtain ⟨r, hre⟩ : ∃ r, r = p.rs[c] := ⟨_, rfl⟩
          have hrm : r ∈ p.rs := by rw [hre]; exact List.getElem_mem hic
          have hls := Hp.out.ls p Hpm.out r hrm
          obtain ⟨la, lc, hlv, _⟩ := hls.form
          obtain ⟨ln, hln⟩ : ∃ n, n = r.ls.length := ⟨_, rfl⟩
          have hln1 : ln ≤ 1048576 := by rw [hln]; exact Kp'.out.l p Hpm.out r hrm
          rw [← hre] at hr
          rw [hlv, ← hln] at hls
          obtain ⟨Q, hQ⟩ : ∃ q, q = lk r := ⟨_, rfl⟩
          have cm := fun u hu => Cm.out r.bloom r.hb u hu
          obtain ⟨RC, hRC⟩ : ∃ C, C = rpc r := ⟨_, rfl⟩
          obtain ⟨BC, hBC⟩ : ∃ C, C = fcs r.bloom := ⟨_, rfl⟩
          have hRl : RC.length = 35 := by rw [hRC]; exact rpc_len r
          have hBl : BC.length = 32 := by rw [hBC]; exact fcs_len r.hb
          have hRo : ∀ u ∈ RC, u.oneCell' = true := by rw [hRC]; exact rpc_one r ⟨_, _, _, hlv⟩
          have hR1 : RC[34]? = some (.slice la ln lc) := by rw [hRC, hln, ← hlv]; exact rpc_logs r
          have hRb : (RC.drop 2).take 32 = BC := by rw [hRC, hBC]; exact rpc_bloom r
          rw [← hBC] at cm
          rw [← hRC] at hr
          have HR7 := Lib.hid hr
          have HLs := Lib.hid hls
          have Hln := Lib.hid hln.symm
          have HRl := Lib.hid hRl
          have HRo := Lib.hid hRo
          have HR1 := Lib.hid hR1
          have HRb := Lib.hid hRb
          have HBl := Lib.hid hBl
          have Hrm := Lib.hid hrm
          have Hrc : Hid (p.rs[c]? = some r) := Lib.hid (by rw [hre]; exact List.getElem?_eq_getElem hic)
          have HQ := Lib.hid hQ
          have Cm1 := Lib.hid cm
          clear hr hls hln hRC hRl hRo hR1 hlv hrm hre hQ cm hRb hBl hBC
          obtain ⟨WB, rfl⟩ : ∃ x, x = wr := ⟨wr, rfl⟩
          go_upto_region 8 with (first
            | ((with_reducible show wpList _ _ _ (⟨some 29, _, _, _, _, _⟩ :: _) _ _); refine wpList_loadW (o := ⟨some 29, _, _, _, _, _⟩) 91 (.tmp 28) (by rfl) b7 (off7 + c * 35) (by rfl) aggRp HRl.out HR7.out (by rfl) ?_)
            | ((with_reducible show wpList _ _ _ (⟨none, Op.store _ _ (Operand.tmp 29), _, _, _, _⟩ :: _) _ _); refine wpList_storeA (o := ⟨none, _, _, _, _, _⟩) (by rfl) 91 (.tmp 13) (.tmp 29) (by rfl) WB.heap.size RC (by rfl) (by rfl) aggRp (Blk.newA WB 91 _) HRl.out (by rfl) HRo.out ((Below.refl WB.heap.size WB).alloc (Nat.le_refl _) _) (Nat.le_refl _) ?_; intro w8 h8 b8 _))
          have i8 := Lib.hid (i7.out.kept b8)
          have p8 := hpg.kept b8
          have e3 : w8.cell? ⟨WB.heap.size, 34, none⟩ = some (.slice la ln lc) := by rw [h8.cell 34]; exact HR1.out
          have i10 : Hid (TfS w f most (herL lk ps a p c r 0) V9 w8) := Lib.hid (by rw [herL_zero]; exact i8.out)
          clear b8 hpg i7 i8
          go_wp2_with fail
          go_loopw [9, 33] (fun o ix wr => ∃ k : Nat, k ≤ ln ∧ ix = .int .i64 (k : Int) ∧ Hid (TfS w f most (herL lk ps a p c r k) o wr) ∧ Blk 95 wr WA.heap.size PC ∧ Blk 91 wr WB.heap.size RC) (fun _ ix _ => ln - (intOf ix).toNat)
          case atStart => exact ⟨0, by omega, rfl, i10, p8, h8⟩
          case round =>
            clear i10 p8 h8 e3
            obtain ⟨d, hd, rfl, i11, hpg, hrc⟩ := hrel
            obtain ⟨O9, rfl⟩ : ∃ x, x = u9 := ⟨_, rfl⟩
            by_cases hltd : d < ln
            · have hkd : (d : Int) < (ln : Int) := by omega
              have hwd : IntKind.i64.wrap ((d : Int) + 1) = ((d + 1 : Nat) : Int) := by rw [IntWalk.i64_in _ (by omega)]; omega
              have hid : d < r.ls.length := by rw [Hln.out]; exact hltd
              obtain ⟨b11, off11, rfl, hr⟩ := RowOf.range lgc_len (HLs.out.below i11.out.b) d hid
              obtain ⟨lg, hlg⟩ : ∃ l, l = r.ls[d] := ⟨_, rfl⟩
              have hlf := Hp.out.lg p Hpm.out r Hrm.out r.ls[d] (List.getElem_mem hid)
              rw [← hlg] at hr hlf
              obtain ⟨ta, tc, htv, _⟩ := hlf.1.ht.form
              obtain ⟨da, dc, hdv, _⟩ := hlf.1.hd.form
              obtain ⟨F, hF⟩ : ∃ F : Fdv, F = ⟨p.num, p.hn, c, d, lg⟩ := ⟨_, rfl⟩
              obtain ⟨FC, hFC⟩ : ∃ C, C = fdc F := ⟨_, rfl⟩
              obtain ⟨LC, hLC⟩ : ∃ C, C = lgc lg := ⟨_, rfl⟩
              obtain ⟨q1, hq1⟩ : ∃ q, q = letB f lg := ⟨_, rfl⟩
              have hLl : LC.length = 10 := by rw [hLC]; exact lgc_len lg
              have hLo : ∀ u ∈ LC, u.oneCell' = true := by rw [hLC]; exact lgc_one lg (by rw [htv]; rfl) (by rw [hdv]; rfl)
              have hbt : Try.prog.built 86 [(0, .int .u64 (p.num : Int)), (1, .int .i64 (c : Int)), (2, .int .i64 (d : Int)), (3, .agg LC.toArray)] = some FC.toArray := by
                rw [hFC, hLC, hF]; exact built_fd ⟨p.num, p.hn, c, d, lg⟩
              have hst : herL lk ps a p c r (d + 1) = herL lk ps a p c r d ++ if Q then [F] else [] := by rw [herL_step lk ps a p c r d hid, hF, hlg, HQ.out]
              have hF1 : FC.length = 13 := by rw [hFC]; exact fdc_len F
              have hone : ∀ u ∈ [F].flatMap fdc, u.oneCell' = true := by
                simpa using fdc_one F (by rw [hF]; exact ⟨_, _, _, htv⟩) (by rw [hF]; exact ⟨_, _, _, hdv⟩)
              have hq1' : q1 = letB f F.l := by rw [hF]; exact hq1
              have ct := fun u hu => Ct.out lg hlf.2 u hu hlf.1
              obtain ⟨va, vc, rfl, _⟩ := i11.out.out.form
              have hxl := Nat.le_trans (tkF_len f most (herL lk ps a p c r d)) (Nat.le_trans (herL_len lk ps a p c r d Hpa.out Hrc.out) Kt.out)
              obtain ⟨xn, hxn⟩ : ∃ n, n = (tkF f most (herL lk ps a p c r d)).length := ⟨_, rfl⟩
              rw [← hxn] at i11 hxl
              rw [← hxn]
              rw [← hLC] at hr ct
              rw [← hq1] at ct
              have HR11 := Lib.hid hr
              have HLl := Lib.hid hLl
              have HLo := Lib.hid hLo
              have Hbt := Lib.hid hbt
              have Hst := Lib.hid hst
              have HFC := Lib.hid hFC
              have HFCl := Lib.hid hF1
              have HOne := Lib.hid hone
              have Hq1 := Lib.hid hq1'
              have Ct1 := Lib.hid ct
              have Hxn := Lib.hid hxn.symm
              clear hr hLl hLo hbt hst hLC hFC hF hlf htv hdv hlg hF1 hone hq1 hq1' ct hxn
              obtain ⟨WC, rfl⟩ : ∃ x, x = wr := ⟨wr, rfl⟩
              go_upto_region 11 with (first
                | ((with_reducible show wpList _ _ _ (⟨some 37, _, _, _, _, _⟩ :: _) _ _); refine wpList_loadW (o := ⟨some 37, _, _, _, _, _⟩) 84 (.tmp 36) (by rfl) b11 (off11 + d * 10) (by rfl) aggLog HLl.out HR11.out (by rfl) ?_)
                | ((with_reducible show wpList _ _ _ (⟨none, Op.store _ _ (Operand.tmp 37), _, _, _, _⟩ :: _) _ _); refine wpList_storeA (o := ⟨none, _, _, _, _, _⟩) (by rfl) 84 (.tmp 15) (.tmp 37) (by rfl) WC.heap.size LC (by rfl) (by rfl) aggLog (Blk.newA WC 84 _) HLl.out (by rfl) HLo.out ((Below.refl WC.heap.size WC).alloc (Nat.le_refl _) _) (Nat.le_refl _) ?_; intro w12 h12 b12 _))
              have i12 := Lib.hid (i11.out.kept b12)
              have p12 := hpg.kept b12
              have c12 := hrc.kept b12
              have r12 := h12.all0
              have f12 : w12.rangeAt w.heap.size 0 FLC := by rw [HFLC.out]; exact i12.out.flt.all0
              have ct2 := Lib.hid (Ct1.out w12 i12.out.b)
              clear b12 hpg hrc i11
              cases q1 with
              | false =>
                go_wp2_with (first
                  | ((with_reducible show wpList _ _ _ (⟨some 38, _, _, _, _, _⟩ :: _) _ _); refine wpList_loadW (o := ⟨some 38, _, _, _, _, _⟩) 36 (.tmp 5) (by rfl) w.heap.size 0 (by rfl) aggFl HFl.out f12 (by rfl) ?_)
                  | ((with_reducible show wpList _ _ _ (⟨some 39, _, _, _, _, _⟩ :: _) _ _); refine wpList_loadW (o := ⟨some 39, _, _, _, _, _⟩) 84 (.tmp 15) (by rfl) WC.heap.size 0 (by rfl) aggLog HLl.out r12 (by rfl) ?_)
                  | (go_at_call 34; (with_reducible refine ct2.out.mono ?_); rintro e w13 ⟨rfl, b13⟩))
                go_roundw
                case rel => exact ⟨d + 1, by omega, by go_num, Lib.hid ((i12.out.kept b13).to (by rw [Hst.out]; exact tkF_no f most _ F Q (by rw [← Hq1.out]; simp))), p12.kept b13, c12.kept b13⟩
                case measure => simp [intOf]; omega
              | true =>
                rcases (by omega : (xn : Int) < most ∨ ¬ (xn : Int) < most) with hm | hm
                · cases skip with
                  | false =>
                    have hQ : Q = true := by rw [HQ.out, Hlk.out]; rfl
                    go_upto_region 12 with (first
                      | ((with_reducible show wpList _ _ _ (⟨some 38, _, _, _, _, _⟩ :: _) _ _); refine wpList_loadW (o := ⟨some 38, _, _, _, _, _⟩) 36 (.tmp 5) (by rfl) w.heap.size 0 (by rfl) aggFl HFl.out f12 (by rfl) ?_)
                      | ((with_reducible show wpList _ _ _ (⟨some 39, _, _, _, _, _⟩ :: _) _ _); refine wpList_loadW (o := ⟨some 39, _, _, _, _, _⟩) 84 (.tmp 15) (by rfl) WC.heap.size 0 (by rfl) aggLog HLl.out r12 (by rfl) ?_)
                      | (go_at_call 34; (with_reducible refine ct2.out.mono ?_); rintro e w13 ⟨rfl, b13⟩))
                    have i13 := i12.out.kept b13
                    have p13 := p12.kept b13
                    have c13 := c12.kept b13
                    have r13 := (h12.kept b13).all0
                    have e13 : w13.cell? ⟨WA.heap.size, 0, none⟩ = some (.int .u64 (p.num : Int)) := by rw [p13.cell 0]; exact HP0.out
                    have hxm : (tkF f most (herL lk ps a p c r d)).length < most.toNat := by rw [Hxn.out]; omega
                    have hap := fun (v' : Value) (y6 : World) (ho : OwnOf fdc 13 86 y6 w.heap.size v' (tkF f most (herL lk ps a p c r d) ++ [F])) (hg : (w13.alloc (.cells FC.toArray 86)).grownBy y6 (Value.slice va xn vc).ownBlock) => (i13.kept ((Below.refl _ _).alloc (Nat.le_refl _) _)).app (L' := herL lk ps a p c r (d + 1)) ho hg (by rw [Hst.out]; exact tkF_yes f most _ F _ hQ Hq1.out.symm hxm)
                    have hpp := fun (v' : Value) (y6 : World) (hg : (w13.alloc (.cells FC.toArray 86)).grownBy y6 (Value.slice va xn vc).ownBlock) => (p13.kept ((Below.refl _ _).alloc (Nat.le_refl _) (.cells FC.toArray 86))).grown hg ((i13.kept ((Below.refl _ _).alloc (Nat.le_refl _) (.cells FC.toArray 86))).out.notT (p13.kept ((Below.refl _ _).alloc (Nat.le_refl _) (.cells FC.toArray 86))) (by decide))
                    have hcc := fun (v' : Value) (y6 : World) (hg : (w13.alloc (.cells FC.toArray 86)).grownBy y6 (Value.slice va xn vc).ownBlock) => (c13.kept ((Below.refl _ _).alloc (Nat.le_refl _) (.cells FC.toArray 86))).grown hg ((i13.kept ((Below.refl _ _).alloc (Nat.le_refl _) (.cells FC.toArray 86))).out.notT (c13.kept ((Below.refl _ _).alloc (Nat.le_refl _) (.cells FC.toArray 86))) (by decide))
                    have H2 := Lib.hid (i13.kept ((Below.refl _ _).alloc (Nat.le_refl _) (.cells FC.toArray 86))).out
                    have HRow : Hid (RowOf fdc 13 (w13.alloc (.cells FC.toArray 86)) (.slice (some ⟨w13.heap.size, 0, none⟩) 1 1) [F]) := Lib.hid (by rw [HFC.out]; exact fd_row (Blk.new w13 _ _))
                    have HyS : Hid (w.heap.size ≤ (w13.alloc (.cells FC.toArray 86)).heap.size) := Lib.hid (by have := i13.b.size; simp only [World.size_alloc]; omega)
                    have HAp := Lib.hid hap
                    have HPp := Lib.hid hpp
                    have HCc := Lib.hid hcc
                    clear hap hpp hcc i13 p13 c13
                    go_wp2_with (first
                      | ((with_reducible show wpList _ _ _ (⟨some 62, _, _, _, _, _⟩ :: _) _ _); refine wpList_loadW (o := ⟨some 62, _, _, _, _, _⟩) 84 (.tmp 15) (by rfl) WC.heap.size 0 (by rfl) aggLog HLl.out r13 (by rfl) ?_)
                      | ((with_reducible show wpList _ _ _ (⟨some 63, _, _, _, _, _⟩ :: _) _ _); refine wpList_buildB (o := ⟨some 63, _, _, _, _, _⟩) (by rfl) 86 [(0, .tmp 59), (1, .tmp 60), (2, .tmp 61), (3, .tmp 62)] (by rfl) _ (by rfl) _ Hbt.out ?_)
                      | ((with_reducible show wpList _ _ _ (⟨some 64, _, _, _, _, _⟩ :: _) _ _); refine wpList_build1B (o := ⟨some 64, _, _, _, _, _⟩) (by rfl) (.tmp 63) 38 (by rfl) elFd _ FC (by rfl) rfl HFCl.out (by omega) ?_)
                      | ((with_reducible show wpList _ _ _ (⟨some 65, _, _, _, _, _⟩ :: _) _ _); refine wpList_appB (o := ⟨some 65, _, _, _, _, _⟩) (by rfl) (.tmp 57) (.tmp 64) 38 (by rfl) elFd HOne.out (by rfl) H2.out (by rfl) HRow.out HyS.out (by simp only [List.length_cons, List.length_nil]; rw [Hxn.out]; omega) (by simp only [List.length_cons, List.length_nil]; rw [Hxn.out]; unfold maxLen; omega) ?_; intro v' y6 o6 g6 _; obtain ⟨va', vc', rfl, _⟩ := o6.form' (xn + 1) (by rw [List.length_append, Hxn.out]; rfl)))
                    go_roundw
                    case rel => exact ⟨d + 1, by omega, by go_num, Lib.hid (HAp.out _ y6 o6 g6), HPp.out (.slice va' (xn + 1) vc') y6 g6, HCc.out (.slice va' (xn + 1) vc') y6 g6⟩
                    case measure => simp [intOf]; omega
                  | true =>
                    have f13 := fun (u : World) (hu : Below w12.heap.size w12 u) => show u.rangeAt w.heap.size 0 FLC from by rw [HFLC.out]; exact (i12.out.flt.kept hu).all0
                    have g13 := fun (u : World) (hu : Below w12.heap.size w12 u) => show u.rangeAt WB.heap.size 2 BC from by have := (c12.kept hu).range 2 32; rw [HRb.out] at this; exact this
                    have hQ : maB f r.bloom = Q := by rw [HQ.out, Hlk.out]; rfl
                    have cm2 := fun u hu => Cm1.out u (Below.then i12.out.b hu)
                    rw [hQ] at cm2
                    have F13 := Lib.hid f13
                    have G13 := Lib.hid g13
                    have Cm2 := Lib.hid cm2
                    clear f13 g13 cm2 hQ
                    cases Q with
                    | false =>
                      go_wp2_with (first
                        | ((with_reducible show wpList _ _ _ (⟨some 38, _, _, _, _, _⟩ :: _) _ _); refine wpList_loadW (o := ⟨some 38, _, _, _, _, _⟩) 36 (.tmp 5) (by rfl) w.heap.size 0 (by rfl) aggFl HFl.out f12 (by rfl) ?_)
                        | ((with_reducible show wpList _ _ _ (⟨some 39, _, _, _, _, _⟩ :: _) _ _); refine wpList_loadW (o := ⟨some 39, _, _, _, _, _⟩) 84 (.tmp 15) (by rfl) WC.heap.size 0 (by rfl) aggLog HLl.out r12 (by rfl) ?_)
                        | (go_at_call 34; (with_reducible refine ct2.out.mono ?_); rintro e w13 ⟨rfl, b13⟩)
                        | ((with_reducible show wpList _ _ _ (⟨some 45, _, _, _, _, _⟩ :: _) _ _); refine wpList_loadW (o := ⟨some 45, _, _, _, _, _⟩) 36 (.tmp 5) (by rfl) w.heap.size 0 (by rfl) aggFl HFl.out (F13.out w13 b13) (by rfl) ?_)
                        | ((with_reducible show wpList _ _ _ (⟨some 47, _, _, _, _, _⟩ :: _) _ _); refine wpList_loadW (o := ⟨some 47, _, _, _, _, _⟩) 43 (.tmp 46) (by rfl) WB.heap.size 2 (by rfl) aggHash' HBl.out (G13.out w13 b13) (by rfl) ?_)
                        | (go_at_call 35; (with_reducible refine (Cm2.out w13 b13).mono ?_); rintro e w14 ⟨rfl, b14⟩))
                      have b15 := Below.then b13 b14
                      go_roundw
                      case rel => exact ⟨d + 1, by omega, by go_num, Lib.hid ((i12.out.kept b15).to (by rw [Hst.out]; exact tkF_no f most _ F _ rfl)), p12.kept b15, c12.kept b15⟩
                      case measure => simp [intOf]; omega
                    | true =>
                      go_upto_region 12 with (first
                        | ((with_reducible show wpList _ _ _ (⟨some 38, _, _, _, _, _⟩ :: _) _ _); refine wpList_loadW (o := ⟨some 38, _, _, _, _, _⟩) 36 (.tmp 5) (by rfl) w.heap.size 0 (by rfl) aggFl HFl.out f12 (by rfl) ?_)
                        | ((with_reducible show wpList _ _ _ (⟨some 39, _, _, _, _, _⟩ :: _) _ _); refine wpList_loadW (o := ⟨some 39, _, _, _, _, _⟩) 84 (.tmp 15) (by rfl) WC.heap.size 0 (by rfl) aggLog HLl.out r12 (by rfl) ?_)
                        | (go_at_call 34; (with_reducible refine ct2.out.mono ?_); rintro e w13 ⟨rfl, b13⟩)
                        | ((with_reducible show wpList _ _ _ (⟨some 45, _, _, _, _, _⟩ :: _) _ _); refine wpList_loadW (o := ⟨some 45, _, _, _, _, _⟩) 36 (.tmp 5) (by rfl) w.heap.size 0 (by rfl) aggFl HFl.out (F13.out w13 b13) (by rfl) ?_)
                        | ((with_reducible show wpList _ _ _ (⟨some 47, _, _, _, _, _⟩ :: _) _ _); refine wpList_loadW (o := ⟨some 47, _, _, _, _, _⟩) 43 (.tmp 46) (by rfl) WB.heap.size 2 (by rfl) aggHash' HBl.out (G13.out w13 b13) (by rfl) ?_)
                        | (go_at_call 35; (with_reducible refine (Cm2.out w13 b13).mono ?_); rintro e w14 ⟨rfl, b14⟩))
                      have b15 := Below.then b13 b14
                      have i13 := i12.out.kept b15
                      have p13 := p12.kept b15
                      have c13 := c12.kept b15
                      have r13 := (h12.kept b15).all0
                      have e13 : w14.cell? ⟨WA.heap.size, 0, none⟩ = some (.int .u64 (p.num : Int)) := by rw [p13.cell 0]; exact HP0.out
                      have hxm : (tkF f most (herL lk ps a p c r d)).length < most.toNat := by rw [Hxn.out]; omega
                      have hap := fun (v' : Value) (y6 : World) (ho : OwnOf fdc 13 86 y6 w.heap.size v' (tkF f most (herL lk ps a p c r d) ++ [F])) (hg : (w14.alloc (.cells FC.toArray 86)).grownBy y6 (Value.slice va xn vc).ownBlock) => (i13.kept ((Below.refl _ _).alloc (Nat.le_refl _) _)).app (L' := herL lk ps a p c r (d + 1)) ho hg (by rw [Hst.out]; exact tkF_yes f most _ F _ rfl Hq1.out.symm hxm)
                      have hpp := fun (v' : Value) (y6 : World) (hg : (w14.alloc (.cells FC.toArray 86)).grownBy y6 (Value.slice va xn vc).ownBlock) => (p13.kept ((Below.refl _ _).alloc (Nat.le_refl _) (.cells FC.toArray 86))).grown hg ((i13.kept ((Below.refl _ _).alloc (Nat.le_refl _) (.cells FC.toArray 86))).out.notT (p13.kept ((Below.refl _ _).alloc (Nat.le_refl _) (.cells FC.toArray 86))) (by decide))
                      have hcc := fun (v' : Value) (y6 : World) (hg : (w14.alloc (.cells FC.toArray 86)).grownBy y6 (Value.slice va xn vc).ownBlock) => (c13.kept ((Below.refl _ _).alloc (Nat.le_refl _) (.cells FC.toArray 86))).grown hg ((i13.kept ((Below.refl _ _).alloc (Nat.le_refl _) (.cells FC.toArray 86))).out.notT (c13.kept ((Below.refl _ _).alloc (Nat.le_refl _) (.cells FC.toArray 86))) (by decide))
                      have H2 := Lib.hid (i13.kept ((Below.refl _ _).alloc (Nat.le_refl _) (.cells FC.toArray 86))).out
                      have HRow : Hid (RowOf fdc 13 (w14.alloc (.cells FC.toArray 86)) (.slice (some ⟨w14.heap.size, 0, none⟩) 1 1) [F]) := Lib.hid (by rw [HFC.out]; exact fd_row (Blk.new w14 _ _))
                      have HyS : Hid (w.heap.size ≤ (w14.alloc (.cells FC.toArray 86)).heap.size) := Lib.hid (by have := i13.b.size; simp only [World.size_alloc]; omega)
                      have HAp := Lib.hid hap
                      have HPp := Lib.hid hpp
                      have HCc := Lib.hid hcc
                      clear hap hpp hcc i13 p13 c13
                      go_wp2_with (first
                        | ((with_reducible show wpList _ _ _ (⟨some 62, _, _, _, _, _⟩ :: _) _ _); refine wpList_loadW (o := ⟨some 62, _, _, _, _, _⟩) 84 (.tmp 15) (by rfl) WC.heap.size 0 (by rfl) aggLog HLl.out r13 (by rfl) ?_)
                        | ((with_reducible show wpList _ _ _ (⟨some 63, _, _, _, _, _⟩ :: _) _ _); refine wpList_buildB (o := ⟨some 63, _, _, _, _, _⟩) (by rfl) 86 [(0, .tmp 59), (1, .tmp 60), (2, .tmp 61), (3, .tmp 62)] (by rfl) _ (by rfl) _ Hbt.out ?_)
                        | ((with_reducible show wpList _ _ _ (⟨some 64, _, _, _, _, _⟩ :: _) _ _); refine wpList_build1B (o := ⟨some 64, _, _, _, _, _⟩) (by rfl) (.tmp 63) 38 (by rfl) elFd _ FC (by rfl) rfl HFCl.out (by omega) ?_)
                        | ((with_reducible show wpList _ _ _ (⟨some 65, _, _, _, _, _⟩ :: _) _ _); refine wpList_appB (o := ⟨some 65, _, _, _, _, _⟩) (by rfl) (.tmp 57) (.tmp 64) 38 (by rfl) elFd HOne.out (by rfl) H2.out (by rfl) HRow.out HyS.out (by simp only [List.length_cons, List.length_nil]; rw [Hxn.out]; omega) (by simp only [List.length_cons, List.length_nil]; rw [Hxn.out]; unfold maxLen; omega) ?_; intro v' y6 o6 g6 _; obtain ⟨va', vc', rfl, _⟩ := o6.form' (xn + 1) (by rw [List.length_append, Hxn.out]; rfl)))
                      go_roundw
                      case rel => exact ⟨d + 1, by omega, by go_num, Lib.hid (HAp.out _ y6 o6 g6), HPp.out (.slice va' (xn + 1) vc') y6 g6, HCc.out (.slice va' (xn + 1) vc') y6 g6⟩
                      case measure => simp [intOf]; omega
                · have hno : ∀ q : Bool, (q && letB f F.l && decide ((tkF f most (herL lk ps a p c r d)).length < most.toNat)) = false := fun q => by rw [Hxn.out, show decide (xn < most.toNat) = false from by simp; omega]; simp
                  have Hno := Lib.hid hno
                  clear hno
                  cases skip with
                  | false =>
                    go_wp2_with (first
                      | ((with_reducible show wpList _ _ _ (⟨some 38, _, _, _, _, _⟩ :: _) _ _); refine wpList_loadW (o := ⟨some 38, _, _, _, _, _⟩) 36 (.tmp 5) (by rfl) w.heap.size 0 (by rfl) aggFl HFl.out f12 (by rfl) ?_)
                      | ((with_reducible show wpList _ _ _ (⟨some 39, _, _, _, _, _⟩ :: _) _ _); refine wpList_loadW (o := ⟨some 39, _, _, _, _, _⟩) 84 (.tmp 15) (by rfl) WC.heap.size 0 (by rfl) aggLog HLl.out r12 (by rfl) ?_)
                      | (go_at_call 34; (with_reducible refine ct2.out.mono ?_); rintro e w13 ⟨rfl, b13⟩))
                    go_roundw
                    case rel => exact ⟨d + 1, by omega, by go_num, Lib.hid ((i12.out.kept b13).to (by rw [Hst.out]; exact tkF_no f most _ F _ (Hno.out _))), p12.kept b13, c12.kept b13⟩
                    case measure => simp [intOf]; omega
                  | true =>
                    have f13 := fun (u : World) (hu : Below w12.heap.size w12 u) => show u.rangeAt w.heap.size 0 FLC from by rw [HFLC.out]; exact (i12.out.flt.kept hu).all0
                    have g13 := fun (u : World) (hu : Below w12.heap.size w12 u) => show u.rangeAt WB.heap.size 2 BC from by have := (c12.kept hu).range 2 32; rw [HRb.out] at this; exact this
                    have cm2 := fun u hu => Cm1.out u (Below.then i12.out.b hu)
                    obtain ⟨Q2, hQ2⟩ : ∃ q, q = maB f r.bloom := ⟨_, rfl⟩
                    rw [← hQ2] at cm2
                    have F13 := Lib.hid f13
                    have G13 := Lib.hid g13
                    have Cm2 := Lib.hid cm2
                    clear f13 g13 cm2 hQ2
                    cases Q2
                    all_goals
                      go_wp2_with (first
                        | ((with_reducible show wpList _ _ _ (⟨some 38, _, _, _, _, _⟩ :: _) _ _); refine wpList_loadW (o := ⟨some 38, _, _, _, _, _⟩) 36 (.tmp 5) (by rfl) w.heap.size 0 (by rfl) aggFl HFl.out f12 (by rfl) ?_)
                        | ((with_reducible show wpList _ _ _ (⟨some 39, _, _, _, _, _⟩ :: _) _ _); refine wpList_loadW (o := ⟨some 39, _, _, _, _, _⟩) 84 (.tmp 15) (by rfl) WC.heap.size 0 (by rfl) aggLog HLl.out r12 (by rfl) ?_)
                        | (go_at_call 34; (with_reducible refine ct2.out.mono ?_); rintro e w13 ⟨rfl, b13⟩)
                        | ((with_reducible show wpList _ _ _ (⟨some 45, _, _, _, _, _⟩ :: _) _ _); refine wpList_loadW (o := ⟨some 45, _, _, _, _, _⟩) 36 (.tmp 5) (by rfl) w.heap.size 0 (by rfl) aggFl HFl.out (F13.out w13 b13) (by rfl) ?_)
                        | ((with_reducible show wpList _ _ _ (⟨some 47, _, _, _, _, _⟩ :: _) _ _); refine wpList_loadW (o := ⟨some 47, _, _, _, _, _⟩) 43 (.tmp 46) (by rfl) WB.heap.size 2 (by rfl) aggHash' HBl.out (G13.out w13 b13) (by rfl) ?_)
                        | (go_at_call 35; (with_reducible refine (Cm2.out w13 b13).mono ?_); rintro e w14 ⟨rfl, b14⟩))
                      have b15 := Below.then b13 b14
                      go_roundw
                      case rel => exact ⟨d + 1, by omega, by go_num, Lib.hid ((i12.out.kept b15).to (by rw [Hst.out]; exact tkF_no f most _ F _ (Hno.out _))), p12.kept b15, c12.kept b15⟩
                      case measure => simp [intOf]; omega
            · obtain rfl : d = ln := by omega
              go_wp2_with fail
              go_roundw
              case rel => exact ⟨c + 1, by omega, by go_num, Lib.hid (by
                have := i11.out
                rw [← Hln.out, herL_end lk ps a p c r Hrc.out] at this
                exact this), hpg⟩
              case measure => simp [intOf]; omega
        · obtain rfl : c = rn := by omega
          go_wp2_with fail
          go_roundw
          case rel => exact ⟨a + 1, by omega, by go_num, Lib.hid (by
            have := i7.out
            rw [← Hrn.out, List.take_length] at this
            rw [pgF_step lk ps a hil, ← Hpe.out]
            exact this)⟩
          case measure => simp [intOf]; omega
    · obtain rfl : a = pn := by omega
      have hres := i1.out
      rw [← Hpn.out, List.take_length] at hres
      have Hres := Lib.hid hres
      obtain ⟨va, vc, rfl, _⟩ := hres.out.form
      clear hres
      go_wp2_with fail
      go_ret
      exact ⟨_, rfl, Hres.out.out, Hres.out.b⟩
end Go.Proofs.Ytljbbpcnoajfeaa
