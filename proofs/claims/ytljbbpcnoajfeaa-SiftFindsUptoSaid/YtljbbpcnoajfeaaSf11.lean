/- sift.gather. -/
import Derived.Test.YtljbbpcnoajfeaaSf10
set_option linter.unusedSimpArgs false
set_option linter.unusedVariables false
namespace Go.Proofs.Ytljbbpcnoajfeaa
open Go.RowKit
attribute [local go_sem] Oper.semAt_some
/-- what is told of what comes first -/
def firstF (f : Flt) (most : Int) (L : List Fdv) : List (Nat × Nat × Nat × List UInt8 × List Nat × List UInt8) := ((L.filter fun x => letB f x.l).take most.toNat).map tel
theorem ga_skip {w0 W : World} {f : Flt} {most : Int} {pre : List (FdA w0)} (h : GaI w0 f most pre W) (x : FdA w0) (hx : letB f x.v.l = false) : GaI w0 f most (pre ++ [x]) W := by
  refine ⟨h.b, h.flt, h.mst, ?_⟩
  obtain ⟨v, xs, h1, h2, h3⟩ := h.out
  exact ⟨v, xs, h1, h2, by rw [List.map_append, List.filter_append, List.map_cons, List.map_nil, List.filter_cons, hx, List.filter_nil]; simpa using h3⟩
theorem fl_skip {w0 : World} {f : Flt} {pre : List (FdA w0)} (x : FdA w0) (hx : letB f x.v.l = false) : (((pre ++ [x]).map FdA.v).filter fun x => letB f x.l).length = ((pre.map FdA.v).filter fun x => letB f x.l).length := by
  rw [List.map_append, List.filter_append, List.map_cons, List.map_nil, List.filter_cons, hx, List.filter_nil]; simp
theorem fl_more {w0 : World} {f : Flt} {pre : List (FdA w0)} (x : FdA w0) (hx : letB f x.v.l = true) : (((pre ++ [x]).map FdA.v).filter fun x => letB f x.l).length = ((pre.map FdA.v).filter fun x => letB f x.l).length + 1 := by
  rw [List.map_append, List.filter_append, List.map_cons, List.map_nil, List.filter_cons, hx, List.filter_nil]; simp
/-- own(x) as a value -/
def OwT (B : Nat) (x : Fdv) : Ty := fun v w => ∃ x' : Fdv, v = .agg (fdc x').toArray ∧ tel x' = tel x ∧ OwnLg w B x'.l
theorem OwT.mono (B : Nat) (x : Fdv) : Mono (OwT B x) := fun _ _ _ ⟨x', h1, h2, h3⟩ hb => ⟨x', h1, h2, h3.kept hb⟩
theorem good_oneFd {T : Ty} {o : Oper} {a : Act} {w : World} (x : Operand) (ho : o.op = .buildSlice 38 1 #[(0, x)]) (p : Fdv) (hx : a.eval x = .agg (fdc p).toArray) (hT : T (.slice (some ⟨w.heap.size, 0, none⟩) 1 1) (w.alloc (.cells (fdc p).toArray 86))) :
    goodUpon Try.prog T w ((execOp a.eval o).run Try.prog w) := by
  obtain ⟨i, hi, hz, hsi, _⟩ := elFd.info
  have hl := fdc_len p
  have hf := Great.fill_whole (s := 13) (by omega) [Value.agg (fdc p).toArray] ((Array.range (1 * 13)).map ((Value.agg z13.toArray).cells[· % (Value.agg z13.toArray).cells.size]!)) (fun u hu => by rw [List.mem_singleton] at hu; rw [hu]; simpa [Value.cells] using hl) (by simp)
  have e1 : ([Value.agg (fdc p).toArray].flatMap fun v => v.cells.toList).toArray = (fdc p).toArray := by simp [Value.cells]
  rw [e1] at hf
  unfold execOp
  have hr := run_buildSlice (P := Try.prog) w 38 86 1 (#[(0, x)].map fun (i, x) => (i, a.eval x)) (fdc p).toArray i _ elFd.ht hi hz (by rw [hsi]; omega) (by rw [hsi]; omega) (by rw [hsi, ← hf]; simp [hx])
  simp only [ho, Sem.run_bind, hr, Result.andThen_ok, Sem.run_pure]
  exact ⟨(Below.refl _ _).alloc (Nat.le_refl _) _, hT⟩
theorem fd_row {u : World} {g : Nat} {p : Fdv} (h : Blk 86 u g (fdc p)) : RowOf fdc 13 u (.slice (some ⟨g, 0, none⟩) 1 1) [p] :=
  Blk.row (f := fdc) (size := 13) h [p] 1 1 fdc_len rfl (fun j x hx => by simpa using hx) (Nat.le_refl _) (by unfold maxLen; omega)
/-- one own found log as a slice -/
def OsT (B : Nat) (x : Fdv) : Ty := fun v w => ∃ (x' : Fdv) (g : Nat), v = .slice (some ⟨g, 0, none⟩) 1 1 ∧ Blk 86 w g (fdc x') ∧ tel x' = tel x ∧ OwnLg w B x'.l
theorem OsT.mono (B : Nat) (x : Fdv) : Mono (OsT B x) := fun _ _ _ ⟨x', g, h1, h2, h3, h4⟩ hb => ⟨x', g, h1, h2.kept hb, h3, h4.kept hb⟩
set_option maxHeartbeats 8000000 in
set_option maxRecDepth 100000 in
theorem gather_any (f : Flt) (kf : f.Ok) (most : Int) (lk : Rcp → Bool) (gf : Nat) (lb : Array Value) (eg : ∀ args w, (callFunc gf args).run Try.prog w = .ok (.enter gf args) w) (v : Value) (ps : List Pgv) (kp : PgOk ps) (kt : (pgF lk ps).length ≤ 1048576) (w : World) (hp : Pgs w v ps) (hf : f.In w)
    (Cl : ∀ p ∈ ps, ∀ r ∈ p.rs, ∀ u, Below w.heap.size w u → Calls Try.prog gf (#[.agg (rpc r).toArray] ++ lb) u fun e w' => e = .returned (.bool (lk r)) ∧ Below u.heap.size u w') :
    Calls Try.prog 32 #[v, .agg (flc f).toArray, .int .i64 most, .func (.func gf) #[] lb] w fun e w' => ∃ u xs, e = .returned u ∧ FdL w' w.heap.size u xs ∧ xs.map tel = firstF f most (pgF lk ps) ∧ Below w.heap.size w w' := by
  refine (callsIn_wide (n := 8)).1 ?_
  show CallsIn (FW none) 8 _ _ _ _ _
  obtain ⟨pa, pc, rfl, _⟩ := hp.row.form
  obtain ⟨pn, hpn⟩ : ∃ n, n = ps.length := ⟨_, rfl⟩
  rw [← hpn] at hp ⊢
  have hB0 := Blk.new w 36 (flc f)
  have hB1 := Blk.new (w.alloc (.cells (flc f).toArray 36)) 3 [.int .i64 most]
  have hB2 := Blk.new ((w.alloc (.cells (flc f).toArray 36)).alloc (.cells #[.int .i64 most] 3)) 38 [.slice none 0 0]
  simp only [World.size_alloc] at hB1 hB2
  obtain ⟨w1, hw1⟩ : ∃ w1, w1 = (((w.alloc (.cells (flc f).toArray 36)).alloc (.cells #[.int .i64 most] 3)).alloc (.cells #[.slice none 0 0] 38)) := ⟨_, rfl⟩
  have hsz1 : w1.heap.size = w.heap.size + 3 := by rw [hw1]; simp only [World.size_alloc]
  have hbel : Below w.heap.size w w1 := by rw [hw1]; exact (((Below.refl _ _).alloc (Nat.le_refl _) _).alloc (by simp) _).alloc (by simp; omega) _
  have hg : GaI w f most [] w1 := by
    refine ⟨hbel, ?_, ?_, ⟨.slice none 0 0, [], ?_, ⟨OwnOf.nil _ _ _ _ _, fun x hx => by cases hx⟩, rfl⟩⟩
    · rw [hw1]; exact (hB0.alloc _).alloc _
    · rw [hw1]; exact hB1.alloc _
    · rw [hw1]; exact hB2
  clear hB0 hB1 hB2
  have hsl := slogs_any pa pn pc gf lb w1
  have Hsl := Lib.hid hsl
  have HG := Lib.hid hg
  have Hw1 := Lib.hid hw1
  have Hp := Lib.hid hp
  have Hpn := Lib.hid hpn
  have Hf := Lib.hid hf
  have HCl := Lib.hid Cl
  have Hbel := Lib.hid hbel
  obtain ⟨FLC, hFLC⟩ : ∃ C, C = flc f := ⟨_, rfl⟩
  have HFLC := Lib.hid hFLC
  rw [← hFLC] at hw1 ⊢
  have HWe := Lib.hid hw1
  clear hsl hg hw1 hp hpn hf Cl hbel hFLC
  refine callsIn_of_wp_marks Try.func32 rfl trivial ?_
  simp only [Try.ntmps32, List.size_toArray, List.length_cons, List.length_nil, Nat.reduceAdd, Nat.reduceSub, Array.replicate_succ, Array.replicate_zero, List.push_toArray, List.append_toArray, List.nil_append, List.cons_append]
  gi_upto_region 2 with fail
  rw [← HWe.out]
  have e1 : w1.cell? ⟨w.heap.size + 1, 0, none⟩ = some (.int .i64 most) := HG.out.mst.cell 0
  by_cases hm : most ≤ 0
  · have e2 : w1.cell? ⟨w.heap.size + 1 + 1, 0, none⟩ = some (.slice none 0 0) := by
      rw [Hw1.out]
      have := Blk.new ((w.alloc (.cells (flc f).toArray 36)).alloc (.cells #[.int .i64 most] 3)) 38 [.slice none 0 0]
      simp only [World.size_alloc] at this
      exact this.cell 0
    gi_wp2_with fail
    refine ⟨_, results_tmp rfl _ _ _, .slice none 0 0, [], rfl, ⟨OwnOf.nil _ _ _ _ _, fun x hx => by cases hx⟩, ?_, Hbel.out⟩
    unfold firstF
    rw [Int.toNat_of_nonpos hm, List.take_zero]
  · have hm' : 0 < most := by omega
    gi_wp2_with (gi_at_call 61; refine (callsFW Hsl.out).mono ?_; rintro e w2 ⟨rfl, rfl⟩)
    obtain ⟨w2, hw2⟩ : ∃ x, x = (w1.alloc (.cells #[.slice pa pn pc] 32)).alloc (.cells #[.func (.func gf) #[] lb] 92) := ⟨_, rfl⟩
    rw [← hw2]
    have hb12 : Below w1.heap.size w1 w2 := by rw [hw2]; exact ((Below.refl _ _).alloc (Nat.le_refl _) _).alloc (by simp) _
    have k1 : Blk 32 w2 (w.heap.size + 3) [.slice pa pn pc] := by
      rw [hw2, ← hsz1]; exact (Blk.new w1 32 [.slice pa pn pc]).alloc _
    have k2 : Blk 92 w2 (w.heap.size + 3 + 1) [.func (.func gf) #[] lb] := by
      rw [hw2, ← hsz1]
      have := Blk.new (w1.alloc (.cells #[.slice pa pn pc] 32)) 92 [.func (.func gf) #[] lb]
      rw [World.size_alloc] at this
      exact this
    have hsz2 : w2.heap.size = w.heap.size + 5 := by rw [hw2]; simp only [World.size_alloc]; omega
    have G2 := Lib.hid (HG.out.kept hb12)
    have hw02 : Below w.heap.size w w2 := Below.then Hbel.out hb12
    have L1 := logs1_in 7 (by omega) lk gf lb eg w (.slice pa pn pc) ps Hp.out kp HCl.out (w.heap.size + 3) (w.heap.size + 3 + 1) w2 hw02 k1 k2
    have hle : w.heap.size ≤ w2.heap.size := by omega
    clear k1 k2 hw2 Hw1 HWe e1 hb12 Hsl HG
    refine wpIn_rangeFunc_ownH (F := FW none) (n := 8) rfl (by omega) (gf := 94) (lb := #[.pointer (some ⟨w.heap.size + 3, 0, none⟩), .pointer (some ⟨w.heap.size + 3 + 1, 0, none⟩)]) rfl trivial (enters_of Try.func94 (by kernel_rfl) rfl)
      L1 Kp.tr (Kp.put hle) (Below.refl _ _) (fun _ => rfl)
      (fun pre W => GaI w f most pre W ∧ ((pre.map FdA.v).filter fun x => letB f x.l).length < most.toNat)
      (fun c pre W => c = .exit 0 ∧ GaI w f most pre W ∧ ((pre.map FdA.v).filter fun x => letB f x.l).length = most.toNat)
      (OwnFrom.and (gaOwn hle) (ownFrom_pure _ _)) (fun c => OwnFrom.and (ownFrom_pure _ (fun _ => c = .exit 0)) (OwnFrom.and (gaOwn hle) (ownFrom_pure _ _)))
      ⟨G2.out, by show 0 < most.toNat; omega⟩
      (fun x a' W => ∃ Bx, Blk 86 W Bx (fdc x.v) ∧ a' = { tmps := #[.slice pa pn pc, .agg FLC.toArray, .int .i64 most, .func (.func gf) #[] lb, undef, .pointer (some ⟨w.heap.size, 0, none⟩), .pointer (some ⟨w.heap.size + 1, 0, none⟩), undef, .slice none 0 0, .pointer (some ⟨w.heap.size + 1 + 1, 0, none⟩), .pointer (some ⟨Bx, 0, none⟩), .int .i64 most, .bool false, undef, .slice pa pn pc, .func (.func gf) #[] lb, .func (.func 94) #[] #[.pointer (some ⟨w.heap.size + 3, 0, none⟩), .pointer (some ⟨w.heap.size + 3 + 1, 0, none⟩)], .agg (fdc x.v).toArray, undef, undef, undef, undef, undef, undef, undef, undef, undef, undef, undef, undef, undef, undef, undef], defers := [] })
      (fun x a' _ W W' row ⟨Bx, h1, h2⟩ hg hr => ⟨Bx, Blk.grown h1 hg (h1.nc (fun r e => (hr r e).2)), h2⟩)
      ?assign ?body ?done ?stop
    case assign =>
      rintro l pre x W K ⟨hG, hlen⟩ hK
      obtain ⟨XC, hXC⟩ : ∃ C, C = fdc x.v := ⟨_, rfl⟩
      have hXl : XC.length = 13 := by rw [hXC]; exact fdc_len _
      have hXo : ∀ u ∈ XC, u.oneCell' = true := by
        obtain ⟨ta, tc, h1, _⟩ := x.ok.1.ht.form
        obtain ⟨da, dc, h2, _⟩ := x.ok.1.hd.form
        rw [hXC]; exact fdc_one _ ⟨_, _, _, h1⟩ ⟨_, _, _, h2⟩
      have hz := Blk.new W 86 z13
      rw [← hXC]
      rw [← hXC] at hK
      clear hXC
      show Code.wpIn (FW (some l)) 6 _ _ _ _ _
      refine regionFW (k := 2) (by rfl) ?_
      simp only [List.take_succ_cons, List.take_zero, List.drop_succ_cons, List.drop_zero]
      go_simp
      go_wp2_with ((with_reducible show wpList _ _ _ (⟨none, Op.store _ _ (Operand.tmp 17), _, _, _, _⟩ :: _) _ _); refine wpList_storeA (o := ⟨none, _, _, _, _, _⟩) (by rfl) 86 (.tmp 10) (.tmp 17) (by rfl) W.heap.size XC (by rfl) (by rfl) aggFd hz hXl (by rfl) hXo ((Below.refl W.heap.size W).alloc (Nat.le_refl _) _) (Nat.le_refl _) ?_; intro w5 h5 b5 _)
      exact ⟨rfl, hK _ _ (keeps_below _ b5) (Kp.below hG.b.size b5) ⟨hG.kept b5, hlen⟩ ⟨W.heap.size, h5, rfl⟩⟩
    case body =>
      rintro l pre x a' W hl _ ⟨hG, hlen⟩ ⟨Bx, hbx, rfl⟩ hlt
      have hmid : W.rangeAt Bx 3 (lgc x.v.l) := by have := hbx.range 3 10; rw [fdc_log] at this; exact this
      have cl := lets_any f kf x.v.l x.ok.2 W (Hf.out.kept hG.b) (x.ok.1.kept hG.b)
      have co := fun (u : World) (hu : Below w.heap.size w u) => fown_any x.v x.ok.2 u (x.ok.1.kept hu)
      obtain ⟨XC, hXC⟩ : ∃ C, C = fdc x.v := ⟨_, rfl⟩
      have hXl : XC.length = 13 := by rw [hXC]; exact fdc_len _
      obtain ⟨LC, hLC⟩ : ∃ C, C = lgc x.v.l := ⟨_, rfl⟩
      have hLl : LC.length = 10 := by rw [hLC]; exact lgc_len _
      have hFl : FLC.length = 2 := by rw [HFLC.out]; rfl
      have hflt := hG.flt
      rw [← HFLC.out] at hflt
      obtain ⟨q, hq⟩ : ∃ q, q = letB f x.v.l := ⟨_, rfl⟩
      rw [← hq, ← HFLC.out, ← hLC] at cl
      simp only [← hXC] at co
      rw [← hLC] at hmid
      rw [← hXC] at hbx ⊢
      have rF := hflt.all0
      have Cl := Lib.hid cl
      have Co := Lib.hid co
      have Hq := Lib.hid hq
      have Hmid := Lib.hid hmid
      have HXl := Lib.hid hXl
      have HLl := Lib.hid hLl
      have HFl := Lib.hid hFl
      have HG := Lib.hid hG
      have Hlen := Lib.hid hlen
      clear cl co hq hmid hXl hLl hFl hG hlen hXC hLC hflt L1
      show Code.wpIn (FW (some l)) 6 _ _ _ _ _
      gi_upto_region 6 with fail
      refine regionFW (k := 5) (by rfl) ?_
      simp only [List.take_succ_cons, List.take_zero, List.drop_succ_cons, List.drop_zero]
      go_wp2_with (first
        | ((with_reducible show wpList _ _ _ (⟨some 18, _, _, _, _, _⟩ :: _) _ _); refine wpList_loadW (o := ⟨some 18, _, _, _, _, _⟩) 36 (.tmp 5) (by rfl) w.heap.size 0 (by rfl) aggFl HFl.out rF (by rfl) ?_)
        | ((with_reducible show wpList _ _ _ (⟨some 20, _, _, _, _, _⟩ :: _) _ _); refine wpList_loadW (o := ⟨some 20, _, _, _, _, _⟩) 84 (.tmp 19) (by rfl) Bx 3 (by rfl) aggLog HLl.out Hmid.out (by rfl) ?_)
        | (go_at_call 62; (with_reducible refine Cl.out.mono ?_); rintro e w3 ⟨rfl, b3⟩))
      refine ⟨rfl, ?_⟩
      have G3 := Lib.hid (HG.out.kept b3)
      cases q with
      | false =>
        gi_wp2_with fail
        exact ⟨keeps_below _ b3, Kp.below HG.out.b.size b3, ga_skip G3.out x Hq.out.symm, by rw [fl_skip x Hq.out.symm]; exact Hlen.out⟩
      | true =>
        obtain ⟨v, xs, h1, h2, h3⟩ := G3.out.out
        obtain ⟨va, vc, rfl, _⟩ := h2.own.form
        have hxn : xs.length = ((pre.map FdA.v).filter fun x => letB f x.l).length := by have := congrArg List.length h3; simpa using this
        obtain ⟨xn, hxn2⟩ : ∃ n, n = xs.length := ⟨_, rfl⟩
        rw [← hxn2] at h1
        have hv0 : Value.slice va xs.length vc = .slice va xn vc := by rw [hxn2]
        rw [hv0] at h2
        have hxm : xn < most.toNat := by rw [hxn2, hxn]; exact Hlen.out
        have hxk : xn ≤ 1048576 := by
          have := List.length_filter_le (fun x => letB f x.l) (pre.map FdA.v)
          rw [List.length_map] at this
          rw [hxn2, hxn]
          omega
        have c9 : w3.cell? ⟨w.heap.size + 1 + 1, 0, none⟩ = some (.slice va xn vc) := h1.cell 0
        have k9 := fun u : Ext w3 => u.cell c9
        have r10 := (hbx.kept b3).all0
        have H2 := Lib.hid h2
        have H3 := Lib.hid h3
        have Hxn := Lib.hid hxn
        have Hxn2 := Lib.hid hxn2
        clear h2 h3 hxn hxn2 hv0 rF hlt
        gi_upto_region 7 with fail
        refine regionFW_typed w3 4 (by kernel_rfl) (by kernel_rfl) (by rfl) (Below.refl _ _) (fun _ _ h => h) ?_
        simp only [List.take_succ_cons, List.take_zero, List.take_nil]
        (refine wpX_step (by rfl) (fun K hK => ?_); go_simp; first | (refine hK _ ?_; clear hK K) | (apply Exists.intro; refine ⟨fun _ => ?_, hK _ ?_⟩; fail; clear hK K))
        (refine wpX_step (by rfl) (fun K hK => ?_); rw [if_pos (by rfl)]; refine ⟨_, fun u => const_loadm _ (.tmp 10) (by rfl) _ _ (by rfl) aggFd HXl.out (rangeAt.ext r10 u), hK _ ?_⟩; clear hK K; simp only [Act.put, List.setIfInBounds_toArray, List.set_cons_zero, List.set_cons_succ])
        refine wpX_rel 25 (OwT w.heap.size x.v) rfl (of_decide_eq_true rfl) (OwT.mono _ _) (fun u hu => ?_) ?_
        · simp only [relOf, List.filter_nil, List.filter_cons, forallRel]
          refine ⟨rfl, ?_⟩
          go_simp
          refine (Co.out u (Below.then G3.out.b hu)).mono ?_
          rintro e w8 ⟨x', rfl, ht, hl8, b8⟩
          exact ⟨_, rfl, ⟨x', rfl, ht, hl8.lower (Nat.le_trans G3.out.b.size hu.size)⟩, b8⟩
        refine wpX_rel 26 (OsT w.heap.size x.v) rfl (of_decide_eq_true rfl) (OsT.mono _ _) (fun u hu => ?_) ?_
        · change forallRel u [(25, _)] _ _
          rintro v25 ⟨x', rfl, ht, hl8⟩
          simp only [forallRel]
          refine ⟨by rfl, ?_⟩
          exact good_oneFd (o := ⟨some 26, _, _, _, _, _⟩) (.tmp 25) (by rfl) x' (by rfl) ⟨x', u.heap.size, rfl, Blk.new u _ _, ht, hl8.kept ((Below.refl _ _).alloc (Nat.le_refl _) _)⟩
        refine wpX_nil ?_
        intro y b y25 _ y26 h26
        change wpList _ _ _ [_, _] _ _
        try simp only [Act.put, List.setIfInBounds_toArray, List.set_cons_zero, List.set_cons_succ]
        obtain ⟨x', g, rfl, hblk, ht', hl'⟩ := h26
        have Gy := Lib.hid (G3.out.kept b)
        have h1y := h1.kept b
        have hby : Below W.heap.size W y := Below.then b3 b
        have H2y := Lib.hid (H2.out.kept b)
        have hone : ∀ u ∈ [x'].flatMap fdc, u.oneCell' = true := by
          obtain ⟨ta, tc, e1, _⟩ := hl'.t.form
          obtain ⟨da, dc, e2, _⟩ := hl'.d.form
          simpa using fdc_one x' ⟨_, _, _, e1⟩ ⟨_, _, _, e2⟩
        have happ := fun (v' : Value) (y6 : World) (ho : OwnOf fdc 13 86 y6 w.heap.size v' (xs ++ [x'])) (hg : y.grownBy y6 (Value.slice va xn vc).ownBlock) => ga_app Gy.out h1y H2y.out H3.out x Hq.out.symm x' ht' hl' ho hg
        have HApp := Lib.hid happ
        have HOne := Lib.hid hone
        have HRow := Lib.hid (fd_row hblk)
        have HyS := Lib.hid (Below.then G3.out.b b).size
        have h1c : y.cell? ⟨w.heap.size + 1 + 1, 0, none⟩ = some (.slice va xn vc) := h1y.cell 0
        clear k9 c9 r10 h1 happ hone hblk ht' hl'
        go_wp2_with (refine wpList_appB (o := ⟨some 27, _, _, _, _, _⟩) (by rfl) (.tmp 23) (.tmp 26) 38 (by rfl) elFd HOne.out (by rfl) H2y.out.own (by rfl) HRow.out HyS.out (by simp only [List.length_cons, List.length_nil]; rw [← Hxn2.out]; omega) (by simp only [List.length_cons, List.length_nil]; rw [← Hxn2.out]; unfold maxLen; omega) ?_; intro v' y6 o6 g6 _; obtain ⟨va', vc', rfl, _⟩ := o6.form' (xn + 1) (by rw [List.length_append, ← Hxn2.out]; rfl); obtain ⟨q6, q7, q8, q9, q10⟩ := HApp.out _ y6 o6 g6; have c6 := q6.cell 0; have f6 := q6.free 0)
        change NormQ _ _ _ (y6.setCell ⟨w.heap.size + 2, 0, none⟩ (.slice va' (xn + 1) vc'))
        obtain ⟨W7, hW7⟩ : ∃ x, x = y6.setCell ⟨w.heap.size + 2, 0, none⟩ (.slice va' (xn + 1) vc') := ⟨_, rfl⟩
        rw [← hW7] at q7 q8 q9 q10 ⊢
        have hlm : ((((pre ++ [x]).map FdA.v).filter fun x => letB f x.l).length) = xn + 1 := by rw [fl_more x Hq.out.symm, ← Hxn.out, ← Hxn2.out]
        have hkf : KeepsFrom w2.heap.size W W7 := (keeps_below _ hby).trans (q9.from _)
        have hkp : Kp w W W7 := Kp.tr (Kp.below HG.out.b.size hby) q10
        have c9 : W7.cell? ⟨w.heap.size + 1 + 1, 0, none⟩ = some (.slice va' (xn + 1) vc') := q8.cell 0
        have c10 : W7.cell? ⟨w.heap.size + 1, 0, none⟩ = some (.int .i64 most) := q7.mst.cell 0
        have Q7 := Lib.hid q7
        have Hlm := Lib.hid hlm
        have Hkf := Lib.hid hkf
        have Hkp := Lib.hid hkp
        clear hW7 q6 q7 q8 q9 q10 o6 g6 c6 f6 h1c h1y hlm hkf hkp hby
        refine ⟨rfl, ?_⟩
        by_cases he : (xn : Int) + 1 = most
        · have hq : ((xn : Int) + 1 == most) = true := by simp [he]
          gi_wp2_with fail
          exact ⟨Hkf.out, rfl, Q7.out, by rw [Hlm.out]; omega⟩
        · have hq : ((xn : Int) + 1 == most) = false := by simp [he]
          gi_wp2_with fail
          exact ⟨Hkf.out, Hkp.out, Q7.out, by rw [Hlm.out]; omega⟩
    case done =>
      rintro D xs W hD hS ⟨hG, hlen⟩ hK
      obtain ⟨v, ys, h1, h2, h3⟩ := hG.out
      obtain ⟨va, vc, rfl, _⟩ := h2.own.form
      have c9 : W.cell? ⟨w.heap.size + 1 + 1, 0, none⟩ = some (.slice va ys.length vc) := h1.cell 0
      have hnc : NoCells W (some D) := fun r e => by cases e; exact ⟨_, hK, rfl⟩
      have G8 := hG.nc (grownBy_putObj' W D (.deferred none)) hnc (fun r e => by cases e; omega)
      have F8 := h2.nc (grownBy_putObj' W D (.deferred none)) hnc
      have htl : ys.map tel = firstF f most (pgF lk ps) := by
        unfold firstF
        rw [h3, hS, List.take_of_length_le]
        rw [hS] at hlen
        omega
      have G8' := Lib.hid G8
      have F8' := Lib.hid F8
      have Htl := Lib.hid htl
      clear G8 F8 htl h1 h2 h3 hG hnc
      gi_wp2_with fail
      refine ⟨by simp, .inl ⟨_, _, rfl, run_takeDeferred hK, ?_⟩⟩
      exact ⟨_, results_tmp rfl _ _ _, .slice va ys.length vc, ys, rfl, F8'.out, Htl.out, G8'.out.b⟩
    case stop =>
      rintro D c pre W hD hSp ⟨rfl, hG, hlen⟩ hK
      obtain ⟨v, ys, h1, h2, h3⟩ := hG.out
      obtain ⟨va, vc, rfl, _⟩ := h2.own.form
      have c9 : W.cell? ⟨w.heap.size + 1 + 1, 0, none⟩ = some (.slice va ys.length vc) := h1.cell 0
      have hnc : NoCells W (some D) := fun r e => by cases e; exact ⟨_, hK, rfl⟩
      have G8 := hG.nc (grownBy_putObj' W D (.deferred none)) hnc (fun r e => by cases e; omega)
      have F8 := h2.nc (grownBy_putObj' W D (.deferred none)) hnc
      have htl : ys.map tel = firstF f most (pgF lk ps) := by
        unfold firstF
        have hpf := hSp.filter (fun x => letB f x.l)
        rw [h3, ← hlen, ← List.prefix_iff_eq_take.1 hpf]
      have G8' := Lib.hid G8
      have F8' := Lib.hid F8
      have Htl := Lib.hid htl
      clear G8 F8 htl h1 h2 h3 hG hnc
      gi_wp2_with fail
      refine ⟨by simp, .inl ⟨_, _, rfl, run_takeDeferred hK, ?_⟩⟩
      exact ⟨_, results_tmp rfl _ _ _, .slice va ys.length vc, ys, rfl, F8'.out, Htl.out, G8'.out.b⟩
end Go.Proofs.Ytljbbpcnoajfeaa
