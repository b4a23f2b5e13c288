/- The reference's LtPlay. (gen_lp.py prints this text.) -/
import Derived.Test.YtgjgokcpampljaaLpA
set_option linter.unusedSimpArgs false
set_option linter.unusedVariables false
namespace Go.Proofs.Ytgjgokcpampljaa
open Go.RowKit
theorem RowOf.from1 {α : Type} {f : α → List Value} {P : Program} {t e : TypeId} {z : Value} {size bytes : Nat} (el : El0 P t e z size bytes f) {w : World} {a : Option Addr} {n c : Nat} {l : List α} (h : RowOf f size w (.slice a n c) l) (lo : Nat) (h1 : lo ≤ n) (x : Int) (hx : x = lo) :
    ∃ a' c', (∀ k w', (Instr.slice t (.slice a n c) (some (.int k x)) none none).run P w' = .ok (.slice a' (n - lo) c') w') ∧ RowOf f size w (.slice a' (n - lo) c') (l.drop lo) := by
  subst hx
  obtain ⟨hn, hnc, hcm⟩ := h.fits
  obtain ⟨a', c', h2, h3⟩ := h.part el.hf el.hsz lo n h1 (Nat.le_refl _)
  obtain ⟨i, hi, _, hsi, _⟩ := el.info
  have hel : P.elem t = e := by unfold Program.elem; rw [el.ht]
  refine ⟨a', c', fun k w' => ?_, by subst hn; simpa using h3⟩
  rw [run_slice_l (P := P) w' (t := t) (a := a) (len := n) (cap := c) (by rw [hel]; exact el.ht) k (lo : Int) (by omega) (by omega)]
  rw [hel]
  simp [Go.sizeOf, typeInfo, hi, hsi, ← h2]
theorem take_loadM {P : Program} {ops : Array Oper} {S : World → Prop} {o : Oper} {a : Act} {K : Act → Prop} {E : Prop} (hgd : o.guard = none) (ty : TypeId) (x : Operand) (ho : o.op = .load ty x) (b off : Nat) (hx : a.eval x = .pointer (some ⟨b, off, none⟩)) {n : Nat} (hty : Agg P ty n)
    {cs : List Value} (hc : ∀ u, S u → u.rangeAt b off cs) (hn : cs.length = n) (h : K (a.put o.dst (.agg cs.toArray))) : if Region.wanted o (yielded ops a.tmps) then constI P S o a K else E := by
  have hw : Region.wanted o (yielded ops a.tmps) = true := by simp [Region.wanted, hgd]
  rw [if_pos hw]
  refine ⟨_, fun u => ?_, h⟩
  obtain ⟨d, h1, h2, h3⟩ := hty
  unfold constAtI execOp
  simp only [ho, hx, Instr.loadAt, Instr.sureAddr, Sem.run_bind, Sem.run_pure, Result.andThen_ok, run_loadVar_mid (P := P) u.val b off ty cs d (hc _ u.held) h1 (by cases d <;> simp_all) (by rw [h3, hn])]
theorem elUp : El0 Try.prog 43 33 (.agg Try.zeroCells33) 206 264 upc := ⟨by kernel_rfl, by kernel_rfl, by kernel_rfl, by omega, upc_len⟩
theorem er_one' (l : List Nat) : ∀ u ∈ l.flatMap er, u.oneCell' = true := by
  intro u hu
  rw [List.mem_flatMap] at hu
  obtain ⟨x, _, hx⟩ := hu
  simp only [er, List.mem_singleton] at hx
  subst hx; rfl
/-- what playing answers: the rows out of the arguments -/
def PlG (W0 w : World) (e : Ending) (w' : World) (R : Sto × List Nat) : Prop := ∃ xa xn xc ya yn yc vo, e = .returned (.tuple #[.agg (hdcs R.1.hd ++ [Value.slice xa xn xc, Value.slice ya yn yc]).toArray, vo]) ∧ RowOf u64c 1 W0 (.slice xa xn xc) R.1.s ∧ RowOf u64c 1 W0 (.slice ya yn yc) R.1.n ∧ OwnOf er 1 35 w' 0 vo R.2 ∧ Below w.heap.size w w'
def StT (re : Nat) (R : Sto) (W0 : World) : Ty := fun v _ => ∃ xa xn xc ya yn yc, v = .tuple #[.agg (hdcs R.hd ++ [Value.slice xa xn xc, Value.slice ya yn yc]).toArray, .int .i64 (re : Int)] ∧ RowOf u64c 1 W0 (.slice xa xn xc) R.s ∧ RowOf u64c 1 W0 (.slice ya yn yc) R.n
theorem StT.mono (re : Nat) (R : Sto) (W0 : World) : Mono (StT re R W0) := fun _ _ _ h _ => h
def AgT (R : Sto) (W0 : World) : Ty := fun v _ => ∃ xa xn xc ya yn yc, v = .agg (hdcs R.hd ++ [Value.slice xa xn xc, Value.slice ya yn yc]).toArray ∧ RowOf u64c 1 W0 (.slice xa xn xc) R.s ∧ RowOf u64c 1 W0 (.slice ya yn yc) R.n
theorem AgT.mono (R : Sto) (W0 : World) : Mono (AgT R W0) := fun _ _ _ h _ => h
def PlT (R : Sto × List Nat) (W0 : World) : Ty := fun v w => ∃ xa xn xc ya yn yc a n c, v = .tuple #[.agg (hdcs R.1.hd ++ [Value.slice xa xn xc, Value.slice ya yn yc]).toArray, .slice a n c] ∧ RowOf u64c 1 W0 (.slice xa xn xc) R.1.s ∧ RowOf u64c 1 W0 (.slice ya yn yc) R.1.n ∧ OwnOf er 1 35 w 0 (.slice a n c) R.2
theorem PlT.mono (R : Sto × List Nat) (W0 : World) : Mono (PlT R W0) := fun _ _ _ ⟨xa, xn, xc, ya, yn, yc, a, n, c, h1, h2, h3, h4⟩ hb => ⟨xa, xn, xc, ya, yn, yc, a, n, c, h1, h2, h3, h4.kept hb⟩
def ErT (L : List Nat) : Ty := fun v w => ∃ a n c, v = .slice a n c ∧ OwnOf er 1 35 w 0 (.slice a n c) L
theorem ErT.mono (L : List Nat) : Mono (ErT L) := fun _ _ _ ⟨a, n, c, h1, h4⟩ hb => ⟨a, n, c, h1, h4.kept hb⟩
set_option maxHeartbeats 4000000 in
set_option maxRecDepth 100000 in
theorem ltplay_any (V : List Vt) (hvs : V.length ≤ 140737488355328) (va : Option Addr) (vc : Nat) (W0 : World) (hv : RowOf vtc 33 W0 (.slice va V.length vc) V) : ∀ (us : List UpS) (t : Sto) (_ : t.In) (_ : ∀ x ∈ us, x.val.1.Ok) (ua : Option Addr) (uc : Nat) (_ : us.length ≤ 1099511627776) (vs vn : Value) (w : World) (_ : Below W0.heap.size W0 w)
    (_ : RowOf u64c 1 W0 vs t.s) (_ : RowOf u64c 1 W0 vn t.n) (_ : RowOf upc 206 W0 (.slice ua us.length uc) us) (_ : ∀ x ∈ us, RowOf u64c 1 W0 x.val.2 x.val.1.n),
    Calls Try.prog 22 #[.agg (hdcs t.hd ++ [vs, vn]).toArray, .slice ua us.length uc, .slice va V.length vc] w fun e w' => PlG W0 w e w' (plA V t (us.map (·.val.1))) := by
  intro us
  induction us with
  | nil =>
    intro t k _ ua uc _ vs vn w hW h1 h2 _ _
    obtain ⟨sa, sc, rfl, _⟩ := h1.form
    obtain ⟨na, nc, rfl, _⟩ := h2.form
    have hlC := stc_len k.hd (Value.slice sa t.s.length sc) (Value.slice na t.n.length nc)
    have hC1 := stc_one t.hd sa t.s.length sc na t.n.length nc
    obtain ⟨C, hC⟩ : ∃ C, hdcs t.hd ++ [Value.slice sa t.s.length sc, Value.slice na t.n.length nc] = C := ⟨_, rfl⟩
    have HC := Lib.hid hC
    rw [hC] at hlC hC1 ⊢
    obtain ⟨w2, hw2⟩ : ∃ w2, w2 = (w.alloc (.cells C.toArray 31)).alloc (.cells Try.zeroCells31 31) := ⟨_, rfl⟩
    have z1 : Blk 31 w2 w.heap.size C := by rw [hw2]; exact (Blk.new w _ _).alloc _
    have z2 : Blk 31 w2 (w.heap.size + 1) zst := by
      have := Blk.new (w.alloc (.cells C.toArray 31)) 31 zst
      simp only [World.size_alloc] at this
      rw [hw2, zcSt]
      exact this
    have hbel : Below w.heap.size w w2 := by rw [hw2]; exact ((Below.refl _ _).alloc (Nat.le_refl _) _).alloc (by simp) _
    have hsz : w.heap.size + 2 ≤ w2.heap.size := by rw [hw2]; simp
    have HSZ := Lib.hid hsz
    have Hw2 := Lib.hid hw2
    have Hbel := Lib.hid hbel
    have H1 := Lib.hid h1
    have H2 := Lib.hid h2
    have HW := Lib.hid hW
    clear hw2 h1 h2 hC hW hsz
    go_enter Try.func22, Try.ntmps22
    go_wp2_with (first
      | (rw [← Hw2.out])
      | ((with_reducible show wpList _ _ _ (⟨some 15, _, _, _, _, _⟩ :: _) _ _); refine wpList_loadA (o := ⟨some 15, _, _, _, _, _⟩) (by rfl) 31 (.tmp 3) (by rfl) w.heap.size (by rfl) aggSt z1 hlC ?_)
      | ((with_reducible show wpList _ _ _ (⟨none, Op.store _ _ (Operand.tmp 15), _, _, _, _⟩ :: _) _ _); refine wpList_storeA (o := ⟨none, _, _, _, _, _⟩) (by rfl) 31 (.tmp 6) (.tmp 15) (by rfl) (w.heap.size + 1) C (by rfl) (by rfl) aggSt z2 hlC zst_len hC1 Hbel.out (by omega) ?_; intro w9 hh9 hbel9 _))
    exact bodyPost_ret (v := .tuple #[.agg C.toArray, .slice none 0 0]) (results_blk_tmp rfl _ _ (w.heap.size + 1) aggSt hh9 hlC rfl rfl) rfl ⟨_, _, _, _, _, _, _, by rw [← HC.out]; rfl, H1.out, H2.out, OwnOf.nil er 1 _ _ _, hbel9⟩
  | cons x us ih =>
    intro t k hus ua uc hub vs vn w hW h1 h2 hu hur
    rw [List.length_cons] at hub hu ⊢
    obtain ⟨sa, sc, rfl, _⟩ := h1.form
    obtain ⟨na, nc, rfl, _⟩ := h2.form
    have hlC := stc_len k.hd (Value.slice sa t.s.length sc) (Value.slice na t.n.length nc)
    have hC1 := stc_one t.hd sa t.s.length sc na t.n.length nc
    obtain ⟨C, hC⟩ : ∃ C, hdcs t.hd ++ [Value.slice sa t.s.length sc, Value.slice na t.n.length nc] = C := ⟨_, rfl⟩
    have HC := Lib.hid hC
    rw [hC] at hlC hC1 ⊢
    obtain ⟨w2, hw2⟩ : ∃ w2, w2 = (w.alloc (.cells C.toArray 31)).alloc (.cells Try.zeroCells31 31) := ⟨_, rfl⟩
    have z1 : Blk 31 w2 w.heap.size C := by rw [hw2]; exact (Blk.new w _ _).alloc _
    have z2 : Blk 31 w2 (w.heap.size + 1) zst := by
      have := Blk.new (w.alloc (.cells C.toArray 31)) 31 zst
      simp only [World.size_alloc] at this
      rw [hw2, zcSt]
      exact this
    have hbel : Below w.heap.size w w2 := by rw [hw2]; exact ((Below.refl _ _).alloc (Nat.le_refl _) _).alloc (by simp) _
    have hsz : w.heap.size + 2 ≤ w2.heap.size := by rw [hw2]; simp
    have HSZ := Lib.hid hsz
    have Hw2 := Lib.hid hw2
    have Hbel := Lib.hid hbel
    have H1 := Lib.hid h1
    have H2 := Lib.hid h2
    have HW := Lib.hid hW
    clear hw2 h1 h2 hC hW hsz
    obtain ⟨b, off, rfl, hr⟩ := RowOf.range upc_len ((hu.below HW.out).below hbel) 0 (by simp)
    obtain ⟨a5, c5, run5, row5⟩ := RowOf.from1 elUp hu 1 (by omega) 1 rfl
    have row5 : RowOf upc 206 W0 (.slice a5 us.length c5) us := row5
    have run5 : ∀ k w', (Instr.slice 43 (.slice (some ⟨b, off, none⟩) (us.length + 1) uc) (some (.int k 1)) none none).run Try.prog w' = .ok (.slice a5 us.length c5) w' := run5
    have hxu := hus x List.mem_cons_self
    have hxr := hur x List.mem_cons_self
    have IH : Hid (∀ (t' : Sto) (_ : t'.In) (vs' vn' : Value) (u : World) (_ : Below W0.heap.size W0 u) (_ : RowOf u64c 1 W0 vs' t'.s) (_ : RowOf u64c 1 W0 vn' t'.n), _) := Lib.hid fun t' k' vs' vn' u hu' h1' h2' => ih t' k' (fun y hy => hus y (List.mem_cons_of_mem _ hy)) a5 c5 (by omega) vs' vn' u hu' h1' h2' row5 (fun y hy => hur y (List.mem_cons_of_mem _ hy))
    rw [List.map_cons, plA]
    have hGin := goOn_in (V := V) k hxu
    obtain ⟨⟨p, vu⟩, hp⟩ := x
    change p.Ok at hxu
    change RowOf u64c 1 W0 vu p.n at hxr
    change (goOn V t p).In at hGin
    change w2.rangeAt b (off + 0 * 206) (updc p.hd p.mask vu) at hr
    rw [Nat.zero_mul, Nat.add_zero] at hr
    have AP : Hid (∀ u, Below W0.heap.size W0 u → Calls Try.prog 16 #[.agg C.toArray, .agg (updc p.hd p.mask vu).toArray, .slice va V.length vc] u fun e w' => ∃ xa xn xc ya yn yc, e = .returned (.tuple #[.agg (hdcs (ltA t p V).2.hd ++ [Value.slice xa xn xc, Value.slice ya yn yc]).toArray, .int .i64 ((ltA t p V).1 : Int)]) ∧ RowOf u64c 1 W0 (.slice xa xn xc) (ltA t p V).2.s ∧ RowOf u64c 1 W0 (.slice ya yn yc) (ltA t p V).2.n ∧ Below u.heap.size u w') := Lib.hid fun u hu' => by
      rw [← HC.out]
      refine (ltapply_gen t k p hxu V hvs va vc _ _ vu u (H1.out.below hu') (H2.out.below hu') (hxr.below hu') (hv.below hu')).mono ?_
      rintro e w' ⟨xs, xn, e1, e2, e3⟩
      obtain ⟨f1, f2⟩ := e2 W0 H1.out H2.out hxr
      obtain ⟨xa, xc, rfl, _⟩ := f1.form
      obtain ⟨ya, yc, rfl, _⟩ := f2.form
      exact ⟨_, _, _, _, _, _, e1, f1, f2, e3⟩
    have hupl := updc_len hxu.hd p.mask vu
    have hRk : (ltA t p V).2.hd.Ok := ltA_ok hxu
    have hGo : goOn V t p = if (ltA t p V).1 = 0 then (ltA t p V).2 else t := rfl
    have HGI := Lib.hid hGin
    obtain ⟨⟨re, R⟩, hR⟩ : ∃ R, ltA t p V = R := ⟨_, rfl⟩
    rw [hR] at AP hRk hGo
    rw [hR]
    change R.hd.Ok at hRk
    change goOn V t p = if re = 0 then R else t at hGo
    have RK := Lib.hid hRk
    obtain ⟨G, hG⟩ : ∃ G, goOn V t p = G := ⟨_, rfl⟩
    rw [hG] at hGo HGI ⊢
    have IH2 := Lib.hid (IH.out G HGI.out)
    obtain ⟨P2, hP2⟩ : ∃ P2, plA V G (us.map (·.val.1)) = P2 := ⟨_, rfl⟩
    have hPl : P2.2.length = us.length := by rw [← hP2, plA_len, List.length_map]
    have HPL := Lib.hid hPl
    have HUB := Lib.hid hub
    have hGk := HGI.out.hd
    have hPk : P2.1.In := by rw [← hP2]; exact plA_in HGI.out (fun u hu => by obtain ⟨y, hy, rfl⟩ := List.mem_map.1 hu; exact hus y (List.mem_cons_of_mem _ hy))
    have PK := Lib.hid hPk
    rw [hP2] at IH2 ⊢
    generalize updc p.hd p.mask vu = D at *
    obtain ⟨tsn, htsn⟩ : ∃ x, t.s.length = x := ⟨_, rfl⟩
    obtain ⟨tnn, htnn⟩ : ∃ x, t.n.length = x := ⟨_, rfl⟩
    rw [htsn] at H1 HC
    rw [htnn] at H2 HC
    clear htsn htnn
    generalize hul : us.length = ul at *
    have h01 : decide ((0 : Int) < ((ul + 1 : Nat) : Int)) = true := decide_eq_true (by omega)
    have h0e : (((ul + 1 : Nat) : Int) == 0) = false := by rw [beq_eq_false_iff_ne]; omega
    have RC := Lib.hid (Blk.all0 z1)
    have RU := Lib.hid hr
    have b02 := Lib.hid (Below.then HW.out Hbel.out)
    clear hu hur hus ih hr hxu hxr IH hGin hG hP2 hPl hR hRk hul row5 hPk hub hvs
    go_enter Try.func22, Try.ntmps22
    go_wp2_with (rw [← Hw2.out])
    refine wp_region_h ((fun u => Below w2.heap.size w2 u)) (by kernel_rfl) ?_; intro u0 hu0; simp only [List.length_cons, List.length_nil, Nat.reduceAdd, List.replicate_succ, List.replicate_zero]
    have hS0 : Below w2.heap.size w2 u0 := (by rw [hu0]; exact (Below.refl _ _).drew)
    clear hu0
    refine wpH_take 0 (by rfl) (by kernel_rfl) (by intro _ _ _ h; first | exact h | (cases h.1)) (by intro _ _ _ _ h; first | exact h | (cases h.1)) (by assumption) (fun K hK => ?_)
    simp only [List.setIfInBounds_toArray, List.set_cons_zero, List.set_cons_succ] at hK
    refine take_loadA (by rfl) 31 (.tmp 3) (by rfl) w.heap.size (by rfl) aggSt (fun u hu => z1.kept hu) hlC (hK _ ?_)
    clear hK K
    try simp only [Act.put, List.getElem_toArray, List.getElem_cons_zero, List.getElem_cons_succ, List.setIfInBounds_toArray, List.set_cons_zero, List.set_cons_succ]
    (refine wpH_take 1 (by rfl) (by kernel_rfl) (by intro _ _ _ h; first | exact h | (cases h.1)) (by intro _ _ _ _ h; first | exact h | (cases h.1)) (by assumption) (fun K hK => ?_); simp only [List.setIfInBounds_toArray, List.set_cons_zero, List.set_cons_succ] at hK; go_simp; first | (refine hK _ ?_; clear hK K) | (apply Exists.intro; refine ⟨fun _ => rfl, hK _ ?_⟩; clear hK K)); (refine wpH_take 2 (by rfl) (by kernel_rfl) (by intro _ _ _ h; first | exact h | (cases h.1)) (by intro _ _ _ _ h; first | exact h | (cases h.1)) (by assumption) (fun K hK => ?_); simp only [List.setIfInBounds_toArray, List.set_cons_zero, List.set_cons_succ] at hK; go_simp; first | (refine hK _ ?_; clear hK K) | (apply Exists.intro; refine ⟨fun _ => rfl, hK _ ?_⟩; clear hK K))
    refine wpH_take 3 (by rfl) (by kernel_rfl) (by intro _ _ _ h; first | exact h | (cases h.1)) (by intro _ _ _ _ h; first | exact h | (cases h.1)) (by assumption) (fun K hK => ?_)
    simp only [List.setIfInBounds_toArray, List.set_cons_zero, List.set_cons_succ] at hK
    refine take_loadM (by rfl) 33 (.tmp 19) (by rfl) b off (by rfl) aggUp (fun u hu => World.rangeAt.below RU.out hu) hupl (hK _ ?_)
    clear hK K
    try simp only [Act.put, List.getElem_toArray, List.getElem_cons_zero, List.getElem_cons_succ, List.setIfInBounds_toArray, List.set_cons_zero, List.set_cons_succ]
    (refine wpH_take 4 (by rfl) (by kernel_rfl) (by intro _ _ _ h; first | exact h | (cases h.1)) (by intro _ _ _ _ h; first | exact h | (cases h.1)) (by assumption) (fun K hK => ?_); simp only [List.setIfInBounds_toArray, List.set_cons_zero, List.set_cons_succ] at hK; go_simp; first | (refine hK _ ?_; clear hK K) | (apply Exists.intro; refine ⟨fun _ => rfl, hK _ ?_⟩; clear hK K))
    refine wpH_all [5, 9] (by kernel_rfl) (by simp) ?_
    intro i hi
    simp only [List.mem_cons, List.not_mem_nil, or_false] at hi
    rcases hi with rfl | rfl
    · (refine brH_of (i := 5) (by rfl) (fun K hK => ?_); simp only [List.setIfInBounds_toArray, List.set_cons_zero, List.set_cons_succ] at hK; go_simp)
      refine (AP.out u0 (Below.then b02.out hS0)).mono ?_
      rintro e u1 ⟨xa, xn, xc, ya, yn, yc, rfl, f1, f2, bu1⟩
      have hS1 := Below.then hS0 bu1
      refine hK _ _ hS1 ?_; clear hK K
      try simp only [Act.put, List.getElem_toArray, List.getElem_cons_zero, List.getElem_cons_succ, List.setIfInBounds_toArray, List.set_cons_zero, List.set_cons_succ]
      (refine wpH_take 6 (by rfl) (by kernel_rfl) (by intro _ _ _ h; first | exact h | (cases h.1)) (by intro _ _ _ _ h; first | exact h | (cases h.1)) (by assumption) (fun K hK => ?_); simp only [List.setIfInBounds_toArray, List.set_cons_zero, List.set_cons_succ] at hK; go_simp; first | (refine hK _ ?_; clear hK K) | (apply Exists.intro; refine ⟨fun _ => rfl, hK _ ?_⟩; clear hK K)); (refine wpH_take 7 (by rfl) (by kernel_rfl) (by intro _ _ _ h; first | exact h | (cases h.1)) (by intro _ _ _ _ h; first | exact h | (cases h.1)) (by assumption) (fun K hK => ?_); simp only [List.setIfInBounds_toArray, List.set_cons_zero, List.set_cons_succ] at hK; go_simp; first | (refine hK _ ?_; clear hK K) | (apply Exists.intro; refine ⟨fun _ => rfl, hK _ ?_⟩; clear hK K)); (refine wpH_take 8 (by rfl) (by kernel_rfl) (by intro _ _ _ h; first | exact h | (cases h.1)) (by intro _ _ _ _ h; first | exact h | (cases h.1)) (by assumption) (fun K hK => ?_); simp only [List.setIfInBounds_toArray, List.set_cons_zero, List.set_cons_succ] at hK; go_simp; first | (refine hK _ ?_; clear hK K) | (apply Exists.intro; refine ⟨fun _ => rfl, hK _ ?_⟩; clear hK K))
      (refine wpH_only 9 (by rfl) (by kernel_rfl) (fun K hK => ?_); simp only [List.setIfInBounds_toArray, List.set_cons_zero, List.set_cons_succ] at hK; go_simp)
      have zg8 : Blk 31 (u1.alloc (.cells Try.zeroCells31 31)) u1.heap.size zst := (by rw [zcSt]; exact Blk.new u1 _ _)
      have hS2 := Below.alloc hS1 (Below.size hS1) (.cells Try.zeroCells31 31)
      refine hK _ _ hS2 ?_; clear hK K
      have hgg8 := Below.size hS1
      obtain ⟨g8, heg8⟩ : ∃ g, g = u1.heap.size := ⟨_, rfl⟩
      obtain ⟨u2, huu2⟩ : ∃ x, x = u1.alloc (.cells Try.zeroCells31 31) := ⟨_, rfl⟩
      rw [← huu2] at hS2 zg8
      rw [← heg8] at zg8 hgg8
      rw [← heg8, ← huu2]
      clear heg8 huu2
      refine wpH_only 10 (by rfl) (by kernel_rfl) (fun K hK => ?_)
      simp only [List.setIfInBounds_toArray, List.set_cons_zero, List.set_cons_succ] at hK
      refine step_storeA (by rfl) 31 (.tmp 8) (.tmp 23) (by rfl) g8 (hdcs R.hd ++ [Value.slice xa xn xc, Value.slice ya yn yc]) (by rfl) (by rfl) aggSt zg8 (stc_len RK.out _ _) zst_len (stc_one _ _ _ _ _ _ _) (fun u3 y8 cg8 dg8 => ?_)
      have hS3 := Below.trans hS2 (cg8.mono hgg8)
      refine hK _ _ hS3 ?_; clear hK K
      try simp only [Act.put, List.getElem_toArray, List.getElem_cons_zero, List.getElem_cons_succ, List.setIfInBounds_toArray, List.set_cons_zero, List.set_cons_succ]
      (refine wpH_take 11 (by rfl) (by kernel_rfl) (by intro _ _ _ h; first | exact h | (cases h.1)) (by intro _ _ _ _ h; first | exact h | (cases h.1)) (by assumption) (fun K hK => ?_); simp only [List.setIfInBounds_toArray, List.set_cons_zero, List.set_cons_succ] at hK; go_simp; first | (refine hK _ ?_; clear hK K) | (apply Exists.intro; refine ⟨fun _ => rfl, hK _ ?_⟩; clear hK K))
      refine wpH_done (by kernel_rfl) ?_
      replace z1 := z1.kept hS3
      replace z2 := z2.kept hS3
      replace hbel := Below.then Hbel.out hS3
      have F1 := Lib.hid f1
      have F2 := Lib.hid f2
      have hgw8 : w.heap.size + 2 ≤ g8 := by have := HSZ.out; omega
      have hs3 := hS3.size
      have hlR := stc_len RK.out (Value.slice xa xn xc) (Value.slice ya yn yc)
      clear f1 f2
      by_cases hc : re = 0
      · have hc0 : ((re : Int) != 0) = false := by subst hc; rfl
        rw [if_pos hc] at hGo
        subst hGo
        go_wp2_with fail
        obtain ⟨X, hX⟩ : ∃ X, X = Value.slice xa xn xc := ⟨_, rfl⟩
        obtain ⟨Y, hY⟩ : ∃ Y, Y = Value.slice ya yn yc := ⟨_, rfl⟩
        rw [← hX] at F1
        rw [← hY] at F2
        rw [← hX, ← hY] at y8
        have G1 := F1
        have G2 := F2
        have hlG := stc_len hGk X Y
        have HH := Lib.hid hX
        have HH2 := Lib.hid hY
        clear hX hY
        obtain ⟨E8, hE8⟩ : ∃ E, hdcs G.hd ++ [X, Y] = E := ⟨_, rfl⟩
        rw [hE8] at hlG y8
        have HE8 := Lib.hid hE8
        have bW : Below W0.heap.size W0 u3 := Below.then HW.out hbel
        have IH3 : Hid (∀ u, Below u3.heap.size u3 u → Calls Try.prog 22 #[.agg E8.toArray, .slice a5 ul c5, .slice va V.length vc] u fun e w' => PlG W0 u e w' P2) := Lib.hid fun u hu => by rw [← HE8.out]; exact IH2.out X Y u (Below.then bW hu) G1.out G2.out
        have hsw : w2.heap.size ≤ u3.heap.size := hs3
        clear hE8 IH2 hc hs3
        refine wp_region_h ((fun u => Below u3.heap.size u3 u)) (by kernel_rfl) ?_; intro v0 hv0; simp only [List.length_cons, List.length_nil, Nat.reduceAdd, List.replicate_succ, List.replicate_zero]
        have hT0 : Below u3.heap.size u3 v0 := (by rw [hv0]; exact (Below.refl _ _).drew)
        clear hv0
        refine wpH_take 0 (by rfl) (by kernel_rfl) (by intro _ _ _ h; first | exact h | (cases h.1)) (by intro _ _ _ _ h; first | exact h | (cases h.1)) (by assumption) (fun K hK => ?_)
        simp only [List.setIfInBounds_toArray, List.set_cons_zero, List.set_cons_succ] at hK
        refine take_loadA (by rfl) 31 (.tmp 8) (by rfl) g8 (by rfl) aggSt (fun u hu => y8.kept hu) hlG (hK _ ?_)
        clear hK K
        try simp only [Act.put, List.getElem_toArray, List.getElem_cons_zero, List.getElem_cons_succ, List.setIfInBounds_toArray, List.set_cons_zero, List.set_cons_succ]
        (refine wpH_take 1 (by rfl) (by kernel_rfl) (by intro _ _ _ h; first | exact h | (cases h.1)) (by intro _ _ _ _ h; first | exact h | (cases h.1)) (by assumption) (fun K hK => ?_); simp only [List.setIfInBounds_toArray, List.set_cons_zero, List.set_cons_succ] at hK; go_simp; first | (refine hK _ ?_; clear hK K) | (apply Exists.intro; refine ⟨fun _ => rfl, hK _ ?_⟩; clear hK K)); (refine wpH_take 2 (by rfl) (by kernel_rfl) (by intro _ _ _ h; first | exact h | (cases h.1)) (by intro _ _ _ _ h; first | exact h | (cases h.1)) (by assumption) (fun K hK => ?_); simp only [List.setIfInBounds_toArray, List.set_cons_zero, List.set_cons_succ] at hK; go_simp; first | (refine hK _ ?_; clear hK K) | (apply Exists.intro; refine ⟨fun _ => rfl, hK _ ?_⟩; clear hK K)); (refine wpH_take 3 (by rfl) (by kernel_rfl) (by intro _ _ _ h; first | exact h | (cases h.1)) (by intro _ _ _ _ h; first | exact h | (cases h.1)) (by assumption) (fun K hK => ?_); simp only [List.setIfInBounds_toArray, List.set_cons_zero, List.set_cons_succ] at hK; go_simp; first | (refine hK _ ?_; clear hK K) | (apply Exists.intro; refine ⟨fun _ => rfl, hK _ ?_⟩; clear hK K))
        refine wpH_all [4, 8] (by kernel_rfl) (by simp) ?_
        intro i hi
        simp only [List.mem_cons, List.not_mem_nil, or_false] at hi
        rcases hi with rfl | rfl
        · (refine brH_of (i := 4) (by rfl) (fun K hK => ?_); simp only [List.setIfInBounds_toArray, List.set_cons_zero, List.set_cons_succ] at hK; go_simp)
          refine (IH3.out v0 hT0).mono ?_
          rintro e v1 ⟨pa, pn, pc, qa, qn, qc, vo, rfl, p1, p2, o4, bv1⟩
          obtain ⟨oa, oc, rfl, _⟩ := o4.form' ul HPL.out
          have hT1 := Below.then hT0 bv1
          refine hK _ _ hT1 ?_; clear hK K
          try simp only [Act.put, List.getElem_toArray, List.getElem_cons_zero, List.getElem_cons_succ, List.setIfInBounds_toArray, List.set_cons_zero, List.set_cons_succ]
          (refine wpH_take 5 (by rfl) (by kernel_rfl) (by intro _ _ _ h; first | exact h | (cases h.1)) (by intro _ _ _ _ h; first | exact h | (cases h.1)) (by assumption) (fun K hK => ?_); simp only [List.setIfInBounds_toArray, List.set_cons_zero, List.set_cons_succ] at hK; go_simp; first | (refine hK _ ?_; clear hK K) | (apply Exists.intro; refine ⟨fun _ => rfl, hK _ ?_⟩; clear hK K)); (refine wpH_take 6 (by rfl) (by kernel_rfl) (by intro _ _ _ h; first | exact h | (cases h.1)) (by intro _ _ _ _ h; first | exact h | (cases h.1)) (by assumption) (fun K hK => ?_); simp only [List.setIfInBounds_toArray, List.set_cons_zero, List.set_cons_succ] at hK; go_simp; first | (refine hK _ ?_; clear hK K) | (apply Exists.intro; refine ⟨fun _ => rfl, hK _ ?_⟩; clear hK K)); (refine wpH_take 7 (by rfl) (by kernel_rfl) (by intro _ _ _ h; first | exact h | (cases h.1)) (by intro _ _ _ _ h; first | exact h | (cases h.1)) (by assumption) (fun K hK => ?_); simp only [List.setIfInBounds_toArray, List.set_cons_zero, List.set_cons_succ] at hK; go_simp; first | (refine hK _ ?_; clear hK K) | (apply Exists.intro; refine ⟨fun _ => rfl, hK _ ?_⟩; clear hK K))
          (refine wpH_only 8 (by rfl) (by kernel_rfl) (fun K hK => ?_); simp only [List.setIfInBounds_toArray, List.set_cons_zero, List.set_cons_succ] at hK; go_simp)
          have zg10 : Blk 31 (v1.alloc (.cells Try.zeroCells31 31)) v1.heap.size zst := (by rw [zcSt]; exact Blk.new v1 _ _)
          have hT2 := Below.alloc hT1 (Below.size hT1) (.cells Try.zeroCells31 31)
          refine hK _ _ hT2 ?_; clear hK K
          have hgg10 := Below.size hT1
          obtain ⟨g10, heg10⟩ : ∃ g, g = v1.heap.size := ⟨_, rfl⟩
          obtain ⟨v2, huv2⟩ : ∃ x, x = v1.alloc (.cells Try.zeroCells31 31) := ⟨_, rfl⟩
          replace o4 := o4.alloc (.cells Try.zeroCells31 31)
          rw [← huv2] at hT2 zg10 o4
          rw [← heg10] at zg10 hgg10
          rw [← heg10, ← huv2]
          clear heg10 huv2
          refine wpH_only 9 (by rfl) (by kernel_rfl) (fun K hK => ?_)
          simp only [List.setIfInBounds_toArray, List.set_cons_zero, List.set_cons_succ] at hK
          refine step_storeA (by rfl) 31 (.tmp 10) (.tmp 34) (by rfl) g10 (hdcs P2.1.hd ++ [Value.slice pa pn pc, Value.slice qa qn qc]) (by rfl) (by rfl) aggSt zg10 (stc_len PK.out.hd _ _) zst_len (stc_one _ _ _ _ _ _ _) (fun v3 y10 cg10 dg10 => ?_)
          have hT3 := Below.trans hT2 (cg10.mono hgg10)
          have o5 := o4.off dg10 zg10 (by decide)
          refine hK _ _ hT3 ?_; clear hK K
          try simp only [Act.put, List.getElem_toArray, List.getElem_cons_zero, List.getElem_cons_succ, List.setIfInBounds_toArray, List.set_cons_zero, List.set_cons_succ]
          (refine wpH_take 10 (by rfl) (by kernel_rfl) (by intro _ _ _ h; first | exact h | (cases h.1)) (by intro _ _ _ _ h; first | exact h | (cases h.1)) (by assumption) (fun K hK => ?_); simp only [List.setIfInBounds_toArray, List.set_cons_zero, List.set_cons_succ] at hK; go_simp; first | (refine hK _ ?_; clear hK K) | (apply Exists.intro; refine ⟨fun _ => rfl, hK _ ?_⟩; clear hK K))
          refine wpH_done (by kernel_rfl) ?_
          replace z2 := z2.kept hT3
          replace hbel := Below.then hbel hT3
          have hgw : w.heap.size + 2 ≤ g10 := by have := HSZ.out; omega
          have hlP := stc_len PK.out.hd (Value.slice pa pn pc) (Value.slice qa qn qc)
          have P1 := Lib.hid p1
          have P2' := Lib.hid p2
          clear z1 IH3 hlG p1 p2 y8
          go_wp2_with fail
          have hP1 := stc_one P2.1.hd pa pn pc qa qn qc
          obtain ⟨E, hE⟩ : ∃ E, hdcs P2.1.hd ++ [Value.slice pa pn pc, Value.slice qa qn qc] = E := ⟨_, rfl⟩
          have HE := Lib.hid hE
          rw [hE] at hlP y10 hP1
          clear hE o4
          refine wp_region_h ((fun u => Blk 31 u g10 E)) (by kernel_rfl) ?_; intro x0 hx0; simp only [List.length_cons, List.length_nil, Nat.reduceAdd, List.replicate_succ, List.replicate_zero]
          have hS0 : Blk 31 x0 g10 E := (by rw [hx0]; exact y10.drew)
          replace z2 : Blk 31 x0 (w.heap.size + 1) zst := (by rw [hx0]; exact z2.drew)
          replace hbel : Below w.heap.size w x0 := (by rw [hx0]; exact hbel.drew)
          replace o5 : OwnOf er 1 35 x0 0 (.slice oa ul oc) P2.2 := (by rw [hx0]; exact o5.drew)
          clear hx0 y10
          refine wpH_take 0 (by rfl) (by kernel_rfl) (by intro _ _ _ h; first | exact h | (cases h.1)) (by intro _ _ _ _ h; first | exact h | (cases h.1)) (by assumption) (fun K hK => ?_)
          simp only [List.setIfInBounds_toArray, List.set_cons_zero, List.set_cons_succ] at hK
          refine take_loadA (by rfl) 31 (.tmp 10) (by rfl) g10 (by rfl) aggSt (fun u hu => hu) hlP (hK _ ?_)
          clear hK K
          try simp only [Act.put, List.getElem_toArray, List.getElem_cons_zero, List.getElem_cons_succ, List.setIfInBounds_toArray, List.set_cons_zero, List.set_cons_succ]
          (refine wpH_take 1 (by rfl) (by kernel_rfl) (by intro _ _ _ h; first | exact h | (cases h.1)) (by intro _ _ _ _ h; first | exact h | (cases h.1)) (by assumption) (fun K hK => ?_); simp only [List.setIfInBounds_toArray, List.set_cons_zero, List.set_cons_succ] at hK; go_simp; first | (refine hK _ ?_; clear hK K) | (apply Exists.intro; refine ⟨fun _ => rfl, hK _ ?_⟩; clear hK K)); (refine wpH_take 3 (by rfl) (by kernel_rfl) (by intro _ _ _ h; first | exact h | (cases h.1)) (by intro _ _ _ _ h; first | exact h | (cases h.1)) (by assumption) (fun K hK => ?_); simp only [List.setIfInBounds_toArray, List.set_cons_zero, List.set_cons_succ] at hK; go_simp; first | (refine hK _ ?_; clear hK K) | (apply Exists.intro; refine ⟨fun _ => rfl, hK _ ?_⟩; clear hK K))
          (refine wpH_only 2 (by rfl) (by kernel_rfl) (fun K hK => ?_); simp only [List.setIfInBounds_toArray, List.set_cons_zero, List.set_cons_succ] at hK; go_simp)
          have hS1 := hS0.alloc (.cells #[.int .i64 (re : Int)] 35)
          refine hK _ _ hS1 ?_; clear hK K
          have o38 : OwnOf er 1 35 (x0.alloc (.cells #[.int .i64 (re : Int)] 35)) x0.heap.size (.slice (some ⟨x0.heap.size, 0, none⟩) 1 1) [re] := OwnOf.made er 1 _ x0 _ [re] #[.int .i64 (re : Int)] 1 rfl rfl rfl (Nat.le_refl _) (by unfold maxLen; omega)
          replace o5 := o5.alloc (.cells #[.int .i64 (re : Int)] 35)
          replace z2 := z2.alloc (.cells #[.int .i64 (re : Int)] 35)
          have hbw := hbel.size
          replace hbel := hbel.alloc hbw (.cells #[.int .i64 (re : Int)] 35)
          have hsu : (x0.alloc (.cells #[.int .i64 (re : Int)] 35)).heap.size = x0.heap.size + 1 := by simp
          generalize x0.alloc (.cells #[.int .i64 (re : Int)] 35) = x1 at *
          refine wpH_only 4 (by rfl) (by kernel_rfl) (fun K hK => ?_)
          simp only [List.setIfInBounds_toArray, List.set_cons_zero, List.set_cons_succ] at hK
          refine step_appP (by rfl) (.tmp 38) (.tmp 39) 44 (by rfl) elEr.to0 (er_one' _) (by rfl) o38 (by rfl) o5.row (by omega) (by have := HPL.out; have := HUB.out; simp only [List.length_cons, List.length_nil]; omega) (by have := HPL.out; have := HUB.out; simp only [List.length_cons, List.length_nil]; unfold maxLen; omega) (fun v40 x2 o40 g40 _ => ?_)
          have hS2 : Blk 31 x2 g10 E := hS1.grown g40 (o38.notB hS1 (by decide))
          replace z2 := z2.grown g40 (o38.notB z2 (by decide))
          replace hbel := hbel.grown g40 hbel.size (fun j hj => by have := OwnOf.lt o38 j hj; omega)
          refine hK _ _ hS2 ?_; clear hK K
          try simp only [Act.put, List.getElem_toArray, List.getElem_cons_zero, List.getElem_cons_succ, List.setIfInBounds_toArray, List.set_cons_zero, List.set_cons_succ]
          refine wpH_only 5 (by rfl) (by kernel_rfl) (fun K hK => ?_)
          simp only [List.setIfInBounds_toArray, List.set_cons_zero, List.set_cons_succ] at hK
          refine step_storeA (by rfl) 31 (.tmp 6) (.tmp 36) (by rfl) (w.heap.size + 1) E (by rfl) (by rfl) aggSt z2 hlP zst_len hP1 (fun x3 hh8 b8' g8' => ?_)
          have hS3' : Blk 31 x3 g10 E := hS2.grown g8' (by simp; omega)
          have o41 := o40.off g8' z2 (by decide)
          have hbel8 := hbel.trans (b8'.mono (by omega))
          refine hK _ _ hS3' ?_; clear hK K
          try simp only [Act.put, List.getElem_toArray, List.getElem_cons_zero, List.getElem_cons_succ, List.setIfInBounds_toArray, List.set_cons_zero, List.set_cons_succ]
          (refine wpH_take 6 (by rfl) (by kernel_rfl) (by intro _ _ _ h; first | exact h | (cases h.1)) (by intro _ _ _ _ h; first | exact h | (cases h.1)) (by assumption) (fun K hK => ?_); simp only [List.setIfInBounds_toArray, List.set_cons_zero, List.set_cons_succ] at hK; go_simp; first | (refine hK _ ?_; clear hK K) | (apply Exists.intro; refine ⟨fun _ => rfl, hK _ ?_⟩; clear hK K))
          refine wpH_done (by kernel_rfl) ?_
          go_wp2_with fail
          exact bodyPost_ret (v := .tuple #[.agg E.toArray, v40]) (results_blk_tmp rfl _ _ (w.heap.size + 1) aggSt hh8 hlP rfl rfl) rfl ⟨_, _, _, _, _, _, _, by rw [← HE.out], P1.out, P2'.out, o41.lower (Nat.zero_le _), hbel8⟩
        · (refine brH_of (i := 8) (by rfl) (fun K hK => ?_); simp only [List.setIfInBounds_toArray, List.set_cons_zero, List.set_cons_succ] at hK; go_simp)
          have zg10 : Blk 31 (v0.alloc (.cells Try.zeroCells31 31)) v0.heap.size zst := (by rw [zcSt]; exact Blk.new v0 _ _)
          have hT1 := Below.alloc hT0 (Below.size hT0) (.cells Try.zeroCells31 31)
          refine hK _ _ hT1 ?_; clear hK K
          have hgg10 := Below.size hT0
          obtain ⟨g10, heg10⟩ : ∃ g, g = v0.heap.size := ⟨_, rfl⟩
          obtain ⟨v1, huv1⟩ : ∃ x, x = v0.alloc (.cells Try.zeroCells31 31) := ⟨_, rfl⟩
          rw [← huv1] at hT1 zg10
          rw [← heg10] at zg10 hgg10
          rw [← heg10, ← huv1]
          clear heg10 huv1
          (refine wpH_only 4 (by rfl) (by kernel_rfl) (fun K hK => ?_); simp only [List.setIfInBounds_toArray, List.set_cons_zero, List.set_cons_succ] at hK; go_simp)
          refine (IH3.out v1 hT1).mono ?_
          rintro e v2 ⟨pa, pn, pc, qa, qn, qc, vo, rfl, p1, p2, o4, bv2⟩
          obtain ⟨oa, oc, rfl, _⟩ := o4.form' ul HPL.out
          have hT2 := Below.then hT1 bv2
          have zg10 := zg10.kept bv2
          refine hK _ _ hT2 ?_; clear hK K
          try simp only [Act.put, List.getElem_toArray, List.getElem_cons_zero, List.getElem_cons_succ, List.setIfInBounds_toArray, List.set_cons_zero, List.set_cons_succ]
          (refine wpH_take 5 (by rfl) (by kernel_rfl) (by intro _ _ _ h; first | exact h | (cases h.1)) (by intro _ _ _ _ h; first | exact h | (cases h.1)) (by assumption) (fun K hK => ?_); simp only [List.setIfInBounds_toArray, List.set_cons_zero, List.set_cons_succ] at hK; go_simp; first | (refine hK _ ?_; clear hK K) | (apply Exists.intro; refine ⟨fun _ => rfl, hK _ ?_⟩; clear hK K)); (refine wpH_take 6 (by rfl) (by kernel_rfl) (by intro _ _ _ h; first | exact h | (cases h.1)) (by intro _ _ _ _ h; first | exact h | (cases h.1)) (by assumption) (fun K hK => ?_); simp only [List.setIfInBounds_toArray, List.set_cons_zero, List.set_cons_succ] at hK; go_simp; first | (refine hK _ ?_; clear hK K) | (apply Exists.intro; refine ⟨fun _ => rfl, hK _ ?_⟩; clear hK K)); (refine wpH_take 7 (by rfl) (by kernel_rfl) (by intro _ _ _ h; first | exact h | (cases h.1)) (by intro _ _ _ _ h; first | exact h | (cases h.1)) (by assumption) (fun K hK => ?_); simp only [List.setIfInBounds_toArray, List.set_cons_zero, List.set_cons_succ] at hK; go_simp; first | (refine hK _ ?_; clear hK K) | (apply Exists.intro; refine ⟨fun _ => rfl, hK _ ?_⟩; clear hK K))
          refine wpH_only 9 (by rfl) (by kernel_rfl) (fun K hK => ?_)
          simp only [List.setIfInBounds_toArray, List.set_cons_zero, List.set_cons_succ] at hK
          refine step_storeA (by rfl) 31 (.tmp 10) (.tmp 34) (by rfl) g10 (hdcs P2.1.hd ++ [Value.slice pa pn pc, Value.slice qa qn qc]) (by rfl) (by rfl) aggSt zg10 (stc_len PK.out.hd _ _) zst_len (stc_one _ _ _ _ _ _ _) (fun v3 y10 cg10 dg10 => ?_)
          have hT3 := Below.trans hT2 (cg10.mono hgg10)
          have o5 := o4.off dg10 zg10 (by decide)
          refine hK _ _ hT3 ?_; clear hK K
          try simp only [Act.put, List.getElem_toArray, List.getElem_cons_zero, List.getElem_cons_succ, List.setIfInBounds_toArray, List.set_cons_zero, List.set_cons_succ]
          (refine wpH_take 10 (by rfl) (by kernel_rfl) (by intro _ _ _ h; first | exact h | (cases h.1)) (by intro _ _ _ _ h; first | exact h | (cases h.1)) (by assumption) (fun K hK => ?_); simp only [List.setIfInBounds_toArray, List.set_cons_zero, List.set_cons_succ] at hK; go_simp; first | (refine hK _ ?_; clear hK K) | (apply Exists.intro; refine ⟨fun _ => rfl, hK _ ?_⟩; clear hK K))
          refine wpH_done (by kernel_rfl) ?_
          replace z2 := z2.kept hT3
          replace hbel := Below.then hbel hT3
          have hgw : w.heap.size + 2 ≤ g10 := by have := HSZ.out; omega
          have hlP := stc_len PK.out.hd (Value.slice pa pn pc) (Value.slice qa qn qc)
          have P1 := Lib.hid p1
          have P2' := Lib.hid p2
          clear z1 IH3 hlG p1 p2 y8
          go_wp2_with fail
          have hP1 := stc_one P2.1.hd pa pn pc qa qn qc
          obtain ⟨E, hE⟩ : ∃ E, hdcs P2.1.hd ++ [Value.slice pa pn pc, Value.slice qa qn qc] = E := ⟨_, rfl⟩
          have HE := Lib.hid hE
          rw [hE] at hlP y10 hP1
          clear hE o4
          refine wp_region_h ((fun u => Blk 31 u g10 E)) (by kernel_rfl) ?_; intro x0 hx0; simp only [List.length_cons, List.length_nil, Nat.reduceAdd, List.replicate_succ, List.replicate_zero]
          have hS0 : Blk 31 x0 g10 E := (by rw [hx0]; exact y10.drew)
          replace z2 : Blk 31 x0 (w.heap.size + 1) zst := (by rw [hx0]; exact z2.drew)
          replace hbel : Below w.heap.size w x0 := (by rw [hx0]; exact hbel.drew)
          replace o5 : OwnOf er 1 35 x0 0 (.slice oa ul oc) P2.2 := (by rw [hx0]; exact o5.drew)
          clear hx0 y10
          refine wpH_take 0 (by rfl) (by kernel_rfl) (by intro _ _ _ h; first | exact h | (cases h.1)) (by intro _ _ _ _ h; first | exact h | (cases h.1)) (by assumption) (fun K hK => ?_)
          simp only [List.setIfInBounds_toArray, List.set_cons_zero, List.set_cons_succ] at hK
          refine take_loadA (by rfl) 31 (.tmp 10) (by rfl) g10 (by rfl) aggSt (fun u hu => hu) hlP (hK _ ?_)
          clear hK K
          try simp only [Act.put, List.getElem_toArray, List.getElem_cons_zero, List.getElem_cons_succ, List.setIfInBounds_toArray, List.set_cons_zero, List.set_cons_succ]
          (refine wpH_take 1 (by rfl) (by kernel_rfl) (by intro _ _ _ h; first | exact h | (cases h.1)) (by intro _ _ _ _ h; first | exact h | (cases h.1)) (by assumption) (fun K hK => ?_); simp only [List.setIfInBounds_toArray, List.set_cons_zero, List.set_cons_succ] at hK; go_simp; first | (refine hK _ ?_; clear hK K) | (apply Exists.intro; refine ⟨fun _ => rfl, hK _ ?_⟩; clear hK K)); (refine wpH_take 3 (by rfl) (by kernel_rfl) (by intro _ _ _ h; first | exact h | (cases h.1)) (by intro _ _ _ _ h; first | exact h | (cases h.1)) (by assumption) (fun K hK => ?_); simp only [List.setIfInBounds_toArray, List.set_cons_zero, List.set_cons_succ] at hK; go_simp; first | (refine hK _ ?_; clear hK K) | (apply Exists.intro; refine ⟨fun _ => rfl, hK _ ?_⟩; clear hK K))
          (refine wpH_only 2 (by rfl) (by kernel_rfl) (fun K hK => ?_); simp only [List.setIfInBounds_toArray, List.set_cons_zero, List.set_cons_succ] at hK; go_simp)
          have hS1 := hS0.alloc (.cells #[.int .i64 (re : Int)] 35)
          refine hK _ _ hS1 ?_; clear hK K
          have o38 : OwnOf er 1 35 (x0.alloc (.cells #[.int .i64 (re : Int)] 35)) x0.heap.size (.slice (some ⟨x0.heap.size, 0, none⟩) 1 1) [re] := OwnOf.made er 1 _ x0 _ [re] #[.int .i64 (re : Int)] 1 rfl rfl rfl (Nat.le_refl _) (by unfold maxLen; omega)
          replace o5 := o5.alloc (.cells #[.int .i64 (re : Int)] 35)
          replace z2 := z2.alloc (.cells #[.int .i64 (re : Int)] 35)
          have hbw := hbel.size
          replace hbel := hbel.alloc hbw (.cells #[.int .i64 (re : Int)] 35)
          have hsu : (x0.alloc (.cells #[.int .i64 (re : Int)] 35)).heap.size = x0.heap.size + 1 := by simp
          generalize x0.alloc (.cells #[.int .i64 (re : Int)] 35) = x1 at *
          refine wpH_only 4 (by rfl) (by kernel_rfl) (fun K hK => ?_)
          simp only [List.setIfInBounds_toArray, List.set_cons_zero, List.set_cons_succ] at hK
          refine step_appP (by rfl) (.tmp 38) (.tmp 39) 44 (by rfl) elEr.to0 (er_one' _) (by rfl) o38 (by rfl) o5.row (by omega) (by have := HPL.out; have := HUB.out; simp only [List.length_cons, List.length_nil]; omega) (by have := HPL.out; have := HUB.out; simp only [List.length_cons, List.length_nil]; unfold maxLen; omega) (fun v40 x2 o40 g40 _ => ?_)
          have hS2 : Blk 31 x2 g10 E := hS1.grown g40 (o38.notB hS1 (by decide))
          replace z2 := z2.grown g40 (o38.notB z2 (by decide))
          replace hbel := hbel.grown g40 hbel.size (fun j hj => by have := OwnOf.lt o38 j hj; omega)
          refine hK _ _ hS2 ?_; clear hK K
          try simp only [Act.put, List.getElem_toArray, List.getElem_cons_zero, List.getElem_cons_succ, List.setIfInBounds_toArray, List.set_cons_zero, List.set_cons_succ]
          refine wpH_only 5 (by rfl) (by kernel_rfl) (fun K hK => ?_)
          simp only [List.setIfInBounds_toArray, List.set_cons_zero, List.set_cons_succ] at hK
          refine step_storeA (by rfl) 31 (.tmp 6) (.tmp 36) (by rfl) (w.heap.size + 1) E (by rfl) (by rfl) aggSt z2 hlP zst_len hP1 (fun x3 hh8 b8' g8' => ?_)
          have hS3' : Blk 31 x3 g10 E := hS2.grown g8' (by simp; omega)
          have o41 := o40.off g8' z2 (by decide)
          have hbel8 := hbel.trans (b8'.mono (by omega))
          refine hK _ _ hS3' ?_; clear hK K
          try simp only [Act.put, List.getElem_toArray, List.getElem_cons_zero, List.getElem_cons_succ, List.setIfInBounds_toArray, List.set_cons_zero, List.set_cons_succ]
          (refine wpH_take 6 (by rfl) (by kernel_rfl) (by intro _ _ _ h; first | exact h | (cases h.1)) (by intro _ _ _ _ h; first | exact h | (cases h.1)) (by assumption) (fun K hK => ?_); simp only [List.setIfInBounds_toArray, List.set_cons_zero, List.set_cons_succ] at hK; go_simp; first | (refine hK _ ?_; clear hK K) | (apply Exists.intro; refine ⟨fun _ => rfl, hK _ ?_⟩; clear hK K))
          refine wpH_done (by kernel_rfl) ?_
          go_wp2_with fail
          exact bodyPost_ret (v := .tuple #[.agg E.toArray, v40]) (results_blk_tmp rfl _ _ (w.heap.size + 1) aggSt hh8 hlP rfl rfl) rfl ⟨_, _, _, _, _, _, _, by rw [← HE.out], P1.out, P2'.out, o41.lower (Nat.zero_le _), hbel8⟩
      · have hc0 : ((re : Int) != 0) = true := by rw [bne_iff_ne]; omega
        rw [if_neg hc] at hGo
        subst hGo
        go_wp2_with (first
          | ((with_reducible show wpList _ _ _ (⟨some 27, _, _, _, _, _⟩ :: _) _ _); refine wpList_loadA (o := ⟨some 27, _, _, _, _, _⟩) (by rfl) 31 (.tmp 3) (by rfl) w.heap.size (by rfl) aggSt z1 hlC ?_)
          | ((with_reducible show wpList _ _ _ (⟨none, Op.store _ _ (Operand.tmp 27), _, _, _, _⟩ :: _) _ _); refine wpList_storeA (o := ⟨none, _, _, _, _, _⟩) (by rfl) 31 (.tmp 8) (.tmp 27) (by rfl) g8 C (by rfl) (by rfl) aggSt y8 hlC hlR hC1 (Below.refl g8 u3) (Nat.le_refl _) ?_; intro u4 y9 b9 _; have z1 := z1.below b9 (by omega); have z2 := z2.below b9 (by omega); have hbel := hbel.trans (b9.mono (by omega)); have hs3 := Nat.le_trans hs3 b9.size))
        obtain ⟨X, hX⟩ : ∃ X, X = Value.slice sa tsn sc := ⟨_, rfl⟩
        obtain ⟨Y, hY⟩ : ∃ Y, Y = Value.slice na tnn nc := ⟨_, rfl⟩
        have G1 := H1
        have G2 := H2
        rw [← hX] at G1
        rw [← hY] at G2
        rw [← HC.out, ← hX, ← hY] at y9
        have hlG := stc_len hGk X Y
        have HH := Lib.hid hX
        have HH2 := Lib.hid hY
        clear hX hY
        obtain ⟨E8, hE8⟩ : ∃ E, hdcs G.hd ++ [X, Y] = E := ⟨_, rfl⟩
        rw [hE8] at hlG y9
        have HE8 := Lib.hid hE8
        have bW : Below W0.heap.size W0 u4 := Below.then HW.out hbel
        have IH3 : Hid (∀ u, Below u4.heap.size u4 u → Calls Try.prog 22 #[.agg E8.toArray, .slice a5 ul c5, .slice va V.length vc] u fun e w' => PlG W0 u e w' P2) := Lib.hid fun u hu => by rw [← HE8.out]; exact IH2.out X Y u (Below.then bW hu) G1.out G2.out
        have hsw : w2.heap.size ≤ u4.heap.size := hs3
        clear hE8 IH2 hc hs3
        refine wp_region_h ((fun u => Below u4.heap.size u4 u)) (by kernel_rfl) ?_; intro v0 hv0; simp only [List.length_cons, List.length_nil, Nat.reduceAdd, List.replicate_succ, List.replicate_zero]
        have hT0 : Below u4.heap.size u4 v0 := (by rw [hv0]; exact (Below.refl _ _).drew)
        clear hv0
        refine wpH_take 0 (by rfl) (by kernel_rfl) (by intro _ _ _ h; first | exact h | (cases h.1)) (by intro _ _ _ _ h; first | exact h | (cases h.1)) (by assumption) (fun K hK => ?_)
        simp only [List.setIfInBounds_toArray, List.set_cons_zero, List.set_cons_succ] at hK
        refine take_loadA (by rfl) 31 (.tmp 8) (by rfl) g8 (by rfl) aggSt (fun u hu => y9.kept hu) hlG (hK _ ?_)
        clear hK K
        try simp only [Act.put, List.getElem_toArray, List.getElem_cons_zero, List.getElem_cons_succ, List.setIfInBounds_toArray, List.set_cons_zero, List.set_cons_succ]
        (refine wpH_take 1 (by rfl) (by kernel_rfl) (by intro _ _ _ h; first | exact h | (cases h.1)) (by intro _ _ _ _ h; first | exact h | (cases h.1)) (by assumption) (fun K hK => ?_); simp only [List.setIfInBounds_toArray, List.set_cons_zero, List.set_cons_succ] at hK; go_simp; first | (refine hK _ ?_; clear hK K) | (apply Exists.intro; refine ⟨fun _ => rfl, hK _ ?_⟩; clear hK K)); (refine wpH_take 2 (by rfl) (by kernel_rfl) (by intro _ _ _ h; first | exact h | (cases h.1)) (by intro _ _ _ _ h; first | exact h | (cases h.1)) (by assumption) (fun K hK => ?_); simp only [List.setIfInBounds_toArray, List.set_cons_zero, List.set_cons_succ] at hK; go_simp; first | (refine hK _ ?_; clear hK K) | (apply Exists.intro; refine ⟨fun _ => rfl, hK _ ?_⟩; clear hK K)); (refine wpH_take 3 (by rfl) (by kernel_rfl) (by intro _ _ _ h; first | exact h | (cases h.1)) (by intro _ _ _ _ h; first | exact h | (cases h.1)) (by assumption) (fun K hK => ?_); simp only [List.setIfInBounds_toArray, List.set_cons_zero, List.set_cons_succ] at hK; go_simp; first | (refine hK _ ?_; clear hK K) | (apply Exists.intro; refine ⟨fun _ => rfl, hK _ ?_⟩; clear hK K))
        refine wpH_all [4, 8] (by kernel_rfl) (by simp) ?_
        intro i hi
        simp only [List.mem_cons, List.not_mem_nil, or_false] at hi
        rcases hi with rfl | rfl
        · (refine brH_of (i := 4) (by rfl) (fun K hK => ?_); simp only [List.setIfInBounds_toArray, List.set_cons_zero, List.set_cons_succ] at hK; go_simp)
          refine (IH3.out v0 hT0).mono ?_
          rintro e v1 ⟨pa, pn, pc, qa, qn, qc, vo, rfl, p1, p2, o4, bv1⟩
          obtain ⟨oa, oc, rfl, _⟩ := o4.form' ul HPL.out
          have hT1 := Below.then hT0 bv1
          refine hK _ _ hT1 ?_; clear hK K
          try simp only [Act.put, List.getElem_toArray, List.getElem_cons_zero, List.getElem_cons_succ, List.setIfInBounds_toArray, List.set_cons_zero, List.set_cons_succ]
          (refine wpH_take 5 (by rfl) (by kernel_rfl) (by intro _ _ _ h; first | exact h | (cases h.1)) (by intro _ _ _ _ h; first | exact h | (cases h.1)) (by assumption) (fun K hK => ?_); simp only [List.setIfInBounds_toArray, List.set_cons_zero, List.set_cons_succ] at hK; go_simp; first | (refine hK _ ?_; clear hK K) | (apply Exists.intro; refine ⟨fun _ => rfl, hK _ ?_⟩; clear hK K)); (refine wpH_take 6 (by rfl) (by kernel_rfl) (by intro _ _ _ h; first | exact h | (cases h.1)) (by intro _ _ _ _ h; first | exact h | (cases h.1)) (by assumption) (fun K hK => ?_); simp only [List.setIfInBounds_toArray, List.set_cons_zero, List.set_cons_succ] at hK; go_simp; first | (refine hK _ ?_; clear hK K) | (apply Exists.intro; refine ⟨fun _ => rfl, hK _ ?_⟩; clear hK K)); (refine wpH_take 7 (by rfl) (by kernel_rfl) (by intro _ _ _ h; first | exact h | (cases h.1)) (by intro _ _ _ _ h; first | exact h | (cases h.1)) (by assumption) (fun K hK => ?_); simp only [List.setIfInBounds_toArray, List.set_cons_zero, List.set_cons_succ] at hK; go_simp; first | (refine hK _ ?_; clear hK K) | (apply Exists.intro; refine ⟨fun _ => rfl, hK _ ?_⟩; clear hK K))
          (refine wpH_only 8 (by rfl) (by kernel_rfl) (fun K hK => ?_); simp only [List.setIfInBounds_toArray, List.set_cons_zero, List.set_cons_succ] at hK; go_simp)
          have zg10 : Blk 31 (v1.alloc (.cells Try.zeroCells31 31)) v1.heap.size zst := (by rw [zcSt]; exact Blk.new v1 _ _)
          have hT2 := Below.alloc hT1 (Below.size hT1) (.cells Try.zeroCells31 31)
          refine hK _ _ hT2 ?_; clear hK K
          have hgg10 := Below.size hT1
          obtain ⟨g10, heg10⟩ : ∃ g, g = v1.heap.size := ⟨_, rfl⟩
          obtain ⟨v2, huv2⟩ : ∃ x, x = v1.alloc (.cells Try.zeroCells31 31) := ⟨_, rfl⟩
          replace o4 := o4.alloc (.cells Try.zeroCells31 31)
          rw [← huv2] at hT2 zg10 o4
          rw [← heg10] at zg10 hgg10
          rw [← heg10, ← huv2]
          clear heg10 huv2
          refine wpH_only 9 (by rfl) (by kernel_rfl) (fun K hK => ?_)
          simp only [List.setIfInBounds_toArray, List.set_cons_zero, List.set_cons_succ] at hK
          refine step_storeA (by rfl) 31 (.tmp 10) (.tmp 34) (by rfl) g10 (hdcs P2.1.hd ++ [Value.slice pa pn pc, Value.slice qa qn qc]) (by rfl) (by rfl) aggSt zg10 (stc_len PK.out.hd _ _) zst_len (stc_one _ _ _ _ _ _ _) (fun v3 y10 cg10 dg10 => ?_)
          have hT3 := Below.trans hT2 (cg10.mono hgg10)
          have o5 := o4.off dg10 zg10 (by decide)
          refine hK _ _ hT3 ?_; clear hK K
          try simp only [Act.put, List.getElem_toArray, List.getElem_cons_zero, List.getElem_cons_succ, List.setIfInBounds_toArray, List.set_cons_zero, List.set_cons_succ]
          (refine wpH_take 10 (by rfl) (by kernel_rfl) (by intro _ _ _ h; first | exact h | (cases h.1)) (by intro _ _ _ _ h; first | exact h | (cases h.1)) (by assumption) (fun K hK => ?_); simp only [List.setIfInBounds_toArray, List.set_cons_zero, List.set_cons_succ] at hK; go_simp; first | (refine hK _ ?_; clear hK K) | (apply Exists.intro; refine ⟨fun _ => rfl, hK _ ?_⟩; clear hK K))
          refine wpH_done (by kernel_rfl) ?_
          replace z2 := z2.kept hT3
          replace hbel := Below.then hbel hT3
          have hgw : w.heap.size + 2 ≤ g10 := by have := HSZ.out; omega
          have hlP := stc_len PK.out.hd (Value.slice pa pn pc) (Value.slice qa qn qc)
          have P1 := Lib.hid p1
          have P2' := Lib.hid p2
          clear z1 IH3 hlG p1 p2 y9
          go_wp2_with fail
          have hP1 := stc_one P2.1.hd pa pn pc qa qn qc
          obtain ⟨E, hE⟩ : ∃ E, hdcs P2.1.hd ++ [Value.slice pa pn pc, Value.slice qa qn qc] = E := ⟨_, rfl⟩
          have HE := Lib.hid hE
          rw [hE] at hlP y10 hP1
          clear hE o4
          refine wp_region_h ((fun u => Blk 31 u g10 E)) (by kernel_rfl) ?_; intro x0 hx0; simp only [List.length_cons, List.length_nil, Nat.reduceAdd, List.replicate_succ, List.replicate_zero]
          have hS0 : Blk 31 x0 g10 E := (by rw [hx0]; exact y10.drew)
          replace z2 : Blk 31 x0 (w.heap.size + 1) zst := (by rw [hx0]; exact z2.drew)
          replace hbel : Below w.heap.size w x0 := (by rw [hx0]; exact hbel.drew)
          replace o5 : OwnOf er 1 35 x0 0 (.slice oa ul oc) P2.2 := (by rw [hx0]; exact o5.drew)
          clear hx0 y10
          refine wpH_take 0 (by rfl) (by kernel_rfl) (by intro _ _ _ h; first | exact h | (cases h.1)) (by intro _ _ _ _ h; first | exact h | (cases h.1)) (by assumption) (fun K hK => ?_)
          simp only [List.setIfInBounds_toArray, List.set_cons_zero, List.set_cons_succ] at hK
          refine take_loadA (by rfl) 31 (.tmp 10) (by rfl) g10 (by rfl) aggSt (fun u hu => hu) hlP (hK _ ?_)
          clear hK K
          try simp only [Act.put, List.getElem_toArray, List.getElem_cons_zero, List.getElem_cons_succ, List.setIfInBounds_toArray, List.set_cons_zero, List.set_cons_succ]
          (refine wpH_take 1 (by rfl) (by kernel_rfl) (by intro _ _ _ h; first | exact h | (cases h.1)) (by intro _ _ _ _ h; first | exact h | (cases h.1)) (by assumption) (fun K hK => ?_); simp only [List.setIfInBounds_toArray, List.set_cons_zero, List.set_cons_succ] at hK; go_simp; first | (refine hK _ ?_; clear hK K) | (apply Exists.intro; refine ⟨fun _ => rfl, hK _ ?_⟩; clear hK K)); (refine wpH_take 3 (by rfl) (by kernel_rfl) (by intro _ _ _ h; first | exact h | (cases h.1)) (by intro _ _ _ _ h; first | exact h | (cases h.1)) (by assumption) (fun K hK => ?_); simp only [List.setIfInBounds_toArray, List.set_cons_zero, List.set_cons_succ] at hK; go_simp; first | (refine hK _ ?_; clear hK K) | (apply Exists.intro; refine ⟨fun _ => rfl, hK _ ?_⟩; clear hK K))
          (refine wpH_only 2 (by rfl) (by kernel_rfl) (fun K hK => ?_); simp only [List.setIfInBounds_toArray, List.set_cons_zero, List.set_cons_succ] at hK; go_simp)
          have hS1 := hS0.alloc (.cells #[.int .i64 (re : Int)] 35)
          refine hK _ _ hS1 ?_; clear hK K
          have o38 : OwnOf er 1 35 (x0.alloc (.cells #[.int .i64 (re : Int)] 35)) x0.heap.size (.slice (some ⟨x0.heap.size, 0, none⟩) 1 1) [re] := OwnOf.made er 1 _ x0 _ [re] #[.int .i64 (re : Int)] 1 rfl rfl rfl (Nat.le_refl _) (by unfold maxLen; omega)
          replace o5 := o5.alloc (.cells #[.int .i64 (re : Int)] 35)
          replace z2 := z2.alloc (.cells #[.int .i64 (re : Int)] 35)
          have hbw := hbel.size
          replace hbel := hbel.alloc hbw (.cells #[.int .i64 (re : Int)] 35)
          have hsu : (x0.alloc (.cells #[.int .i64 (re : Int)] 35)).heap.size = x0.heap.size + 1 := by simp
          generalize x0.alloc (.cells #[.int .i64 (re : Int)] 35) = x1 at *
          refine wpH_only 4 (by rfl) (by kernel_rfl) (fun K hK => ?_)
          simp only [List.setIfInBounds_toArray, List.set_cons_zero, List.set_cons_succ] at hK
          refine step_appP (by rfl) (.tmp 38) (.tmp 39) 44 (by rfl) elEr.to0 (er_one' _) (by rfl) o38 (by rfl) o5.row (by omega) (by have := HPL.out; have := HUB.out; simp only [List.length_cons, List.length_nil]; omega) (by have := HPL.out; have := HUB.out; simp only [List.length_cons, List.length_nil]; unfold maxLen; omega) (fun v40 x2 o40 g40 _ => ?_)
          have hS2 : Blk 31 x2 g10 E := hS1.grown g40 (o38.notB hS1 (by decide))
          replace z2 := z2.grown g40 (o38.notB z2 (by decide))
          replace hbel := hbel.grown g40 hbel.size (fun j hj => by have := OwnOf.lt o38 j hj; omega)
          refine hK _ _ hS2 ?_; clear hK K
          try simp only [Act.put, List.getElem_toArray, List.getElem_cons_zero, List.getElem_cons_succ, List.setIfInBounds_toArray, List.set_cons_zero, List.set_cons_succ]
          refine wpH_only 5 (by rfl) (by kernel_rfl) (fun K hK => ?_)
          simp only [List.setIfInBounds_toArray, List.set_cons_zero, List.set_cons_succ] at hK
          refine step_storeA (by rfl) 31 (.tmp 6) (.tmp 36) (by rfl) (w.heap.size + 1) E (by rfl) (by rfl) aggSt z2 hlP zst_len hP1 (fun x3 hh8 b8' g8' => ?_)
          have hS3' : Blk 31 x3 g10 E := hS2.grown g8' (by simp; omega)
          have o41 := o40.off g8' z2 (by decide)
          have hbel8 := hbel.trans (b8'.mono (by omega))
          refine hK _ _ hS3' ?_; clear hK K
          try simp only [Act.put, List.getElem_toArray, List.getElem_cons_zero, List.getElem_cons_succ, List.setIfInBounds_toArray, List.set_cons_zero, List.set_cons_succ]
          (refine wpH_take 6 (by rfl) (by kernel_rfl) (by intro _ _ _ h; first | exact h | (cases h.1)) (by intro _ _ _ _ h; first | exact h | (cases h.1)) (by assumption) (fun K hK => ?_); simp only [List.setIfInBounds_toArray, List.set_cons_zero, List.set_cons_succ] at hK; go_simp; first | (refine hK _ ?_; clear hK K) | (apply Exists.intro; refine ⟨fun _ => rfl, hK _ ?_⟩; clear hK K))
          refine wpH_done (by kernel_rfl) ?_
          go_wp2_with fail
          exact bodyPost_ret (v := .tuple #[.agg E.toArray, v40]) (results_blk_tmp rfl _ _ (w.heap.size + 1) aggSt hh8 hlP rfl rfl) rfl ⟨_, _, _, _, _, _, _, by rw [← HE.out], P1.out, P2'.out, o41.lower (Nat.zero_le _), hbel8⟩
        · (refine brH_of (i := 8) (by rfl) (fun K hK => ?_); simp only [List.setIfInBounds_toArray, List.set_cons_zero, List.set_cons_succ] at hK; go_simp)
          have zg10 : Blk 31 (v0.alloc (.cells Try.zeroCells31 31)) v0.heap.size zst := (by rw [zcSt]; exact Blk.new v0 _ _)
          have hT1 := Below.alloc hT0 (Below.size hT0) (.cells Try.zeroCells31 31)
          refine hK _ _ hT1 ?_; clear hK K
          have hgg10 := Below.size hT0
          obtain ⟨g10, heg10⟩ : ∃ g, g = v0.heap.size := ⟨_, rfl⟩
          obtain ⟨v1, huv1⟩ : ∃ x, x = v0.alloc (.cells Try.zeroCells31 31) := ⟨_, rfl⟩
          rw [← huv1] at hT1 zg10
          rw [← heg10] at zg10 hgg10
          rw [← heg10, ← huv1]
          clear heg10 huv1
          (refine wpH_only 4 (by rfl) (by kernel_rfl) (fun K hK => ?_); simp only [List.setIfInBounds_toArray, List.set_cons_zero, List.set_cons_succ] at hK; go_simp)
          refine (IH3.out v1 hT1).mono ?_
          rintro e v2 ⟨pa, pn, pc, qa, qn, qc, vo, rfl, p1, p2, o4, bv2⟩
          obtain ⟨oa, oc, rfl, _⟩ := o4.form' ul HPL.out
          have hT2 := Below.then hT1 bv2
          have zg10 := zg10.kept bv2
          refine hK _ _ hT2 ?_; clear hK K
          try simp only [Act.put, List.getElem_toArray, List.getElem_cons_zero, List.getElem_cons_succ, List.setIfInBounds_toArray, List.set_cons_zero, List.set_cons_succ]
          (refine wpH_take 5 (by rfl) (by kernel_rfl) (by intro _ _ _ h; first | exact h | (cases h.1)) (by intro _ _ _ _ h; first | exact h | (cases h.1)) (by assumption) (fun K hK => ?_); simp only [List.setIfInBounds_toArray, List.set_cons_zero, List.set_cons_succ] at hK; go_simp; first | (refine hK _ ?_; clear hK K) | (apply Exists.intro; refine ⟨fun _ => rfl, hK _ ?_⟩; clear hK K)); (refine wpH_take 6 (by rfl) (by kernel_rfl) (by intro _ _ _ h; first | exact h | (cases h.1)) (by intro _ _ _ _ h; first | exact h | (cases h.1)) (by assumption) (fun K hK => ?_); simp only [List.setIfInBounds_toArray, List.set_cons_zero, List.set_cons_succ] at hK; go_simp; first | (refine hK _ ?_; clear hK K) | (apply Exists.intro; refine ⟨fun _ => rfl, hK _ ?_⟩; clear hK K)); (refine wpH_take 7 (by rfl) (by kernel_rfl) (by intro _ _ _ h; first | exact h | (cases h.1)) (by intro _ _ _ _ h; first | exact h | (cases h.1)) (by assumption) (fun K hK => ?_); simp only [List.setIfInBounds_toArray, List.set_cons_zero, List.set_cons_succ] at hK; go_simp; first | (refine hK _ ?_; clear hK K) | (apply Exists.intro; refine ⟨fun _ => rfl, hK _ ?_⟩; clear hK K))
          refine wpH_only 9 (by rfl) (by kernel_rfl) (fun K hK => ?_)
          simp only [List.setIfInBounds_toArray, List.set_cons_zero, List.set_cons_succ] at hK
          refine step_storeA (by rfl) 31 (.tmp 10) (.tmp 34) (by rfl) g10 (hdcs P2.1.hd ++ [Value.slice pa pn pc, Value.slice qa qn qc]) (by rfl) (by rfl) aggSt zg10 (stc_len PK.out.hd _ _) zst_len (stc_one _ _ _ _ _ _ _) (fun v3 y10 cg10 dg10 => ?_)
          have hT3 := Below.trans hT2 (cg10.mono hgg10)
          have o5 := o4.off dg10 zg10 (by decide)
          refine hK _ _ hT3 ?_; clear hK K
          try simp only [Act.put, List.getElem_toArray, List.getElem_cons_zero, List.getElem_cons_succ, List.setIfInBounds_toArray, List.set_cons_zero, List.set_cons_succ]
          (refine wpH_take 10 (by rfl) (by kernel_rfl) (by intro _ _ _ h; first | exact h | (cases h.1)) (by intro _ _ _ _ h; first | exact h | (cases h.1)) (by assumption) (fun K hK => ?_); simp only [List.setIfInBounds_toArray, List.set_cons_zero, List.set_cons_succ] at hK; go_simp; first | (refine hK _ ?_; clear hK K) | (apply Exists.intro; refine ⟨fun _ => rfl, hK _ ?_⟩; clear hK K))
          refine wpH_done (by kernel_rfl) ?_
          replace z2 := z2.kept hT3
          replace hbel := Below.then hbel hT3
          have hgw : w.heap.size + 2 ≤ g10 := by have := HSZ.out; omega
          have hlP := stc_len PK.out.hd (Value.slice pa pn pc) (Value.slice qa qn qc)
          have P1 := Lib.hid p1
          have P2' := Lib.hid p2
          clear z1 IH3 hlG p1 p2 y9
          go_wp2_with fail
          have hP1 := stc_one P2.1.hd pa pn pc qa qn qc
          obtain ⟨E, hE⟩ : ∃ E, hdcs P2.1.hd ++ [Value.slice pa pn pc, Value.slice qa qn qc] = E := ⟨_, rfl⟩
          have HE := Lib.hid hE
          rw [hE] at hlP y10 hP1
          clear hE o4
          refine wp_region_h ((fun u => Blk 31 u g10 E)) (by kernel_rfl) ?_; intro x0 hx0; simp only [List.length_cons, List.length_nil, Nat.reduceAdd, List.replicate_succ, List.replicate_zero]
          have hS0 : Blk 31 x0 g10 E := (by rw [hx0]; exact y10.drew)
          replace z2 : Blk 31 x0 (w.heap.size + 1) zst := (by rw [hx0]; exact z2.drew)
          replace hbel : Below w.heap.size w x0 := (by rw [hx0]; exact hbel.drew)
          replace o5 : OwnOf er 1 35 x0 0 (.slice oa ul oc) P2.2 := (by rw [hx0]; exact o5.drew)
          clear hx0 y10
          refine wpH_take 0 (by rfl) (by kernel_rfl) (by intro _ _ _ h; first | exact h | (cases h.1)) (by intro _ _ _ _ h; first | exact h | (cases h.1)) (by assumption) (fun K hK => ?_)
          simp only [List.setIfInBounds_toArray, List.set_cons_zero, List.set_cons_succ] at hK
          refine take_loadA (by rfl) 31 (.tmp 10) (by rfl) g10 (by rfl) aggSt (fun u hu => hu) hlP (hK _ ?_)
          clear hK K
          try simp only [Act.put, List.getElem_toArray, List.getElem_cons_zero, List.getElem_cons_succ, List.setIfInBounds_toArray, List.set_cons_zero, List.set_cons_succ]
          (refine wpH_take 1 (by rfl) (by kernel_rfl) (by intro _ _ _ h; first | exact h | (cases h.1)) (by intro _ _ _ _ h; first | exact h | (cases h.1)) (by assumption) (fun K hK => ?_); simp only [List.setIfInBounds_toArray, List.set_cons_zero, List.set_cons_succ] at hK; go_simp; first | (refine hK _ ?_; clear hK K) | (apply Exists.intro; refine ⟨fun _ => rfl, hK _ ?_⟩; clear hK K)); (refine wpH_take 3 (by rfl) (by kernel_rfl) (by intro _ _ _ h; first | exact h | (cases h.1)) (by intro _ _ _ _ h; first | exact h | (cases h.1)) (by assumption) (fun K hK => ?_); simp only [List.setIfInBounds_toArray, List.set_cons_zero, List.set_cons_succ] at hK; go_simp; first | (refine hK _ ?_; clear hK K) | (apply Exists.intro; refine ⟨fun _ => rfl, hK _ ?_⟩; clear hK K))
          (refine wpH_only 2 (by rfl) (by kernel_rfl) (fun K hK => ?_); simp only [List.setIfInBounds_toArray, List.set_cons_zero, List.set_cons_succ] at hK; go_simp)
          have hS1 := hS0.alloc (.cells #[.int .i64 (re : Int)] 35)
          refine hK _ _ hS1 ?_; clear hK K
          have o38 : OwnOf er 1 35 (x0.alloc (.cells #[.int .i64 (re : Int)] 35)) x0.heap.size (.slice (some ⟨x0.heap.size, 0, none⟩) 1 1) [re] := OwnOf.made er 1 _ x0 _ [re] #[.int .i64 (re : Int)] 1 rfl rfl rfl (Nat.le_refl _) (by unfold maxLen; omega)
          replace o5 := o5.alloc (.cells #[.int .i64 (re : Int)] 35)
          replace z2 := z2.alloc (.cells #[.int .i64 (re : Int)] 35)
          have hbw := hbel.size
          replace hbel := hbel.alloc hbw (.cells #[.int .i64 (re : Int)] 35)
          have hsu : (x0.alloc (.cells #[.int .i64 (re : Int)] 35)).heap.size = x0.heap.size + 1 := by simp
          generalize x0.alloc (.cells #[.int .i64 (re : Int)] 35) = x1 at *
          refine wpH_only 4 (by rfl) (by kernel_rfl) (fun K hK => ?_)
          simp only [List.setIfInBounds_toArray, List.set_cons_zero, List.set_cons_succ] at hK
          refine step_appP (by rfl) (.tmp 38) (.tmp 39) 44 (by rfl) elEr.to0 (er_one' _) (by rfl) o38 (by rfl) o5.row (by omega) (by have := HPL.out; have := HUB.out; simp only [List.length_cons, List.length_nil]; omega) (by have := HPL.out; have := HUB.out; simp only [List.length_cons, List.length_nil]; unfold maxLen; omega) (fun v40 x2 o40 g40 _ => ?_)
          have hS2 : Blk 31 x2 g10 E := hS1.grown g40 (o38.notB hS1 (by decide))
          replace z2 := z2.grown g40 (o38.notB z2 (by decide))
          replace hbel := hbel.grown g40 hbel.size (fun j hj => by have := OwnOf.lt o38 j hj; omega)
          refine hK _ _ hS2 ?_; clear hK K
          try simp only [Act.put, List.getElem_toArray, List.getElem_cons_zero, List.getElem_cons_succ, List.setIfInBounds_toArray, List.set_cons_zero, List.set_cons_succ]
          refine wpH_only 5 (by rfl) (by kernel_rfl) (fun K hK => ?_)
          simp only [List.setIfInBounds_toArray, List.set_cons_zero, List.set_cons_succ] at hK
          refine step_storeA (by rfl) 31 (.tmp 6) (.tmp 36) (by rfl) (w.heap.size + 1) E (by rfl) (by rfl) aggSt z2 hlP zst_len hP1 (fun x3 hh8 b8' g8' => ?_)
          have hS3' : Blk 31 x3 g10 E := hS2.grown g8' (by simp; omega)
          have o41 := o40.off g8' z2 (by decide)
          have hbel8 := hbel.trans (b8'.mono (by omega))
          refine hK _ _ hS3' ?_; clear hK K
          try simp only [Act.put, List.getElem_toArray, List.getElem_cons_zero, List.getElem_cons_succ, List.setIfInBounds_toArray, List.set_cons_zero, List.set_cons_succ]
          (refine wpH_take 6 (by rfl) (by kernel_rfl) (by intro _ _ _ h; first | exact h | (cases h.1)) (by intro _ _ _ _ h; first | exact h | (cases h.1)) (by assumption) (fun K hK => ?_); simp only [List.setIfInBounds_toArray, List.set_cons_zero, List.set_cons_succ] at hK; go_simp; first | (refine hK _ ?_; clear hK K) | (apply Exists.intro; refine ⟨fun _ => rfl, hK _ ?_⟩; clear hK K))
          refine wpH_done (by kernel_rfl) ?_
          go_wp2_with fail
          exact bodyPost_ret (v := .tuple #[.agg E.toArray, v40]) (results_blk_tmp rfl _ _ (w.heap.size + 1) aggSt hh8 hlP rfl rfl) rfl ⟨_, _, _, _, _, _, _, by rw [← HE.out], P1.out, P2'.out, o41.lower (Nat.zero_le _), hbel8⟩
    · (refine brH_of (i := 9) (by rfl) (fun K hK => ?_); simp only [List.setIfInBounds_toArray, List.set_cons_zero, List.set_cons_succ] at hK; go_simp)
      have zg8 : Blk 31 (u0.alloc (.cells Try.zeroCells31 31)) u0.heap.size zst := (by rw [zcSt]; exact Blk.new u0 _ _)
      have hS1 := Below.alloc hS0 (Below.size hS0) (.cells Try.zeroCells31 31)
      refine hK _ _ hS1 ?_; clear hK K
      have hgg8 := Below.size hS0
      obtain ⟨g8, heg8⟩ : ∃ g, g = u0.heap.size := ⟨_, rfl⟩
      obtain ⟨u1, huu1⟩ : ∃ x, x = u0.alloc (.cells Try.zeroCells31 31) := ⟨_, rfl⟩
      rw [← huu1] at hS1 zg8
      rw [← heg8] at zg8 hgg8
      rw [← heg8, ← huu1]
      clear heg8 huu1
      (refine wpH_only 5 (by rfl) (by kernel_rfl) (fun K hK => ?_); simp only [List.setIfInBounds_toArray, List.set_cons_zero, List.set_cons_succ] at hK; go_simp)
      refine (AP.out u1 (Below.then b02.out hS1)).mono ?_
      rintro e u2 ⟨xa, xn, xc, ya, yn, yc, rfl, f1, f2, bu2⟩
      have hS2 := Below.then hS1 bu2
      have zg8 := zg8.kept bu2
      refine hK _ _ hS2 ?_; clear hK K
      try simp only [Act.put, List.getElem_toArray, List.getElem_cons_zero, List.getElem_cons_succ, List.setIfInBounds_toArray, List.set_cons_zero, List.set_cons_succ]
      (refine wpH_take 6 (by rfl) (by kernel_rfl) (by intro _ _ _ h; first | exact h | (cases h.1)) (by intro _ _ _ _ h; first | exact h | (cases h.1)) (by assumption) (fun K hK => ?_); simp only [List.setIfInBounds_toArray, List.set_cons_zero, List.set_cons_succ] at hK; go_simp; first | (refine hK _ ?_; clear hK K) | (apply Exists.intro; refine ⟨fun _ => rfl, hK _ ?_⟩; clear hK K)); (refine wpH_take 7 (by rfl) (by kernel_rfl) (by intro _ _ _ h; first | exact h | (cases h.1)) (by intro _ _ _ _ h; first | exact h | (cases h.1)) (by assumption) (fun K hK => ?_); simp only [List.setIfInBounds_toArray, List.set_cons_zero, List.set_cons_succ] at hK; go_simp; first | (refine hK _ ?_; clear hK K) | (apply Exists.intro; refine ⟨fun _ => rfl, hK _ ?_⟩; clear hK K)); (refine wpH_take 8 (by rfl) (by kernel_rfl) (by intro _ _ _ h; first | exact h | (cases h.1)) (by intro _ _ _ _ h; first | exact h | (cases h.1)) (by assumption) (fun K hK => ?_); simp only [List.setIfInBounds_toArray, List.set_cons_zero, List.set_cons_succ] at hK; go_simp; first | (refine hK _ ?_; clear hK K) | (apply Exists.intro; refine ⟨fun _ => rfl, hK _ ?_⟩; clear hK K))
      refine wpH_only 10 (by rfl) (by kernel_rfl) (fun K hK => ?_)
      simp only [List.setIfInBounds_toArray, List.set_cons_zero, List.set_cons_succ] at hK
      refine step_storeA (by rfl) 31 (.tmp 8) (.tmp 23) (by rfl) g8 (hdcs R.hd ++ [Value.slice xa xn xc, Value.slice ya yn yc]) (by rfl) (by rfl) aggSt zg8 (stc_len RK.out _ _) zst_len (stc_one _ _ _ _ _ _ _) (fun u3 y8 cg8 dg8 => ?_)
      have hS3 := Below.trans hS2 (cg8.mono hgg8)
      refine hK _ _ hS3 ?_; clear hK K
      try simp only [Act.put, List.getElem_toArray, List.getElem_cons_zero, List.getElem_cons_succ, List.setIfInBounds_toArray, List.set_cons_zero, List.set_cons_succ]
      (refine wpH_take 11 (by rfl) (by kernel_rfl) (by intro _ _ _ h; first | exact h | (cases h.1)) (by intro _ _ _ _ h; first | exact h | (cases h.1)) (by assumption) (fun K hK => ?_); simp only [List.setIfInBounds_toArray, List.set_cons_zero, List.set_cons_succ] at hK; go_simp; first | (refine hK _ ?_; clear hK K) | (apply Exists.intro; refine ⟨fun _ => rfl, hK _ ?_⟩; clear hK K))
      refine wpH_done (by kernel_rfl) ?_
      replace z1 := z1.kept hS3
      replace z2 := z2.kept hS3
      replace hbel := Below.then Hbel.out hS3
      have F1 := Lib.hid f1
      have F2 := Lib.hid f2
      have hgw8 : w.heap.size + 2 ≤ g8 := by have := HSZ.out; omega
      have hs3 := hS3.size
      have hlR := stc_len RK.out (Value.slice xa xn xc) (Value.slice ya yn yc)
      clear f1 f2
      by_cases hc : re = 0
      · have hc0 : ((re : Int) != 0) = false := by subst hc; rfl
        rw [if_pos hc] at hGo
        subst hGo
        go_wp2_with fail
        obtain ⟨X, hX⟩ : ∃ X, X = Value.slice xa xn xc := ⟨_, rfl⟩
        obtain ⟨Y, hY⟩ : ∃ Y, Y = Value.slice ya yn yc := ⟨_, rfl⟩
        rw [← hX] at F1
        rw [← hY] at F2
        rw [← hX, ← hY] at y8
        have G1 := F1
        have G2 := F2
        have hlG := stc_len hGk X Y
        have HH := Lib.hid hX
        have HH2 := Lib.hid hY
        clear hX hY
        obtain ⟨E8, hE8⟩ : ∃ E, hdcs G.hd ++ [X, Y] = E := ⟨_, rfl⟩
        rw [hE8] at hlG y8
        have HE8 := Lib.hid hE8
        have bW : Below W0.heap.size W0 u3 := Below.then HW.out hbel
        have IH3 : Hid (∀ u, Below u3.heap.size u3 u → Calls Try.prog 22 #[.agg E8.toArray, .slice a5 ul c5, .slice va V.length vc] u fun e w' => PlG W0 u e w' P2) := Lib.hid fun u hu => by rw [← HE8.out]; exact IH2.out X Y u (Below.then bW hu) G1.out G2.out
        have hsw : w2.heap.size ≤ u3.heap.size := hs3
        clear hE8 IH2 hc hs3
        refine wp_region_h ((fun u => Below u3.heap.size u3 u)) (by kernel_rfl) ?_; intro v0 hv0; simp only [List.length_cons, List.length_nil, Nat.reduceAdd, List.replicate_succ, List.replicate_zero]
        have hT0 : Below u3.heap.size u3 v0 := (by rw [hv0]; exact (Below.refl _ _).drew)
        clear hv0
        refine wpH_take 0 (by rfl) (by kernel_rfl) (by intro _ _ _ h; first | exact h | (cases h.1)) (by intro _ _ _ _ h; first | exact h | (cases h.1)) (by assumption) (fun K hK => ?_)
        simp only [List.setIfInBounds_toArray, List.set_cons_zero, List.set_cons_succ] at hK
        refine take_loadA (by rfl) 31 (.tmp 8) (by rfl) g8 (by rfl) aggSt (fun u hu => y8.kept hu) hlG (hK _ ?_)
        clear hK K
        try simp only [Act.put, List.getElem_toArray, List.getElem_cons_zero, List.getElem_cons_succ, List.setIfInBounds_toArray, List.set_cons_zero, List.set_cons_succ]
        (refine wpH_take 1 (by rfl) (by kernel_rfl) (by intro _ _ _ h; first | exact h | (cases h.1)) (by intro _ _ _ _ h; first | exact h | (cases h.1)) (by assumption) (fun K hK => ?_); simp only [List.setIfInBounds_toArray, List.set_cons_zero, List.set_cons_succ] at hK; go_simp; first | (refine hK _ ?_; clear hK K) | (apply Exists.intro; refine ⟨fun _ => rfl, hK _ ?_⟩; clear hK K)); (refine wpH_take 2 (by rfl) (by kernel_rfl) (by intro _ _ _ h; first | exact h | (cases h.1)) (by intro _ _ _ _ h; first | exact h | (cases h.1)) (by assumption) (fun K hK => ?_); simp only [List.setIfInBounds_toArray, List.set_cons_zero, List.set_cons_succ] at hK; go_simp; first | (refine hK _ ?_; clear hK K) | (apply Exists.intro; refine ⟨fun _ => rfl, hK _ ?_⟩; clear hK K)); (refine wpH_take 3 (by rfl) (by kernel_rfl) (by intro _ _ _ h; first | exact h | (cases h.1)) (by intro _ _ _ _ h; first | exact h | (cases h.1)) (by assumption) (fun K hK => ?_); simp only [List.setIfInBounds_toArray, List.set_cons_zero, List.set_cons_succ] at hK; go_simp; first | (refine hK _ ?_; clear hK K) | (apply Exists.intro; refine ⟨fun _ => rfl, hK _ ?_⟩; clear hK K))
        refine wpH_all [4, 8] (by kernel_rfl) (by simp) ?_
        intro i hi
        simp only [List.mem_cons, List.not_mem_nil, or_false] at hi
        rcases hi with rfl | rfl
        · (refine brH_of (i := 4) (by rfl) (fun K hK => ?_); simp only [List.setIfInBounds_toArray, List.set_cons_zero, List.set_cons_succ] at hK; go_simp)
          refine (IH3.out v0 hT0).mono ?_
          rintro e v1 ⟨pa, pn, pc, qa, qn, qc, vo, rfl, p1, p2, o4, bv1⟩
          obtain ⟨oa, oc, rfl, _⟩ := o4.form' ul HPL.out
          have hT1 := Below.then hT0 bv1
          refine hK _ _ hT1 ?_; clear hK K
          try simp only [Act.put, List.getElem_toArray, List.getElem_cons_zero, List.getElem_cons_succ, List.setIfInBounds_toArray, List.set_cons_zero, List.set_cons_succ]
          (refine wpH_take 5 (by rfl) (by kernel_rfl) (by intro _ _ _ h; first | exact h | (cases h.1)) (by intro _ _ _ _ h; first | exact h | (cases h.1)) (by assumption) (fun K hK => ?_); simp only [List.setIfInBounds_toArray, List.set_cons_zero, List.set_cons_succ] at hK; go_simp; first | (refine hK _ ?_; clear hK K) | (apply Exists.intro; refine ⟨fun _ => rfl, hK _ ?_⟩; clear hK K)); (refine wpH_take 6 (by rfl) (by kernel_rfl) (by intro _ _ _ h; first | exact h | (cases h.1)) (by intro _ _ _ _ h; first | exact h | (cases h.1)) (by assumption) (fun K hK => ?_); simp only [List.setIfInBounds_toArray, List.set_cons_zero, List.set_cons_succ] at hK; go_simp; first | (refine hK _ ?_; clear hK K) | (apply Exists.intro; refine ⟨fun _ => rfl, hK _ ?_⟩; clear hK K)); (refine wpH_take 7 (by rfl) (by kernel_rfl) (by intro _ _ _ h; first | exact h | (cases h.1)) (by intro _ _ _ _ h; first | exact h | (cases h.1)) (by assumption) (fun K hK => ?_); simp only [List.setIfInBounds_toArray, List.set_cons_zero, List.set_cons_succ] at hK; go_simp; first | (refine hK _ ?_; clear hK K) | (apply Exists.intro; refine ⟨fun _ => rfl, hK _ ?_⟩; clear hK K))
          (refine wpH_only 8 (by rfl) (by kernel_rfl) (fun K hK => ?_); simp only [List.setIfInBounds_toArray, List.set_cons_zero, List.set_cons_succ] at hK; go_simp)
          have zg10 : Blk 31 (v1.alloc (.cells Try.zeroCells31 31)) v1.heap.size zst := (by rw [zcSt]; exact Blk.new v1 _ _)
          have hT2 := Below.alloc hT1 (Below.size hT1) (.cells Try.zeroCells31 31)
          refine hK _ _ hT2 ?_; clear hK K
          have hgg10 := Below.size hT1
          obtain ⟨g10, heg10⟩ : ∃ g, g = v1.heap.size := ⟨_, rfl⟩
          obtain ⟨v2, huv2⟩ : ∃ x, x = v1.alloc (.cells Try.zeroCells31 31) := ⟨_, rfl⟩
          replace o4 := o4.alloc (.cells Try.zeroCells31 31)
          rw [← huv2] at hT2 zg10 o4
          rw [← heg10] at zg10 hgg10
          rw [← heg10, ← huv2]
          clear heg10 huv2
          refine wpH_only 9 (by rfl) (by kernel_rfl) (fun K hK => ?_)
          simp only [List.setIfInBounds_toArray, List.set_cons_zero, List.set_cons_succ] at hK
          refine step_storeA (by rfl) 31 (.tmp 10) (.tmp 34) (by rfl) g10 (hdcs P2.1.hd ++ [Value.slice pa pn pc, Value.slice qa qn qc]) (by rfl) (by rfl) aggSt zg10 (stc_len PK.out.hd _ _) zst_len (stc_one _ _ _ _ _ _ _) (fun v3 y10 cg10 dg10 => ?_)
          have hT3 := Below.trans hT2 (cg10.mono hgg10)
          have o5 := o4.off dg10 zg10 (by decide)
          refine hK _ _ hT3 ?_; clear hK K
          try simp only [Act.put, List.getElem_toArray, List.getElem_cons_zero, List.getElem_cons_succ, List.setIfInBounds_toArray, List.set_cons_zero, List.set_cons_succ]
          (refine wpH_take 10 (by rfl) (by kernel_rfl) (by intro _ _ _ h; first | exact h | (cases h.1)) (by intro _ _ _ _ h; first | exact h | (cases h.1)) (by assumption) (fun K hK => ?_); simp only [List.setIfInBounds_toArray, List.set_cons_zero, List.set_cons_succ] at hK; go_simp; first | (refine hK _ ?_; clear hK K) | (apply Exists.intro; refine ⟨fun _ => rfl, hK _ ?_⟩; clear hK K))
          refine wpH_done (by kernel_rfl) ?_
          replace z2 := z2.kept hT3
          replace hbel := Below.then hbel hT3
          have hgw : w.heap.size + 2 ≤ g10 := by have := HSZ.out; omega
          have hlP := stc_len PK.out.hd (Value.slice pa pn pc) (Value.slice qa qn qc)
          have P1 := Lib.hid p1
          have P2' := Lib.hid p2
          clear z1 IH3 hlG p1 p2 y8
          go_wp2_with fail
          have hP1 := stc_one P2.1.hd pa pn pc qa qn qc
          obtain ⟨E, hE⟩ : ∃ E, hdcs P2.1.hd ++ [Value.slice pa pn pc, Value.slice qa qn qc] = E := ⟨_, rfl⟩
          have HE := Lib.hid hE
          rw [hE] at hlP y10 hP1
          clear hE o4
          refine wp_region_h ((fun u => Blk 31 u g10 E)) (by kernel_rfl) ?_; intro x0 hx0; simp only [List.length_cons, List.length_nil, Nat.reduceAdd, List.replicate_succ, List.replicate_zero]
          have hS0 : Blk 31 x0 g10 E := (by rw [hx0]; exact y10.drew)
          replace z2 : Blk 31 x0 (w.heap.size + 1) zst := (by rw [hx0]; exact z2.drew)
          replace hbel : Below w.heap.size w x0 := (by rw [hx0]; exact hbel.drew)
          replace o5 : OwnOf er 1 35 x0 0 (.slice oa ul oc) P2.2 := (by rw [hx0]; exact o5.drew)
          clear hx0 y10
          refine wpH_take 0 (by rfl) (by kernel_rfl) (by intro _ _ _ h; first | exact h | (cases h.1)) (by intro _ _ _ _ h; first | exact h | (cases h.1)) (by assumption) (fun K hK => ?_)
          simp only [List.setIfInBounds_toArray, List.set_cons_zero, List.set_cons_succ] at hK
          refine take_loadA (by rfl) 31 (.tmp 10) (by rfl) g10 (by rfl) aggSt (fun u hu => hu) hlP (hK _ ?_)
          clear hK K
          try simp only [Act.put, List.getElem_toArray, List.getElem_cons_zero, List.getElem_cons_succ, List.setIfInBounds_toArray, List.set_cons_zero, List.set_cons_succ]
          (refine wpH_take 1 (by rfl) (by kernel_rfl) (by intro _ _ _ h; first | exact h | (cases h.1)) (by intro _ _ _ _ h; first | exact h | (cases h.1)) (by assumption) (fun K hK => ?_); simp only [List.setIfInBounds_toArray, List.set_cons_zero, List.set_cons_succ] at hK; go_simp; first | (refine hK _ ?_; clear hK K) | (apply Exists.intro; refine ⟨fun _ => rfl, hK _ ?_⟩; clear hK K)); (refine wpH_take 3 (by rfl) (by kernel_rfl) (by intro _ _ _ h; first | exact h | (cases h.1)) (by intro _ _ _ _ h; first | exact h | (cases h.1)) (by assumption) (fun K hK => ?_); simp only [List.setIfInBounds_toArray, List.set_cons_zero, List.set_cons_succ] at hK; go_simp; first | (refine hK _ ?_; clear hK K) | (apply Exists.intro; refine ⟨fun _ => rfl, hK _ ?_⟩; clear hK K))
          (refine wpH_only 2 (by rfl) (by kernel_rfl) (fun K hK => ?_); simp only [List.setIfInBounds_toArray, List.set_cons_zero, List.set_cons_succ] at hK; go_simp)
          have hS1 := hS0.alloc (.cells #[.int .i64 (re : Int)] 35)
          refine hK _ _ hS1 ?_; clear hK K
          have o38 : OwnOf er 1 35 (x0.alloc (.cells #[.int .i64 (re : Int)] 35)) x0.heap.size (.slice (some ⟨x0.heap.size, 0, none⟩) 1 1) [re] := OwnOf.made er 1 _ x0 _ [re] #[.int .i64 (re : Int)] 1 rfl rfl rfl (Nat.le_refl _) (by unfold maxLen; omega)
          replace o5 := o5.alloc (.cells #[.int .i64 (re : Int)] 35)
          replace z2 := z2.alloc (.cells #[.int .i64 (re : Int)] 35)
          have hbw := hbel.size
          replace hbel := hbel.alloc hbw (.cells #[.int .i64 (re : Int)] 35)
          have hsu : (x0.alloc (.cells #[.int .i64 (re : Int)] 35)).heap.size = x0.heap.size + 1 := by simp
          generalize x0.alloc (.cells #[.int .i64 (re : Int)] 35) = x1 at *
          refine wpH_only 4 (by rfl) (by kernel_rfl) (fun K hK => ?_)
          simp only [List.setIfInBounds_toArray, List.set_cons_zero, List.set_cons_succ] at hK
          refine step_appP (by rfl) (.tmp 38) (.tmp 39) 44 (by rfl) elEr.to0 (er_one' _) (by rfl) o38 (by rfl) o5.row (by omega) (by have := HPL.out; have := HUB.out; simp only [List.length_cons, List.length_nil]; omega) (by have := HPL.out; have := HUB.out; simp only [List.length_cons, List.length_nil]; unfold maxLen; omega) (fun v40 x2 o40 g40 _ => ?_)
          have hS2 : Blk 31 x2 g10 E := hS1.grown g40 (o38.notB hS1 (by decide))
          replace z2 := z2.grown g40 (o38.notB z2 (by decide))
          replace hbel := hbel.grown g40 hbel.size (fun j hj => by have := OwnOf.lt o38 j hj; omega)
          refine hK _ _ hS2 ?_; clear hK K
          try simp only [Act.put, List.getElem_toArray, List.getElem_cons_zero, List.getElem_cons_succ, List.setIfInBounds_toArray, List.set_cons_zero, List.set_cons_succ]
          refine wpH_only 5 (by rfl) (by kernel_rfl) (fun K hK => ?_)
          simp only [List.setIfInBounds_toArray, List.set_cons_zero, List.set_cons_succ] at hK
          refine step_storeA (by rfl) 31 (.tmp 6) (.tmp 36) (by rfl) (w.heap.size + 1) E (by rfl) (by rfl) aggSt z2 hlP zst_len hP1 (fun x3 hh8 b8' g8' => ?_)
          have hS3' : Blk 31 x3 g10 E := hS2.grown g8' (by simp; omega)
          have o41 := o40.off g8' z2 (by decide)
          have hbel8 := hbel.trans (b8'.mono (by omega))
          refine hK _ _ hS3' ?_; clear hK K
          try simp only [Act.put, List.getElem_toArray, List.getElem_cons_zero, List.getElem_cons_succ, List.setIfInBounds_toArray, List.set_cons_zero, List.set_cons_succ]
          (refine wpH_take 6 (by rfl) (by kernel_rfl) (by intro _ _ _ h; first | exact h | (cases h.1)) (by intro _ _ _ _ h; first | exact h | (cases h.1)) (by assumption) (fun K hK => ?_); simp only [List.setIfInBounds_toArray, List.set_cons_zero, List.set_cons_succ] at hK; go_simp; first | (refine hK _ ?_; clear hK K) | (apply Exists.intro; refine ⟨fun _ => rfl, hK _ ?_⟩; clear hK K))
          refine wpH_done (by kernel_rfl) ?_
          go_wp2_with fail
          exact bodyPost_ret (v := .tuple #[.agg E.toArray, v40]) (results_blk_tmp rfl _ _ (w.heap.size + 1) aggSt hh8 hlP rfl rfl) rfl ⟨_, _, _, _, _, _, _, by rw [← HE.out], P1.out, P2'.out, o41.lower (Nat.zero_le _), hbel8⟩
        · (refine brH_of (i := 8) (by rfl) (fun K hK => ?_); simp only [List.setIfInBounds_toArray, List.set_cons_zero, List.set_cons_succ] at hK; go_simp)
          have zg10 : Blk 31 (v0.alloc (.cells Try.zeroCells31 31)) v0.heap.size zst := (by rw [zcSt]; exact Blk.new v0 _ _)
          have hT1 := Below.alloc hT0 (Below.size hT0) (.cells Try.zeroCells31 31)
          refine hK _ _ hT1 ?_; clear hK K
          have hgg10 := Below.size hT0
          obtain ⟨g10, heg10⟩ : ∃ g, g = v0.heap.size := ⟨_, rfl⟩
          obtain ⟨v1, huv1⟩ : ∃ x, x = v0.alloc (.cells Try.zeroCells31 31) := ⟨_, rfl⟩
          rw [← huv1] at hT1 zg10
          rw [← heg10] at zg10 hgg10
          rw [← heg10, ← huv1]
          clear heg10 huv1
          (refine wpH_only 4 (by rfl) (by kernel_rfl) (fun K hK => ?_); simp only [List.setIfInBounds_toArray, List.set_cons_zero, List.set_cons_succ] at hK; go_simp)
          refine (IH3.out v1 hT1).mono ?_
          rintro e v2 ⟨pa, pn, pc, qa, qn, qc, vo, rfl, p1, p2, o4, bv2⟩
          obtain ⟨oa, oc, rfl, _⟩ := o4.form' ul HPL.out
          have hT2 := Below.then hT1 bv2
          have zg10 := zg10.kept bv2
          refine hK _ _ hT2 ?_; clear hK K
          try simp only [Act.put, List.getElem_toArray, List.getElem_cons_zero, List.getElem_cons_succ, List.setIfInBounds_toArray, List.set_cons_zero, List.set_cons_succ]
          (refine wpH_take 5 (by rfl) (by kernel_rfl) (by intro _ _ _ h; first | exact h | (cases h.1)) (by intro _ _ _ _ h; first | exact h | (cases h.1)) (by assumption) (fun K hK => ?_); simp only [List.setIfInBounds_toArray, List.set_cons_zero, List.set_cons_succ] at hK; go_simp; first | (refine hK _ ?_; clear hK K) | (apply Exists.intro; refine ⟨fun _ => rfl, hK _ ?_⟩; clear hK K)); (refine wpH_take 6 (by rfl) (by kernel_rfl) (by intro _ _ _ h; first | exact h | (cases h.1)) (by intro _ _ _ _ h; first | exact h | (cases h.1)) (by assumption) (fun K hK => ?_); simp only [List.setIfInBounds_toArray, List.set_cons_zero, List.set_cons_succ] at hK; go_simp; first | (refine hK _ ?_; clear hK K) | (apply Exists.intro; refine ⟨fun _ => rfl, hK _ ?_⟩; clear hK K)); (refine wpH_take 7 (by rfl) (by kernel_rfl) (by intro _ _ _ h; first | exact h | (cases h.1)) (by intro _ _ _ _ h; first | exact h | (cases h.1)) (by assumption) (fun K hK => ?_); simp only [List.setIfInBounds_toArray, List.set_cons_zero, List.set_cons_succ] at hK; go_simp; first | (refine hK _ ?_; clear hK K) | (apply Exists.intro; refine ⟨fun _ => rfl, hK _ ?_⟩; clear hK K))
          refine wpH_only 9 (by rfl) (by kernel_rfl) (fun K hK => ?_)
          simp only [List.setIfInBounds_toArray, List.set_cons_zero, List.set_cons_succ] at hK
          refine step_storeA (by rfl) 31 (.tmp 10) (.tmp 34) (by rfl) g10 (hdcs P2.1.hd ++ [Value.slice pa pn pc, Value.slice qa qn qc]) (by rfl) (by rfl) aggSt zg10 (stc_len PK.out.hd _ _) zst_len (stc_one _ _ _ _ _ _ _) (fun v3 y10 cg10 dg10 => ?_)
          have hT3 := Below.trans hT2 (cg10.mono hgg10)
          have o5 := o4.off dg10 zg10 (by decide)
          refine hK _ _ hT3 ?_; clear hK K
          try simp only [Act.put, List.getElem_toArray, List.getElem_cons_zero, List.getElem_cons_succ, List.setIfInBounds_toArray, List.set_cons_zero, List.set_cons_succ]
          (refine wpH_take 10 (by rfl) (by kernel_rfl) (by intro _ _ _ h; first | exact h | (cases h.1)) (by intro _ _ _ _ h; first | exact h | (cases h.1)) (by assumption) (fun K hK => ?_); simp only [List.setIfInBounds_toArray, List.set_cons_zero, List.set_cons_succ] at hK; go_simp; first | (refine hK _ ?_; clear hK K) | (apply Exists.intro; refine ⟨fun _ => rfl, hK _ ?_⟩; clear hK K))
          refine wpH_done (by kernel_rfl) ?_
          replace z2 := z2.kept hT3
          replace hbel := Below.then hbel hT3
          have hgw : w.heap.size + 2 ≤ g10 := by have := HSZ.out; omega
          have hlP := stc_len PK.out.hd (Value.slice pa pn pc) (Value.slice qa qn qc)
          have P1 := Lib.hid p1
          have P2' := Lib.hid p2
          clear z1 IH3 hlG p1 p2 y8
          go_wp2_with fail
          have hP1 := stc_one P2.1.hd pa pn pc qa qn qc
          obtain ⟨E, hE⟩ : ∃ E, hdcs P2.1.hd ++ [Value.slice pa pn pc, Value.slice qa qn qc] = E := ⟨_, rfl⟩
          have HE := Lib.hid hE
          rw [hE] at hlP y10 hP1
          clear hE o4
          refine wp_region_h ((fun u => Blk 31 u g10 E)) (by kernel_rfl) ?_; intro x0 hx0; simp only [List.length_cons, List.length_nil, Nat.reduceAdd, List.replicate_succ, List.replicate_zero]
          have hS0 : Blk 31 x0 g10 E := (by rw [hx0]; exact y10.drew)
          replace z2 : Blk 31 x0 (w.heap.size + 1) zst := (by rw [hx0]; exact z2.drew)
          replace hbel : Below w.heap.size w x0 := (by rw [hx0]; exact hbel.drew)
          replace o5 : OwnOf er 1 35 x0 0 (.slice oa ul oc) P2.2 := (by rw [hx0]; exact o5.drew)
          clear hx0 y10
          refine wpH_take 0 (by rfl) (by kernel_rfl) (by intro _ _ _ h; first | exact h | (cases h.1)) (by intro _ _ _ _ h; first | exact h | (cases h.1)) (by assumption) (fun K hK => ?_)
          simp only [List.setIfInBounds_toArray, List.set_cons_zero, List.set_cons_succ] at hK
          refine take_loadA (by rfl) 31 (.tmp 10) (by rfl) g10 (by rfl) aggSt (fun u hu => hu) hlP (hK _ ?_)
          clear hK K
          try simp only [Act.put, List.getElem_toArray, List.getElem_cons_zero, List.getElem_cons_succ, List.setIfInBounds_toArray, List.set_cons_zero, List.set_cons_succ]
          (refine wpH_take 1 (by rfl) (by kernel_rfl) (by intro _ _ _ h; first | exact h | (cases h.1)) (by intro _ _ _ _ h; first | exact h | (cases h.1)) (by assumption) (fun K hK => ?_); simp only [List.setIfInBounds_toArray, List.set_cons_zero, List.set_cons_succ] at hK; go_simp; first | (refine hK _ ?_; clear hK K) | (apply Exists.intro; refine ⟨fun _ => rfl, hK _ ?_⟩; clear hK K)); (refine wpH_take 3 (by rfl) (by kernel_rfl) (by intro _ _ _ h; first | exact h | (cases h.1)) (by intro _ _ _ _ h; first | exact h | (cases h.1)) (by assumption) (fun K hK => ?_); simp only [List.setIfInBounds_toArray, List.set_cons_zero, List.set_cons_succ] at hK; go_simp; first | (refine hK _ ?_; clear hK K) | (apply Exists.intro; refine ⟨fun _ => rfl, hK _ ?_⟩; clear hK K))
          (refine wpH_only 2 (by rfl) (by kernel_rfl) (fun K hK => ?_); simp only [List.setIfInBounds_toArray, List.set_cons_zero, List.set_cons_succ] at hK; go_simp)
          have hS1 := hS0.alloc (.cells #[.int .i64 (re : Int)] 35)
          refine hK _ _ hS1 ?_; clear hK K
          have o38 : OwnOf er 1 35 (x0.alloc (.cells #[.int .i64 (re : Int)] 35)) x0.heap.size (.slice (some ⟨x0.heap.size, 0, none⟩) 1 1) [re] := OwnOf.made er 1 _ x0 _ [re] #[.int .i64 (re : Int)] 1 rfl rfl rfl (Nat.le_refl _) (by unfold maxLen; omega)
          replace o5 := o5.alloc (.cells #[.int .i64 (re : Int)] 35)
          replace z2 := z2.alloc (.cells #[.int .i64 (re : Int)] 35)
          have hbw := hbel.size
          replace hbel := hbel.alloc hbw (.cells #[.int .i64 (re : Int)] 35)
          have hsu : (x0.alloc (.cells #[.int .i64 (re : Int)] 35)).heap.size = x0.heap.size + 1 := by simp
          generalize x0.alloc (.cells #[.int .i64 (re : Int)] 35) = x1 at *
          refine wpH_only 4 (by rfl) (by kernel_rfl) (fun K hK => ?_)
          simp only [List.setIfInBounds_toArray, List.set_cons_zero, List.set_cons_succ] at hK
          refine step_appP (by rfl) (.tmp 38) (.tmp 39) 44 (by rfl) elEr.to0 (er_one' _) (by rfl) o38 (by rfl) o5.row (by omega) (by have := HPL.out; have := HUB.out; simp only [List.length_cons, List.length_nil]; omega) (by have := HPL.out; have := HUB.out; simp only [List.length_cons, List.length_nil]; unfold maxLen; omega) (fun v40 x2 o40 g40 _ => ?_)
          have hS2 : Blk 31 x2 g10 E := hS1.grown g40 (o38.notB hS1 (by decide))
          replace z2 := z2.grown g40 (o38.notB z2 (by decide))
          replace hbel := hbel.grown g40 hbel.size (fun j hj => by have := OwnOf.lt o38 j hj; omega)
          refine hK _ _ hS2 ?_; clear hK K
          try simp only [Act.put, List.getElem_toArray, List.getElem_cons_zero, List.getElem_cons_succ, List.setIfInBounds_toArray, List.set_cons_zero, List.set_cons_succ]
          refine wpH_only 5 (by rfl) (by kernel_rfl) (fun K hK => ?_)
          simp only [List.setIfInBounds_toArray, List.set_cons_zero, List.set_cons_succ] at hK
          refine step_storeA (by rfl) 31 (.tmp 6) (.tmp 36) (by rfl) (w.heap.size + 1) E (by rfl) (by rfl) aggSt z2 hlP zst_len hP1 (fun x3 hh8 b8' g8' => ?_)
          have hS3' : Blk 31 x3 g10 E := hS2.grown g8' (by simp; omega)
          have o41 := o40.off g8' z2 (by decide)
          have hbel8 := hbel.trans (b8'.mono (by omega))
          refine hK _ _ hS3' ?_; clear hK K
          try simp only [Act.put, List.getElem_toArray, List.getElem_cons_zero, List.getElem_cons_succ, List.setIfInBounds_toArray, List.set_cons_zero, List.set_cons_succ]
          (refine wpH_take 6 (by rfl) (by kernel_rfl) (by intro _ _ _ h; first | exact h | (cases h.1)) (by intro _ _ _ _ h; first | exact h | (cases h.1)) (by assumption) (fun K hK => ?_); simp only [List.setIfInBounds_toArray, List.set_cons_zero, List.set_cons_succ] at hK; go_simp; first | (refine hK _ ?_; clear hK K) | (apply Exists.intro; refine ⟨fun _ => rfl, hK _ ?_⟩; clear hK K))
          refine wpH_done (by kernel_rfl) ?_
          go_wp2_with fail
          exact bodyPost_ret (v := .tuple #[.agg E.toArray, v40]) (results_blk_tmp rfl _ _ (w.heap.size + 1) aggSt hh8 hlP rfl rfl) rfl ⟨_, _, _, _, _, _, _, by rw [← HE.out], P1.out, P2'.out, o41.lower (Nat.zero_le _), hbel8⟩
      · have hc0 : ((re : Int) != 0) = true := by rw [bne_iff_ne]; omega
        rw [if_neg hc] at hGo
        subst hGo
        go_wp2_with (first
          | ((with_reducible show wpList _ _ _ (⟨some 27, _, _, _, _, _⟩ :: _) _ _); refine wpList_loadA (o := ⟨some 27, _, _, _, _, _⟩) (by rfl) 31 (.tmp 3) (by rfl) w.heap.size (by rfl) aggSt z1 hlC ?_)
          | ((with_reducible show wpList _ _ _ (⟨none, Op.store _ _ (Operand.tmp 27), _, _, _, _⟩ :: _) _ _); refine wpList_storeA (o := ⟨none, _, _, _, _, _⟩) (by rfl) 31 (.tmp 8) (.tmp 27) (by rfl) g8 C (by rfl) (by rfl) aggSt y8 hlC hlR hC1 (Below.refl g8 u3) (Nat.le_refl _) ?_; intro u4 y9 b9 _; have z1 := z1.below b9 (by omega); have z2 := z2.below b9 (by omega); have hbel := hbel.trans (b9.mono (by omega)); have hs3 := Nat.le_trans hs3 b9.size))
        obtain ⟨X, hX⟩ : ∃ X, X = Value.slice sa tsn sc := ⟨_, rfl⟩
        obtain ⟨Y, hY⟩ : ∃ Y, Y = Value.slice na tnn nc := ⟨_, rfl⟩
        have G1 := H1
        have G2 := H2
        rw [← hX] at G1
        rw [← hY] at G2
        rw [← HC.out, ← hX, ← hY] at y9
        have hlG := stc_len hGk X Y
        have HH := Lib.hid hX
        have HH2 := Lib.hid hY
        clear hX hY
        obtain ⟨E8, hE8⟩ : ∃ E, hdcs G.hd ++ [X, Y] = E := ⟨_, rfl⟩
        rw [hE8] at hlG y9
        have HE8 := Lib.hid hE8
        have bW : Below W0.heap.size W0 u4 := Below.then HW.out hbel
        have IH3 : Hid (∀ u, Below u4.heap.size u4 u → Calls Try.prog 22 #[.agg E8.toArray, .slice a5 ul c5, .slice va V.length vc] u fun e w' => PlG W0 u e w' P2) := Lib.hid fun u hu => by rw [← HE8.out]; exact IH2.out X Y u (Below.then bW hu) G1.out G2.out
        have hsw : w2.heap.size ≤ u4.heap.size := hs3
        clear hE8 IH2 hc hs3
        refine wp_region_h ((fun u => Below u4.heap.size u4 u)) (by kernel_rfl) ?_; intro v0 hv0; simp only [List.length_cons, List.length_nil, Nat.reduceAdd, List.replicate_succ, List.replicate_zero]
        have hT0 : Below u4.heap.size u4 v0 := (by rw [hv0]; exact (Below.refl _ _).drew)
        clear hv0
        refine wpH_take 0 (by rfl) (by kernel_rfl) (by intro _ _ _ h; first | exact h | (cases h.1)) (by intro _ _ _ _ h; first | exact h | (cases h.1)) (by assumption) (fun K hK => ?_)
        simp only [List.setIfInBounds_toArray, List.set_cons_zero, List.set_cons_succ] at hK
        refine take_loadA (by rfl) 31 (.tmp 8) (by rfl) g8 (by rfl) aggSt (fun u hu => y9.kept hu) hlG (hK _ ?_)
        clear hK K
        try simp only [Act.put, List.getElem_toArray, List.getElem_cons_zero, List.getElem_cons_succ, List.setIfInBounds_toArray, List.set_cons_zero, List.set_cons_succ]
        (refine wpH_take 1 (by rfl) (by kernel_rfl) (by intro _ _ _ h; first | exact h | (cases h.1)) (by intro _ _ _ _ h; first | exact h | (cases h.1)) (by assumption) (fun K hK => ?_); simp only [List.setIfInBounds_toArray, List.set_cons_zero, List.set_cons_succ] at hK; go_simp; first | (refine hK _ ?_; clear hK K) | (apply Exists.intro; refine ⟨fun _ => rfl, hK _ ?_⟩; clear hK K)); (refine wpH_take 2 (by rfl) (by kernel_rfl) (by intro _ _ _ h; first | exact h | (cases h.1)) (by intro _ _ _ _ h; first | exact h | (cases h.1)) (by assumption) (fun K hK => ?_); simp only [List.setIfInBounds_toArray, List.set_cons_zero, List.set_cons_succ] at hK; go_simp; first | (refine hK _ ?_; clear hK K) | (apply Exists.intro; refine ⟨fun _ => rfl, hK _ ?_⟩; clear hK K)); (refine wpH_take 3 (by rfl) (by kernel_rfl) (by intro _ _ _ h; first | exact h | (cases h.1)) (by intro _ _ _ _ h; first | exact h | (cases h.1)) (by assumption) (fun K hK => ?_); simp only [List.setIfInBounds_toArray, List.set_cons_zero, List.set_cons_succ] at hK; go_simp; first | (refine hK _ ?_; clear hK K) | (apply Exists.intro; refine ⟨fun _ => rfl, hK _ ?_⟩; clear hK K))
        refine wpH_all [4, 8] (by kernel_rfl) (by simp) ?_
        intro i hi
        simp only [List.mem_cons, List.not_mem_nil, or_false] at hi
        rcases hi with rfl | rfl
        · (refine brH_of (i := 4) (by rfl) (fun K hK => ?_); simp only [List.setIfInBounds_toArray, List.set_cons_zero, List.set_cons_succ] at hK; go_simp)
          refine (IH3.out v0 hT0).mono ?_
          rintro e v1 ⟨pa, pn, pc, qa, qn, qc, vo, rfl, p1, p2, o4, bv1⟩
          obtain ⟨oa, oc, rfl, _⟩ := o4.form' ul HPL.out
          have hT1 := Below.then hT0 bv1
          refine hK _ _ hT1 ?_; clear hK K
          try simp only [Act.put, List.getElem_toArray, List.getElem_cons_zero, List.getElem_cons_succ, List.setIfInBounds_toArray, List.set_cons_zero, List.set_cons_succ]
          (refine wpH_take 5 (by rfl) (by kernel_rfl) (by intro _ _ _ h; first | exact h | (cases h.1)) (by intro _ _ _ _ h; first | exact h | (cases h.1)) (by assumption) (fun K hK => ?_); simp only [List.setIfInBounds_toArray, List.set_cons_zero, List.set_cons_succ] at hK; go_simp; first | (refine hK _ ?_; clear hK K) | (apply Exists.intro; refine ⟨fun _ => rfl, hK _ ?_⟩; clear hK K)); (refine wpH_take 6 (by rfl) (by kernel_rfl) (by intro _ _ _ h; first | exact h | (cases h.1)) (by intro _ _ _ _ h; first | exact h | (cases h.1)) (by assumption) (fun K hK => ?_); simp only [List.setIfInBounds_toArray, List.set_cons_zero, List.set_cons_succ] at hK; go_simp; first | (refine hK _ ?_; clear hK K) | (apply Exists.intro; refine ⟨fun _ => rfl, hK _ ?_⟩; clear hK K)); (refine wpH_take 7 (by rfl) (by kernel_rfl) (by intro _ _ _ h; first | exact h | (cases h.1)) (by intro _ _ _ _ h; first | exact h | (cases h.1)) (by assumption) (fun K hK => ?_); simp only [List.setIfInBounds_toArray, List.set_cons_zero, List.set_cons_succ] at hK; go_simp; first | (refine hK _ ?_; clear hK K) | (apply Exists.intro; refine ⟨fun _ => rfl, hK _ ?_⟩; clear hK K))
          (refine wpH_only 8 (by rfl) (by kernel_rfl) (fun K hK => ?_); simp only [List.setIfInBounds_toArray, List.set_cons_zero, List.set_cons_succ] at hK; go_simp)
          have zg10 : Blk 31 (v1.alloc (.cells Try.zeroCells31 31)) v1.heap.size zst := (by rw [zcSt]; exact Blk.new v1 _ _)
          have hT2 := Below.alloc hT1 (Below.size hT1) (.cells Try.zeroCells31 31)
          refine hK _ _ hT2 ?_; clear hK K
          have hgg10 := Below.size hT1
          obtain ⟨g10, heg10⟩ : ∃ g, g = v1.heap.size := ⟨_, rfl⟩
          obtain ⟨v2, huv2⟩ : ∃ x, x = v1.alloc (.cells Try.zeroCells31 31) := ⟨_, rfl⟩
          replace o4 := o4.alloc (.cells Try.zeroCells31 31)
          rw [← huv2] at hT2 zg10 o4
          rw [← heg10] at zg10 hgg10
          rw [← heg10, ← huv2]
          clear heg10 huv2
          refine wpH_only 9 (by rfl) (by kernel_rfl) (fun K hK => ?_)
          simp only [List.setIfInBounds_toArray, List.set_cons_zero, List.set_cons_succ] at hK
          refine step_storeA (by rfl) 31 (.tmp 10) (.tmp 34) (by rfl) g10 (hdcs P2.1.hd ++ [Value.slice pa pn pc, Value.slice qa qn qc]) (by rfl) (by rfl) aggSt zg10 (stc_len PK.out.hd _ _) zst_len (stc_one _ _ _ _ _ _ _) (fun v3 y10 cg10 dg10 => ?_)
          have hT3 := Below.trans hT2 (cg10.mono hgg10)
          have o5 := o4.off dg10 zg10 (by decide)
          refine hK _ _ hT3 ?_; clear hK K
          try simp only [Act.put, List.getElem_toArray, List.getElem_cons_zero, List.getElem_cons_succ, List.setIfInBounds_toArray, List.set_cons_zero, List.set_cons_succ]
          (refine wpH_take 10 (by rfl) (by kernel_rfl) (by intro _ _ _ h; first | exact h | (cases h.1)) (by intro _ _ _ _ h; first | exact h | (cases h.1)) (by assumption) (fun K hK => ?_); simp only [List.setIfInBounds_toArray, List.set_cons_zero, List.set_cons_succ] at hK; go_simp; first | (refine hK _ ?_; clear hK K) | (apply Exists.intro; refine ⟨fun _ => rfl, hK _ ?_⟩; clear hK K))
          refine wpH_done (by kernel_rfl) ?_
          replace z2 := z2.kept hT3
          replace hbel := Below.then hbel hT3
          have hgw : w.heap.size + 2 ≤ g10 := by have := HSZ.out; omega
          have hlP := stc_len PK.out.hd (Value.slice pa pn pc) (Value.slice qa qn qc)
          have P1 := Lib.hid p1
          have P2' := Lib.hid p2
          clear z1 IH3 hlG p1 p2 y9
          go_wp2_with fail
          have hP1 := stc_one P2.1.hd pa pn pc qa qn qc
          obtain ⟨E, hE⟩ : ∃ E, hdcs P2.1.hd ++ [Value.slice pa pn pc, Value.slice qa qn qc] = E := ⟨_, rfl⟩
          have HE := Lib.hid hE
          rw [hE] at hlP y10 hP1
          clear hE o4
          refine wp_region_h ((fun u => Blk 31 u g10 E)) (by kernel_rfl) ?_; intro x0 hx0; simp only [List.length_cons, List.length_nil, Nat.reduceAdd, List.replicate_succ, List.replicate_zero]
          have hS0 : Blk 31 x0 g10 E := (by rw [hx0]; exact y10.drew)
          replace z2 : Blk 31 x0 (w.heap.size + 1) zst := (by rw [hx0]; exact z2.drew)
          replace hbel : Below w.heap.size w x0 := (by rw [hx0]; exact hbel.drew)
          replace o5 : OwnOf er 1 35 x0 0 (.slice oa ul oc) P2.2 := (by rw [hx0]; exact o5.drew)
          clear hx0 y10
          refine wpH_take 0 (by rfl) (by kernel_rfl) (by intro _ _ _ h; first | exact h | (cases h.1)) (by intro _ _ _ _ h; first | exact h | (cases h.1)) (by assumption) (fun K hK => ?_)
          simp only [List.setIfInBounds_toArray, List.set_cons_zero, List.set_cons_succ] at hK
          refine take_loadA (by rfl) 31 (.tmp 10) (by rfl) g10 (by rfl) aggSt (fun u hu => hu) hlP (hK _ ?_)
          clear hK K
          try simp only [Act.put, List.getElem_toArray, List.getElem_cons_zero, List.getElem_cons_succ, List.setIfInBounds_toArray, List.set_cons_zero, List.set_cons_succ]
          (refine wpH_take 1 (by rfl) (by kernel_rfl) (by intro _ _ _ h; first | exact h | (cases h.1)) (by intro _ _ _ _ h; first | exact h | (cases h.1)) (by assumption) (fun K hK => ?_); simp only [List.setIfInBounds_toArray, List.set_cons_zero, List.set_cons_succ] at hK; go_simp; first | (refine hK _ ?_; clear hK K) | (apply Exists.intro; refine ⟨fun _ => rfl, hK _ ?_⟩; clear hK K)); (refine wpH_take 3 (by rfl) (by kernel_rfl) (by intro _ _ _ h; first | exact h | (cases h.1)) (by intro _ _ _ _ h; first | exact h | (cases h.1)) (by assumption) (fun K hK => ?_); simp only [List.setIfInBounds_toArray, List.set_cons_zero, List.set_cons_succ] at hK; go_simp; first | (refine hK _ ?_; clear hK K) | (apply Exists.intro; refine ⟨fun _ => rfl, hK _ ?_⟩; clear hK K))
          (refine wpH_only 2 (by rfl) (by kernel_rfl) (fun K hK => ?_); simp only [List.setIfInBounds_toArray, List.set_cons_zero, List.set_cons_succ] at hK; go_simp)
          have hS1 := hS0.alloc (.cells #[.int .i64 (re : Int)] 35)
          refine hK _ _ hS1 ?_; clear hK K
          have o38 : OwnOf er 1 35 (x0.alloc (.cells #[.int .i64 (re : Int)] 35)) x0.heap.size (.slice (some ⟨x0.heap.size, 0, none⟩) 1 1) [re] := OwnOf.made er 1 _ x0 _ [re] #[.int .i64 (re : Int)] 1 rfl rfl rfl (Nat.le_refl _) (by unfold maxLen; omega)
          replace o5 := o5.alloc (.cells #[.int .i64 (re : Int)] 35)
          replace z2 := z2.alloc (.cells #[.int .i64 (re : Int)] 35)
          have hbw := hbel.size
          replace hbel := hbel.alloc hbw (.cells #[.int .i64 (re : Int)] 35)
          have hsu : (x0.alloc (.cells #[.int .i64 (re : Int)] 35)).heap.size = x0.heap.size + 1 := by simp
          generalize x0.alloc (.cells #[.int .i64 (re : Int)] 35) = x1 at *
          refine wpH_only 4 (by rfl) (by kernel_rfl) (fun K hK => ?_)
          simp only [List.setIfInBounds_toArray, List.set_cons_zero, List.set_cons_succ] at hK
          refine step_appP (by rfl) (.tmp 38) (.tmp 39) 44 (by rfl) elEr.to0 (er_one' _) (by rfl) o38 (by rfl) o5.row (by omega) (by have := HPL.out; have := HUB.out; simp only [List.length_cons, List.length_nil]; omega) (by have := HPL.out; have := HUB.out; simp only [List.length_cons, List.length_nil]; unfold maxLen; omega) (fun v40 x2 o40 g40 _ => ?_)
          have hS2 : Blk 31 x2 g10 E := hS1.grown g40 (o38.notB hS1 (by decide))
          replace z2 := z2.grown g40 (o38.notB z2 (by decide))
          replace hbel := hbel.grown g40 hbel.size (fun j hj => by have := OwnOf.lt o38 j hj; omega)
          refine hK _ _ hS2 ?_; clear hK K
          try simp only [Act.put, List.getElem_toArray, List.getElem_cons_zero, List.getElem_cons_succ, List.setIfInBounds_toArray, List.set_cons_zero, List.set_cons_succ]
          refine wpH_only 5 (by rfl) (by kernel_rfl) (fun K hK => ?_)
          simp only [List.setIfInBounds_toArray, List.set_cons_zero, List.set_cons_succ] at hK
          refine step_storeA (by rfl) 31 (.tmp 6) (.tmp 36) (by rfl) (w.heap.size + 1) E (by rfl) (by rfl) aggSt z2 hlP zst_len hP1 (fun x3 hh8 b8' g8' => ?_)
          have hS3' : Blk 31 x3 g10 E := hS2.grown g8' (by simp; omega)
          have o41 := o40.off g8' z2 (by decide)
          have hbel8 := hbel.trans (b8'.mono (by omega))
          refine hK _ _ hS3' ?_; clear hK K
          try simp only [Act.put, List.getElem_toArray, List.getElem_cons_zero, List.getElem_cons_succ, List.setIfInBounds_toArray, List.set_cons_zero, List.set_cons_succ]
          (refine wpH_take 6 (by rfl) (by kernel_rfl) (by intro _ _ _ h; first | exact h | (cases h.1)) (by intro _ _ _ _ h; first | exact h | (cases h.1)) (by assumption) (fun K hK => ?_); simp only [List.setIfInBounds_toArray, List.set_cons_zero, List.set_cons_succ] at hK; go_simp; first | (refine hK _ ?_; clear hK K) | (apply Exists.intro; refine ⟨fun _ => rfl, hK _ ?_⟩; clear hK K))
          refine wpH_done (by kernel_rfl) ?_
          go_wp2_with fail
          exact bodyPost_ret (v := .tuple #[.agg E.toArray, v40]) (results_blk_tmp rfl _ _ (w.heap.size + 1) aggSt hh8 hlP rfl rfl) rfl ⟨_, _, _, _, _, _, _, by rw [← HE.out], P1.out, P2'.out, o41.lower (Nat.zero_le _), hbel8⟩
        · (refine brH_of (i := 8) (by rfl) (fun K hK => ?_); simp only [List.setIfInBounds_toArray, List.set_cons_zero, List.set_cons_succ] at hK; go_simp)
          have zg10 : Blk 31 (v0.alloc (.cells Try.zeroCells31 31)) v0.heap.size zst := (by rw [zcSt]; exact Blk.new v0 _ _)
          have hT1 := Below.alloc hT0 (Below.size hT0) (.cells Try.zeroCells31 31)
          refine hK _ _ hT1 ?_; clear hK K
          have hgg10 := Below.size hT0
          obtain ⟨g10, heg10⟩ : ∃ g, g = v0.heap.size := ⟨_, rfl⟩
          obtain ⟨v1, huv1⟩ : ∃ x, x = v0.alloc (.cells Try.zeroCells31 31) := ⟨_, rfl⟩
          rw [← huv1] at hT1 zg10
          rw [← heg10] at zg10 hgg10
          rw [← heg10, ← huv1]
          clear heg10 huv1
          (refine wpH_only 4 (by rfl) (by kernel_rfl) (fun K hK => ?_); simp only [List.setIfInBounds_toArray, List.set_cons_zero, List.set_cons_succ] at hK; go_simp)
          refine (IH3.out v1 hT1).mono ?_
          rintro e v2 ⟨pa, pn, pc, qa, qn, qc, vo, rfl, p1, p2, o4, bv2⟩
          obtain ⟨oa, oc, rfl, _⟩ := o4.form' ul HPL.out
          have hT2 := Below.then hT1 bv2
          have zg10 := zg10.kept bv2
          refine hK _ _ hT2 ?_; clear hK K
          try simp only [Act.put, List.getElem_toArray, List.getElem_cons_zero, List.getElem_cons_succ, List.setIfInBounds_toArray, List.set_cons_zero, List.set_cons_succ]
          (refine wpH_take 5 (by rfl) (by kernel_rfl) (by intro _ _ _ h; first | exact h | (cases h.1)) (by intro _ _ _ _ h; first | exact h | (cases h.1)) (by assumption) (fun K hK => ?_); simp only [List.setIfInBounds_toArray, List.set_cons_zero, List.set_cons_succ] at hK; go_simp; first | (refine hK _ ?_; clear hK K) | (apply Exists.intro; refine ⟨fun _ => rfl, hK _ ?_⟩; clear hK K)); (refine wpH_take 6 (by rfl) (by kernel_rfl) (by intro _ _ _ h; first | exact h | (cases h.1)) (by intro _ _ _ _ h; first | exact h | (cases h.1)) (by assumption) (fun K hK => ?_); simp only [List.setIfInBounds_toArray, List.set_cons_zero, List.set_cons_succ] at hK; go_simp; first | (refine hK _ ?_; clear hK K) | (apply Exists.intro; refine ⟨fun _ => rfl, hK _ ?_⟩; clear hK K)); (refine wpH_take 7 (by rfl) (by kernel_rfl) (by intro _ _ _ h; first | exact h | (cases h.1)) (by intro _ _ _ _ h; first | exact h | (cases h.1)) (by assumption) (fun K hK => ?_); simp only [List.setIfInBounds_toArray, List.set_cons_zero, List.set_cons_succ] at hK; go_simp; first | (refine hK _ ?_; clear hK K) | (apply Exists.intro; refine ⟨fun _ => rfl, hK _ ?_⟩; clear hK K))
          refine wpH_only 9 (by rfl) (by kernel_rfl) (fun K hK => ?_)
          simp only [List.setIfInBounds_toArray, List.set_cons_zero, List.set_cons_succ] at hK
          refine step_storeA (by rfl) 31 (.tmp 10) (.tmp 34) (by rfl) g10 (hdcs P2.1.hd ++ [Value.slice pa pn pc, Value.slice qa qn qc]) (by rfl) (by rfl) aggSt zg10 (stc_len PK.out.hd _ _) zst_len (stc_one _ _ _ _ _ _ _) (fun v3 y10 cg10 dg10 => ?_)
          have hT3 := Below.trans hT2 (cg10.mono hgg10)
          have o5 := o4.off dg10 zg10 (by decide)
          refine hK _ _ hT3 ?_; clear hK K
          try simp only [Act.put, List.getElem_toArray, List.getElem_cons_zero, List.getElem_cons_succ, List.setIfInBounds_toArray, List.set_cons_zero, List.set_cons_succ]
          (refine wpH_take 10 (by rfl) (by kernel_rfl) (by intro _ _ _ h; first | exact h | (cases h.1)) (by intro _ _ _ _ h; first | exact h | (cases h.1)) (by assumption) (fun K hK => ?_); simp only [List.setIfInBounds_toArray, List.set_cons_zero, List.set_cons_succ] at hK; go_simp; first | (refine hK _ ?_; clear hK K) | (apply Exists.intro; refine ⟨fun _ => rfl, hK _ ?_⟩; clear hK K))
          refine wpH_done (by kernel_rfl) ?_
          replace z2 := z2.kept hT3
          replace hbel := Below.then hbel hT3
          have hgw : w.heap.size + 2 ≤ g10 := by have := HSZ.out; omega
          have hlP := stc_len PK.out.hd (Value.slice pa pn pc) (Value.slice qa qn qc)
          have P1 := Lib.hid p1
          have P2' := Lib.hid p2
          clear z1 IH3 hlG p1 p2 y9
          go_wp2_with fail
          have hP1 := stc_one P2.1.hd pa pn pc qa qn qc
          obtain ⟨E, hE⟩ : ∃ E, hdcs P2.1.hd ++ [Value.slice pa pn pc, Value.slice qa qn qc] = E := ⟨_, rfl⟩
          have HE := Lib.hid hE
          rw [hE] at hlP y10 hP1
          clear hE o4
          refine wp_region_h ((fun u => Blk 31 u g10 E)) (by kernel_rfl) ?_; intro x0 hx0; simp only [List.length_cons, List.length_nil, Nat.reduceAdd, List.replicate_succ, List.replicate_zero]
          have hS0 : Blk 31 x0 g10 E := (by rw [hx0]; exact y10.drew)
          replace z2 : Blk 31 x0 (w.heap.size + 1) zst := (by rw [hx0]; exact z2.drew)
          replace hbel : Below w.heap.size w x0 := (by rw [hx0]; exact hbel.drew)
          replace o5 : OwnOf er 1 35 x0 0 (.slice oa ul oc) P2.2 := (by rw [hx0]; exact o5.drew)
          clear hx0 y10
          refine wpH_take 0 (by rfl) (by kernel_rfl) (by intro _ _ _ h; first | exact h | (cases h.1)) (by intro _ _ _ _ h; first | exact h | (cases h.1)) (by assumption) (fun K hK => ?_)
          simp only [List.setIfInBounds_toArray, List.set_cons_zero, List.set_cons_succ] at hK
          refine take_loadA (by rfl) 31 (.tmp 10) (by rfl) g10 (by rfl) aggSt (fun u hu => hu) hlP (hK _ ?_)
          clear hK K
          try simp only [Act.put, List.getElem_toArray, List.getElem_cons_zero, List.getElem_cons_succ, List.setIfInBounds_toArray, List.set_cons_zero, List.set_cons_succ]
          (refine wpH_take 1 (by rfl) (by kernel_rfl) (by intro _ _ _ h; first | exact h | (cases h.1)) (by intro _ _ _ _ h; first | exact h | (cases h.1)) (by assumption) (fun K hK => ?_); simp only [List.setIfInBounds_toArray, List.set_cons_zero, List.set_cons_succ] at hK; go_simp; first | (refine hK _ ?_; clear hK K) | (apply Exists.intro; refine ⟨fun _ => rfl, hK _ ?_⟩; clear hK K)); (refine wpH_take 3 (by rfl) (by kernel_rfl) (by intro _ _ _ h; first | exact h | (cases h.1)) (by intro _ _ _ _ h; first | exact h | (cases h.1)) (by assumption) (fun K hK => ?_); simp only [List.setIfInBounds_toArray, List.set_cons_zero, List.set_cons_succ] at hK; go_simp; first | (refine hK _ ?_; clear hK K) | (apply Exists.intro; refine ⟨fun _ => rfl, hK _ ?_⟩; clear hK K))
          (refine wpH_only 2 (by rfl) (by kernel_rfl) (fun K hK => ?_); simp only [List.setIfInBounds_toArray, List.set_cons_zero, List.set_cons_succ] at hK; go_simp)
          have hS1 := hS0.alloc (.cells #[.int .i64 (re : Int)] 35)
          refine hK _ _ hS1 ?_; clear hK K
          have o38 : OwnOf er 1 35 (x0.alloc (.cells #[.int .i64 (re : Int)] 35)) x0.heap.size (.slice (some ⟨x0.heap.size, 0, none⟩) 1 1) [re] := OwnOf.made er 1 _ x0 _ [re] #[.int .i64 (re : Int)] 1 rfl rfl rfl (Nat.le_refl _) (by unfold maxLen; omega)
          replace o5 := o5.alloc (.cells #[.int .i64 (re : Int)] 35)
          replace z2 := z2.alloc (.cells #[.int .i64 (re : Int)] 35)
          have hbw := hbel.size
          replace hbel := hbel.alloc hbw (.cells #[.int .i64 (re : Int)] 35)
          have hsu : (x0.alloc (.cells #[.int .i64 (re : Int)] 35)).heap.size = x0.heap.size + 1 := by simp
          generalize x0.alloc (.cells #[.int .i64 (re : Int)] 35) = x1 at *
          refine wpH_only 4 (by rfl) (by kernel_rfl) (fun K hK => ?_)
          simp only [List.setIfInBounds_toArray, List.set_cons_zero, List.set_cons_succ] at hK
          refine step_appP (by rfl) (.tmp 38) (.tmp 39) 44 (by rfl) elEr.to0 (er_one' _) (by rfl) o38 (by rfl) o5.row (by omega) (by have := HPL.out; have := HUB.out; simp only [List.length_cons, List.length_nil]; omega) (by have := HPL.out; have := HUB.out; simp only [List.length_cons, List.length_nil]; unfold maxLen; omega) (fun v40 x2 o40 g40 _ => ?_)
          have hS2 : Blk 31 x2 g10 E := hS1.grown g40 (o38.notB hS1 (by decide))
          replace z2 := z2.grown g40 (o38.notB z2 (by decide))
          replace hbel := hbel.grown g40 hbel.size (fun j hj => by have := OwnOf.lt o38 j hj; omega)
          refine hK _ _ hS2 ?_; clear hK K
          try simp only [Act.put, List.getElem_toArray, List.getElem_cons_zero, List.getElem_cons_succ, List.setIfInBounds_toArray, List.set_cons_zero, List.set_cons_succ]
          refine wpH_only 5 (by rfl) (by kernel_rfl) (fun K hK => ?_)
          simp only [List.setIfInBounds_toArray, List.set_cons_zero, List.set_cons_succ] at hK
          refine step_storeA (by rfl) 31 (.tmp 6) (.tmp 36) (by rfl) (w.heap.size + 1) E (by rfl) (by rfl) aggSt z2 hlP zst_len hP1 (fun x3 hh8 b8' g8' => ?_)
          have hS3' : Blk 31 x3 g10 E := hS2.grown g8' (by simp; omega)
          have o41 := o40.off g8' z2 (by decide)
          have hbel8 := hbel.trans (b8'.mono (by omega))
          refine hK _ _ hS3' ?_; clear hK K
          try simp only [Act.put, List.getElem_toArray, List.getElem_cons_zero, List.getElem_cons_succ, List.setIfInBounds_toArray, List.set_cons_zero, List.set_cons_succ]
          (refine wpH_take 6 (by rfl) (by kernel_rfl) (by intro _ _ _ h; first | exact h | (cases h.1)) (by intro _ _ _ _ h; first | exact h | (cases h.1)) (by assumption) (fun K hK => ?_); simp only [List.setIfInBounds_toArray, List.set_cons_zero, List.set_cons_succ] at hK; go_simp; first | (refine hK _ ?_; clear hK K) | (apply Exists.intro; refine ⟨fun _ => rfl, hK _ ?_⟩; clear hK K))
          refine wpH_done (by kernel_rfl) ?_
          go_wp2_with fail
          exact bodyPost_ret (v := .tuple #[.agg E.toArray, v40]) (results_blk_tmp rfl _ _ (w.heap.size + 1) aggSt hh8 hlP rfl rfl) rfl ⟨_, _, _, _, _, _, _, by rw [← HE.out], P1.out, P2'.out, o41.lower (Nat.zero_le _), hbel8⟩
end Go.Proofs.Ytgjgokcpampljaa
