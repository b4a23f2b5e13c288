/- light.Play. -/
import Derived.Test.YtgjgokcpampljaaLpA
set_option linter.unusedSimpArgs false
set_option linter.unusedVariables false
namespace Go.Proofs.Ytgjgokcpampljaa
open Go.RowKit
theorem OwnOf.neT {α β : Type} {f : α → List Value} {f' : β → List Value} {size size' : Nat} {e e' : TypeId} {w : World} {B B' : Nat} {v v' : Value} {l : List α} {l' : List β} (h : OwnOf f size e w B v l) (h' : OwnOf f' size' e' w B' v' l') (hne : e ≠ e') : ∀ k, v'.ownBlock = some k → v.ownBlock ≠ some k := by
  intro k hk hk'
  rcases h.2 with ⟨rfl, _⟩ | ⟨g, cap, cur, rfl, _, hg, _⟩
  · simp [Value.ownBlock] at hk'
  · rcases h'.2 with ⟨rfl, _⟩ | ⟨g', cap', cur', rfl, _, hg', _⟩
    · simp [Value.ownBlock] at hk
    · simp only [Value.ownBlock, Option.some.injEq] at hk hk'
      subst hk hk'
      rw [hg] at hg'
      simp only [Option.some.injEq, Obj.cells.injEq] at hg'
      exact hne hg'.2.1
/-- what playing answers -/
def PlO (w : World) (e : Ending) (w' : World) (R : Sto × List Nat) : Prop := ∃ vs vn vo, e = .returned (.tuple #[.agg (hdcs R.1.hd ++ [vs, vn]).toArray, vo]) ∧ RowOf u64c 1 w' vs R.1.s ∧ RowOf u64c 1 w' vn R.1.n ∧ RowOf er 1 w' vo R.2 ∧ Below w.heap.size w w'
/-- what lies there -/
structure LpW (w : World) (T : Sto) (a b vo : Value) (L : List Nat) (u : World) : Prop where
  hb : Below w.heap.size w u
  z1 : Blk 31 u w.heap.size (hdcs T.hd ++ [a, b])
  z2 : Blk 31 u (w.heap.size + 1) zst
  oa : OwnOf u64c 1 24 u 0 a T.s
  ob : OwnOf u64c 1 24 u 0 b T.n
  oo : OwnOf er 1 35 u (w.heap.size + 2) vo L
  hs : w.heap.size + 2 ≤ u.heap.size
theorem LpW.kept {w : World} {T : Sto} {a b vo : Value} {L : List Nat} {u u' : World} (h : LpW w T a b vo L u) (hb : Below u.heap.size u u') : LpW w T a b vo L u' :=
  ⟨Below.then h.hb hb, h.z1.kept hb, h.z2.kept hb, h.oa.kept hb, h.ob.kept hb, h.oo.kept hb, Nat.le_trans h.hs hb.size⟩
/-- the store is another -/
theorem LpW.put {w : World} {T T' : Sto} {a b a' b' vo : Value} {L : List Nat} {u u' : World} (h : LpW w T a b vo L u) (hz : Blk 31 u' w.heap.size (hdcs T'.hd ++ [a', b'])) (hb : Below w.heap.size w u') (hg : u.grownBy u' (some w.heap.size)) (ha : OwnOf u64c 1 24 u 0 a' T'.s) (hb' : OwnOf u64c 1 24 u 0 b' T'.n) : LpW w T' a' b' vo L u' :=
  ⟨hb, hz, h.z2.grown hg (by simp), ha.off hg h.z1 (by decide), hb'.off hg h.z1 (by decide), h.oo.off hg h.z1 (by decide), Nat.le_trans h.hs hg.size⟩
/-- the list of errors grows -/
theorem LpW.grew {w : World} {T : Sto} {a b vo vo' : Value} {L L' : List Nat} {u u' : World} (h : LpW w T a b vo L u) (hg : u.grownBy u' vo.ownBlock) (ho : OwnOf er 1 35 u' (w.heap.size + 2) vo' L') : LpW w T a b vo' L' u' :=
  ⟨h.hb.grown hg h.hb.size (fun k hk => by have := OwnOf.lt h.oo k hk; omega), h.z1.grown hg (h.oo.notB h.z1 (by decide)), h.z2.grown hg (h.oo.notB h.z2 (by decide)), h.oa.grown hg (fun k hk => h.oa.neT h.oo (by decide) k hk), h.ob.grown hg (fun k hk => h.ob.neT h.oo (by decide) k hk), ho, Nat.le_trans h.hs hg.size⟩
theorem updc_one (h : Hd) (m : Nat) (a : Option Addr) (n c : Nat) : ∀ u ∈ updc h m (.slice a n c), u.oneCell' = true := by
  intro u hu
  unfold updc at hu
  rcases List.mem_append.1 hu with hu | hu
  · exact hdcs_one h u hu
  · simp only [List.mem_cons, List.not_mem_nil, or_false] at hu
    rcases hu with rfl | rfl <;> rfl
theorem zup_len : Try.zeroCells33.toList.length = 206 := by kernel_rfl
theorem er_one (l : List Nat) : ∀ u ∈ l.flatMap er, u.oneCell' = true := by
  intro u hu
  rw [List.mem_flatMap] at hu
  obtain ⟨x, _, hx⟩ := hu
  simp only [er, List.mem_singleton] at hx
  subst hx; rfl
set_option maxHeartbeats 4000000 in
set_option maxRecDepth 100000 in
theorem play_any (t : Sto) (k : t.In) (us : List UpS) (hus : ∀ x ∈ us, x.val.1.Ok) (ua : Option Addr) (un uc : Nat) (hun : us.length = un) (hub : un ≤ 1099511627776) (V : List Vt) (hvs : V.length ≤ 140737488355328) (hV : ∀ v ∈ V, v.Ok) (va : Option Addr) (vc : Nat) (vs vn : Value) (w : World) (h1 : RowOf u64c 1 w vs t.s) (h2 : RowOf u64c 1 w vn t.n)
    (hu : RowOf upc 206 w (.slice ua un uc) us) (hur : ∀ x ∈ us, RowOf u64c 1 w x.val.2 x.val.1.n) (hv : RowOf vtc 33 w (.slice va V.length vc) V) :
    Calls Try.prog 21 #[.agg (hdcs t.hd ++ [vs, vn]).toArray, .slice ua un uc, .slice va V.length vc] w fun e w' => PlO w e w' (plA V t (us.map (·.val.1))) := by
  obtain ⟨sa, sc, rfl, _⟩ := h1.form
  obtain ⟨na, nc, rfl, _⟩ := h2.form
  obtain ⟨sn, hsn⟩ : ∃ x, t.s.length = x := ⟨_, rfl⟩
  obtain ⟨nn, hnn⟩ : ∃ x, t.n.length = x := ⟨_, rfl⟩
  have k1 := k.sl
  have k2 := k.nl
  rw [hsn] at h1 k1 ⊢
  rw [hnn] at h2 k2 ⊢
  have e1 := Lib.hid (stc_s k.hd (Value.slice sa sn sc) (Value.slice na nn nc))
  have e2 := Lib.hid (stc_n k.hd (Value.slice sa sn sc) (Value.slice na nn nc))
  have hlC := stc_len k.hd (Value.slice sa sn sc) (Value.slice na nn nc)
  obtain ⟨C, hC⟩ : ∃ C, hdcs t.hd ++ [Value.slice sa sn sc, Value.slice na nn nc] = C := ⟨_, rfl⟩
  have HC := Lib.hid hC
  rw [hC] at e1 e2 hlC ⊢
  obtain ⟨w2, hw2⟩ : ∃ w2, w2 = (w.alloc (.cells C.toArray 31)).alloc (.cells Try.zeroCells31 31) := ⟨_, rfl⟩
  have z1 : Blk 31 w2 w.heap.size C := by rw [hw2]; exact (Blk.new w _ _).alloc _
  have z2 : Blk 31 w2 (w.heap.size + 1) zst := by
    have := Blk.new (w.alloc (.cells C.toArray 31)) 31 zst
    simp only [World.size_alloc] at this
    rw [hw2, zcSt]
    exact this
  have hbel : Below w.heap.size w w2 := by rw [hw2]; exact ((Below.refl _ _).alloc (Nat.le_refl _) _).alloc (by simp) _
  have hsz : w.heap.size + 2 ≤ w2.heap.size := by rw [hw2]; simp
  have cs := blk_cell z1 e1
  have cn := blk_cell z1 e2
  have C1 : Hid (∀ u, Below w2.heap.size w2 u → _) := Lib.hid fun u hu => uclone_any sa sn sc t.s hsn u ((h1.below hbel).below hu) (by omega)
  have C2 : Hid (∀ u, Below w2.heap.size w2 u → _) := Lib.hid fun u hu => uclone_any na nn nc t.n hnn u ((h2.below hbel).below hu) (by omega)
  have Hw2 := Lib.hid hw2
  have Hbel := Lib.hid hbel
  have K := Lib.hid k
  have Hus := Lib.hid hus
  have Hu := Lib.hid hu
  have Hur := Lib.hid hur
  have Hv := Lib.hid hv
  have HV := Lib.hid hV
  have Hvs := Lib.hid hvs
  have Hun := Lib.hid hun
  have HUB := Lib.hid hub
  have HSZ := Lib.hid hsz
  clear hw2 hbel k hus hu hur hv hV hvs hun h1 h2 hsn hnn k1 k2 hsz hub hC
  go_enter Try.func21, Try.ntmps21
  go_wp2_with (rw [← Hw2.out])
  have ks := fun u : Ext w2 => u.cell cs
  have kn := fun u : Ext w2 => u.cell cn
  refine wp_region_typed w2 7 (by kernel_rfl) (by kernel_rfl) (Below.refl _ _) ?_; simp only [List.take_succ_cons, List.take_zero, List.take_nil]
  iterate 2 (refine wpX_step (by rfl) (fun K hK => ?_); go_simp; first | (refine hK _ ?_; clear hK K) | (apply Exists.intro; refine ⟨fun _ => ?_, hK _ ?_⟩; fail; clear hK K))
  refine wpX_rel 15 (NumsT t.s) rfl (of_decide_eq_true rfl) (NumsT.mono _) (fun w3 hw3 => ?_) ?_
  · simp only [relOf, List.filter_nil, forallRel]
    refine ⟨rfl, ?_⟩
    go_simp
    refine (C1.out w3 hw3).mono ?_
    rintro e w4 ⟨v, rfl, o3, b3⟩
    obtain ⟨a3, c3, rfl, _⟩ := o3.form
    exact ⟨_, rfl, ⟨a3, _, c3, rfl, o3.lower (Nat.zero_le _)⟩, b3⟩
  iterate 2 (refine wpX_step (by rfl) (fun K hK => ?_); go_simp; first | (refine hK _ ?_; clear hK K) | (apply Exists.intro; refine ⟨fun _ => ?_, hK _ ?_⟩; fail; clear hK K))
  refine wpX_rel 18 (NumsT t.n) rfl (of_decide_eq_true rfl) (NumsT.mono _) (fun w3 hw3 => ?_) ?_
  · simp only [relOf, List.filter_nil, List.filter_cons, forallRel]
    try simp only [forallRel]
    refine ⟨rfl, ?_⟩
    go_simp
    refine (C2.out w3 hw3).mono ?_
    rintro e w4 ⟨v, rfl, o3, b3⟩
    obtain ⟨a3, c3, rfl, _⟩ := o3.form
    exact ⟨_, rfl, ⟨a3, _, c3, rfl, o3.lower (Nat.zero_le _)⟩, b3⟩
  (refine wpX_step (by rfl) (fun K hK => ?_); go_simp; first | (refine hK _ ?_; clear hK K) | (apply Exists.intro; refine ⟨fun _ => ?_, hK _ ?_⟩; fail; clear hK K))
  refine wpX_nil ?_
  intro u1 hb1 v15 h15 v18 h18
  change wpList _ _ _ [_, _, _] _ _
  obtain ⟨a3, n3, c3, rfl, o3⟩ := h15
  obtain ⟨a4, n4, c4, rfl, o4⟩ := h18
  have y0 := z1.kept hb1
  obtain ⟨x4, hx4⟩ := y0.has 204 (by omega)
  have hf4 := y0.free 204
  have y1 := y0.set 204 (Value.slice a3 n3 c3)
  rw [← HC.out, stc_set4 K.out.hd] at y1
  obtain ⟨x5, hx5⟩ := y1.has 205 (by rw [stc_len K.out.hd]; omega)
  have hf5 := y1.free 205
  have y2 := y1.set 205 (Value.slice a4 n4 c4)
  rw [stc_set5 K.out.hd] at y2
  have g1 := gset u1 w.heap.size 204 (Value.slice a3 n3 c3)
  have g2 := gset (u1.setCell ⟨w.heap.size, 204, none⟩ (Value.slice a3 n3 c3)) w.heap.size 205 (Value.slice a4 n4 c4)
  have F : LpW w t (.slice a3 n3 c3) (.slice a4 n4 c4) (.slice none 0 0) [] ((u1.setCell ⟨w.heap.size, 204, none⟩ (Value.slice a3 n3 c3)).setCell ⟨w.heap.size, 205, none⟩ (Value.slice a4 n4 c4)) :=
    ⟨((Below.then Hbel.out hb1).setCell (Nat.le_refl _) _).setCell (Nat.le_refl _) _, y2, ((z2.kept hb1).grown g1 (by simp)).grown g2 (by simp), (o3.off g1 y0 (by decide)).off g2 y1 (by decide), (o4.off g1 y0 (by decide)).off g2 y1 (by decide), OwnOf.nil er 1 _ _ _, by have := HSZ.out; have := hb1.size; simp only [World.size_setCell]; omega⟩
  clear ks kn cs cn C1 C2 e1 e2 hlC y1 y2 g1 g2 z1 z2 o3 o4
  simp only [Act.put, List.setIfInBounds_toArray, List.set_cons_zero, List.set_cons_succ]
  go_wp2_with fail
  clear hx4 hf4 hx5 hf5 y0
  generalize (u1.setCell ⟨w.heap.size, 204, none⟩ (Value.slice a3 n3 c3)).setCell ⟨w.heap.size, 205, none⟩ (Value.slice a4 n4 c4) = u2 at *
  try simp only [Act.put]
  go_loopw [8, 23] (fun vo ix wr => ∃ (k : Nat) (T : Sto) (L : List Nat) (a b : Value), k ≤ un ∧ ix = .int .i64 (k : Int) ∧ LpW w T a b vo L wr ∧ Hid (plA V t ((us.map (·.val.1)).take k) = (T, L))) (fun _ ix _ => un - (intOf ix).toNat)
  case atStart => exact ⟨0, t, [], _, _, Nat.zero_le _, rfl, F, Lib.hid rfl⟩
  case round =>
    clear F
    obtain ⟨k, T, L, a, b, hk, rfl, F, HP⟩ := hrel
    have hTi : T.In := by
      have := plA_in (V := V) K.out (us := (us.map (·.val.1)).take k) (fun u hu => by
        obtain ⟨x, hx, rfl⟩ := List.mem_map.1 (List.mem_of_mem_take hu)
        exact Hus.out x hx)
      rw [HP.out] at this; exact this
    have hLl : L.length = k := by
      have := plA_len (V := V) ((us.map (·.val.1)).take k) t
      rw [HP.out] at this
      rw [this, List.length_take, List.length_map, Hun.out]; omega
    have TI := Lib.hid hTi
    have HL := Lib.hid hLl
    obtain ⟨xa, xc, rfl, _⟩ := F.oa.form
    obtain ⟨ya, yc, rfl, _⟩ := F.ob.form
    have hlT := stc_len hTi.hd (Value.slice xa T.s.length xc) (Value.slice ya T.n.length yc)
    clear hTi hLl
    by_cases hlt : k < un
    · have hki : (k : Int) < (un : Int) := by omega
      have hub2 := HUB.out
      have hlk : k < us.length := by rw [Hun.out]; exact hlt
      obtain ⟨b, off, rfl, hr⟩ := RowOf.range upc_len (Hu.out.below F.hb) k hlk
      obtain ⟨x, hx⟩ : ∃ x, us[k] = x := ⟨_, rfl⟩
      have hxm : x ∈ us := by rw [← hx]; exact List.getElem_mem hlk
      have hxu := Lib.hid (Hus.out x hxm)
      have hxr := Hur.out x hxm
      have HX : Hid (plA V t ((us.map (·.val.1)).take (k + 1)) = (goOn V T x.val.1, L ++ [(ltA T x.val.1 V).1])) := Lib.hid (by
        have := plA_take (V := V) (t := t) (us := us.map (·.val.1)) (k := k) (u := x.val.1) (by rw [List.getElem?_map, List.getElem?_eq_getElem hlk, hx]; rfl)
        rw [this, HP.out])
      rw [hx] at hr
      obtain ⟨⟨p, vu⟩, hp⟩ := x
      change Hid p.Ok at hxu
      change RowOf u64c 1 w vu p.n at hxr
      change wr.rangeAt b (off + k * 206) (updc p.hd p.mask vu) at hr
      change Hid (plA V t ((us.map (·.val.1)).take (k + 1)) = (goOn V T p, L ++ [(ltA T p V).1])) at HX
      obtain ⟨pa, pc, rfl, _⟩ := hxr.form
      have AP : Hid (∀ u, LpW w T (Value.slice xa T.s.length xc) (Value.slice ya T.n.length yc) u8 L u → _) := Lib.hid fun u F => apply_own T TI.out p hxu.out V Hvs.out HV.out va vc (Value.slice xa T.s.length xc) (Value.slice ya T.n.length yc) (Value.slice pa p.n.length pc) u F.oa.row F.ob.row (hxr.below F.hb) (Hv.out.below F.hb)
      have hup1 := updc_one p.hd p.mask pa p.n.length pc
      have hupl := updc_len hxu.out.hd p.mask (Value.slice pa p.n.length pc)
      have hRk : (ltA T p V).2.hd.Ok := ltA_ok hxu.out
      unfold goOn at HX
      obtain ⟨⟨re, R⟩, hR⟩ : ∃ R, ltA T p V = R := ⟨_, rfl⟩
      rw [hR] at AP HX hRk
      change R.hd.Ok at hRk
      have HH := Lib.hid hx
      have RK := Lib.hid hRk
      generalize updc p.hd p.mask (Value.slice pa p.n.length pc) = D at *
      clear hx hxm hxr hR hlk hRk HP HH
      by_cases hc : re = 0
      · subst hc
        rw [if_pos rfl] at HX
        go_wp2_with (first
          | ((with_reducible show wpList _ _ _ (⟨some 26, _, _, _, _, _⟩ :: _) _ _); refine wpList_loadW (o := ⟨some 26, _, _, _, _, _⟩) 33 (.tmp 25) (by rfl) b (off + k * 206) (by rfl) aggUp hupl hr (by rfl) ?_)
          | ((with_reducible show wpList _ _ _ (⟨none, Op.store _ _ (Operand.tmp 26), _, _, _, _⟩ :: _) _ _); refine wpList_storeA (o := ⟨none, _, _, _, _, _⟩) (by rfl) 33 (.tmp 10) (.tmp 26) (by rfl) wr.heap.size D (by rfl) (by rfl) aggUp (old := Try.zeroCells33.toList) (Blk.newA wr _ _) hupl zup_len hup1 ((Below.refl wr.heap.size wr).alloc (Nat.le_refl _) _) (Nat.le_refl _) ?_; intro w3 y10 b3 _; have F := F.kept b3)
          | ((with_reducible show wpList _ _ _ (⟨some 28, _, _, _, _, _⟩ :: _) _ _); refine wpList_loadA (o := ⟨some 28, _, _, _, _, _⟩) (by rfl) 31 (.tmp 3) (by rfl) w.heap.size (by rfl) aggSt F.z1 hlT ?_)
          | ((with_reducible show wpList _ _ _ (⟨some 29, _, _, _, _, _⟩ :: _) _ _); refine wpList_loadA (o := ⟨some 29, _, _, _, _, _⟩) (by rfl) 33 (.tmp 10) (by rfl) wr.heap.size (by rfl) aggUp y10 hupl ?_)
          | (go_at_call 15; refine (AP.out _ F).mono ?_; rintro e w5 ⟨v1, v2, rfl, r1, r2, b5⟩; obtain ⟨p1, q1, rfl, _⟩ := r1.form; obtain ⟨p2, q2, rfl, _⟩ := r2.form; have F := F.kept b5)
          | ((with_reducible show wpList _ _ _ (⟨none, Op.store _ _ (Operand.tmp 32), _, _, _, _⟩ :: _) _ _); refine wpList_storeA (o := ⟨none, _, _, _, _, _⟩) (by rfl) 31 (.tmp 11) (.tmp 32) (by rfl) w5.heap.size (hdcs R.hd ++ [.slice p1 R.s.length q1, .slice p2 R.n.length q2]) (by rfl) (by rfl) aggSt (old := zst) (by rw [zcSt]; exact Blk.new w5 _ _) (stc_len RK.out _ _) zst_len (stc_one _ _ _ _ _ _ _) ((Below.refl w5.heap.size w5).alloc (Nat.le_refl _) _) (Nat.le_refl _) ?_; intro w6 y11 b6 _; have F := F.kept b6; have r1 := r1.kept b6; have r2 := r2.kept b6)
          | ((with_reducible show wpList _ _ _ (⟨some 36, _, _, _, _, _⟩ :: _) _ _); refine wpList_loadA (o := ⟨some 36, _, _, _, _, _⟩) (by rfl) 31 (.tmp 11) (by rfl) w5.heap.size (by rfl) aggSt y11 (stc_len RK.out _ _) ?_)
          | ((with_reducible show wpList _ _ _ (⟨none, Op.store _ _ (Operand.tmp 36), _, _, _, _⟩ :: _) _ _); refine wpList_storeA (o := ⟨none, _, _, _, _, _⟩) (by rfl) 31 (.tmp 3) (.tmp 36) (by rfl) w.heap.size (hdcs R.hd ++ [.slice p1 R.s.length q1, .slice p2 R.n.length q2]) (by rfl) (by rfl) aggSt F.z1 (stc_len RK.out _ _) hlT (stc_one _ _ _ _ _ _ _) F.hb (Nat.le_refl _) ?_; intro w7 y7 b7 g7; have F := F.put y7 b7 g7 r1 r2)
          | ((with_reducible show wpList _ _ _ (⟨some 39, _, _, _, _, _⟩ :: _) _ _); refine wpList_buildW (o := ⟨some 39, _, _, _, _, _⟩) (by rfl) 44 1 [(0, .tmp 38)] (by rfl) elEr.to0 [0] [.int .i64 0] (by rfl) (by rfl) (by rfl) (by omega) (by omega) ?_; intro w8 _ r8 b8; have F := F.kept b8)
          | ((with_reducible show wpList _ _ _ (⟨some 40, _, _, _, _, _⟩ :: _) _ _); refine wpList_appB (o := ⟨some 40, _, _, _, _, _⟩) (by rfl) (.tmp 37) (.tmp 39) 44 (by rfl) elEr.to0 (er_one _) (by rfl) F.oo (by rfl) r8 F.hs (by rw [HL.out]; have := HUB.out; simp only [List.length_cons, List.length_nil]; omega) (by rw [HL.out]; have := HUB.out; simp only [List.length_cons, List.length_nil]; unfold maxLen; omega) ?_; intro v9 w9 o9 g9 _; have F := F.grew g9 o9))
        go_roundw
        case rel => exact ⟨k + 1, R, L ++ [0], _, _, by omega, by go_num, F, HX⟩
        case measure => simp [intOf]; omega
      · rw [if_neg hc] at HX
        have hc1 : ((re : Int) == 0) = false := by rw [beq_eq_false_iff_ne]; omega
        go_wp2_with (first
          | ((with_reducible show wpList _ _ _ (⟨some 26, _, _, _, _, _⟩ :: _) _ _); refine wpList_loadW (o := ⟨some 26, _, _, _, _, _⟩) 33 (.tmp 25) (by rfl) b (off + k * 206) (by rfl) aggUp hupl hr (by rfl) ?_)
          | ((with_reducible show wpList _ _ _ (⟨none, Op.store _ _ (Operand.tmp 26), _, _, _, _⟩ :: _) _ _); refine wpList_storeA (o := ⟨none, _, _, _, _, _⟩) (by rfl) 33 (.tmp 10) (.tmp 26) (by rfl) wr.heap.size D (by rfl) (by rfl) aggUp (old := Try.zeroCells33.toList) (Blk.newA wr _ _) hupl zup_len hup1 ((Below.refl wr.heap.size wr).alloc (Nat.le_refl _) _) (Nat.le_refl _) ?_; intro w3 y10 b3 _; have F := F.kept b3)
          | ((with_reducible show wpList _ _ _ (⟨some 28, _, _, _, _, _⟩ :: _) _ _); refine wpList_loadA (o := ⟨some 28, _, _, _, _, _⟩) (by rfl) 31 (.tmp 3) (by rfl) w.heap.size (by rfl) aggSt F.z1 hlT ?_)
          | ((with_reducible show wpList _ _ _ (⟨some 29, _, _, _, _, _⟩ :: _) _ _); refine wpList_loadA (o := ⟨some 29, _, _, _, _, _⟩) (by rfl) 33 (.tmp 10) (by rfl) wr.heap.size (by rfl) aggUp y10 hupl ?_)
          | (go_at_call 15; refine (AP.out _ F).mono ?_; rintro e w5 ⟨v1, v2, rfl, r1, r2, b5⟩; obtain ⟨p1, q1, rfl, _⟩ := r1.form; obtain ⟨p2, q2, rfl, _⟩ := r2.form; have F := F.kept b5)
          | ((with_reducible show wpList _ _ _ (⟨none, Op.store _ _ (Operand.tmp 32), _, _, _, _⟩ :: _) _ _); refine wpList_storeA (o := ⟨none, _, _, _, _, _⟩) (by rfl) 31 (.tmp 11) (.tmp 32) (by rfl) w5.heap.size (hdcs R.hd ++ [.slice p1 R.s.length q1, .slice p2 R.n.length q2]) (by rfl) (by rfl) aggSt (old := zst) (by rw [zcSt]; exact Blk.new w5 _ _) (stc_len RK.out _ _) zst_len (stc_one _ _ _ _ _ _ _) ((Below.refl w5.heap.size w5).alloc (Nat.le_refl _) _) (Nat.le_refl _) ?_; intro w6 y11 b6 _; have F := F.kept b6)
          | ((with_reducible show wpList _ _ _ (⟨some 39, _, _, _, _, _⟩ :: _) _ _); refine wpList_buildW (o := ⟨some 39, _, _, _, _, _⟩) (by rfl) 44 1 [(0, .tmp 38)] (by rfl) elEr.to0 [re] [.int .i64 (re : Int)] (by rfl) (by rfl) (by rfl) (by omega) (by omega) ?_; intro w8 _ r8 b8; have F := F.kept b8)
          | ((with_reducible show wpList _ _ _ (⟨some 40, _, _, _, _, _⟩ :: _) _ _); refine wpList_appB (o := ⟨some 40, _, _, _, _, _⟩) (by rfl) (.tmp 37) (.tmp 39) 44 (by rfl) elEr.to0 (er_one _) (by rfl) F.oo (by rfl) r8 F.hs (by rw [HL.out]; have := HUB.out; simp only [List.length_cons, List.length_nil]; omega) (by rw [HL.out]; have := HUB.out; simp only [List.length_cons, List.length_nil]; unfold maxLen; omega) ?_; intro v9 w9 o9 g9 _; have F := F.grew g9 o9))
        go_roundw
        case rel => exact ⟨k + 1, T, L ++ [re], _, _, by omega, by go_num, F, HX⟩
        case measure => simp [intOf]; omega
    · obtain rfl : k = un := by omega
      have HPe : plA V t (us.map (·.val.1)) = (T, L) := by
        have := HP.out
        rw [List.take_of_length_le (by rw [List.length_map, Hun.out]; exact Nat.le_refl _)] at this
        exact this
      go_wp2_with (first
        | ((with_reducible show wpList _ _ _ (⟨some 42, _, _, _, _, _⟩ :: _) _ _); refine wpList_loadA (o := ⟨some 42, _, _, _, _, _⟩) (by rfl) 31 (.tmp 3) (by rfl) w.heap.size (by rfl) aggSt F.z1 hlT ?_)
        | ((with_reducible show wpList _ _ _ (⟨none, Op.store _ _ (Operand.tmp 42), _, _, _, _⟩ :: _) _ _); refine wpList_storeA (o := ⟨none, _, _, _, _, _⟩) (by rfl) 31 (.tmp 6) (.tmp 42) (by rfl) (w.heap.size + 1) (hdcs T.hd ++ [.slice xa T.s.length xc, .slice ya T.n.length yc]) (by rfl) (by rfl) aggSt F.z2 hlT zst_len (stc_one _ _ _ _ _ _ _) F.hb (by omega) ?_; intro w9 hh9 hbel9 gg9; have f1 := (F.oa.off gg9 F.z2 (by decide)).row; have f2 := (F.ob.off gg9 F.z2 (by decide)).row; have f3 := (F.oo.off gg9 F.z2 (by decide)).row))
      rw [HPe]
      exact bodyPost_ret (v := .tuple #[.agg (hdcs T.hd ++ [Value.slice xa T.s.length xc, Value.slice ya T.n.length yc]).toArray, u8]) (results_blk_tmp rfl _ _ (w.heap.size + 1) aggSt hh9 hlT rfl rfl) rfl ⟨_, _, _, rfl, f1, f2, f3, hbel9⟩
end Go.Proofs.Ytgjgokcpampljaa
