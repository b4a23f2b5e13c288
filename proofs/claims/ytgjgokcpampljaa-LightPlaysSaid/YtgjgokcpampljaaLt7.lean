/- light.Apply: it goes on; an update without next seats. (gen_lt6.py prints this text.) -/
import Derived.Test.YtgjgokcpampljaaLt5
set_option linter.unusedSimpArgs false
set_option linter.unusedVariables false
namespace Go.Proofs.Ytgjgokcpampljaa
open Go.RowKit
set_option maxHeartbeats 4000000 in
set_option maxRecDepth 100000 in
theorem apply_ok0 (t : Sto) (k : t.In) (p : Upd) (ku : p.Ok) (V : List Vt) (hvs : V.length ≤ 140737488355328) (hV : ∀ v ∈ V, v.Ok) (va : Option Addr) (vc : Nat) (vs vn vu : Value) (w : World) (h1 : RowOf u64c 1 w vs t.s) (h2 : RowOf u64c 1 w vn t.n) (h3 : RowOf u64c 1 w vu p.n) (hv : RowOf vtc 33 w (.slice va V.length vc) V) (hok : badL t p = false) (l : List Nat) (hJ : jdg t p.hd.num = (0, l)) (hq : quoB p.mask l.length = true) (hvt : vtd p.mask (fun x => hasV V x (sumB (wH p.hd))) l = true) (hn : badN p = false) (hu : p.n.length = 0) (hper : t.hd.num / 8 ≠ p.hd.num / 8) :
    Calls Try.prog 15 #[.agg (hdcs t.hd ++ [vs, vn]).toArray, .agg (updc p.hd p.mask vu).toArray, .slice va V.length vc] w fun e w' => StoO w e w' (0, ⟨p.hd, l, p.n⟩) := by
  have hright := rightB_len (jdg_right hok hJ)
  obtain ⟨sa, sc, rfl, _⟩ := h1.form
  obtain ⟨na, nc, rfl, _⟩ := h2.form
  obtain ⟨ua, uc, rfl, _⟩ := h3.form
  obtain ⟨sn, hsn⟩ : ∃ x, t.s.length = x := ⟨_, rfl⟩
  obtain ⟨nn, hnn⟩ : ∃ x, t.n.length = x := ⟨_, rfl⟩
  obtain ⟨un, hun⟩ : ∃ x, p.n.length = x := ⟨_, rfl⟩
  have k1 := k.sl
  have k2 := k.nl
  have k3 := ku.nl
  unfold badL at hok
  rw [hsn] at h1 k1 ⊢
  rw [hnn] at h2 k2 hok ⊢
  rw [hun] at h3 k3 hok ⊢
  have e1 := Lib.hid (stc_s k.hd (Value.slice sa sn sc) (Value.slice na nn nc))
  have e2 := Lib.hid (stc_n k.hd (Value.slice sa sn sc) (Value.slice na nn nc))
  have e3 := Lib.hid (updc_n ku.hd p.mask (Value.slice ua un uc))
  have e4 := Lib.hid (updc_m ku.hd p.mask (Value.slice ua un uc))
  have e5 := Lib.hid (hdcs_num' k.hd [Value.slice sa sn sc, Value.slice na nn nc])
  have e6 := Lib.hid (hdcs_num' ku.hd [u64v p.mask, Value.slice ua un uc])
  have e7 := Lib.hid (updc_hd ku.hd p.mask (Value.slice ua un uc))
  have e8 := Lib.hid (hdcs_nex' ku.hd [u64v p.mask, Value.slice ua un uc])
  have hlC := stc_len k.hd (Value.slice sa sn sc) (Value.slice na nn nc)
  have hlH := hdcs_len ku.hd
  have hlN : (by8 p.hd.nex).length = 32 := by rw [by8_len, ku.hd.nex]
  have hnum := ku.hd.num
  have hmask := ku.mask
  obtain ⟨C, hC⟩ : ∃ C, hdcs t.hd ++ [Value.slice sa sn sc, Value.slice na nn nc] = C := ⟨_, rfl⟩
  change Hid ((updc p.hd p.mask (Value.slice ua un uc))[32]? = _) at e6
  change Hid (((updc p.hd p.mask (Value.slice ua un uc)).drop 172).take 32 = _) at e8
  rw [hC] at e1 e2 e5 hlC ⊢
  generalize updc p.hd p.mask (Value.slice ua un uc) = D at *
  obtain ⟨w3, hw3, F, hbel⟩ := ltW_new w C D
  obtain ⟨Rs, hRs⟩ : ∃ r, r = rightB t.s := ⟨_, rfl⟩
  obtain ⟨Rn, hRn⟩ : ∃ r, r = rightB t.n := ⟨_, rfl⟩
  obtain ⟨Ru, hRu⟩ : ∃ r, r = rightB p.n := ⟨_, rfl⟩
  obtain ⟨N0, hN0⟩ : ∃ r, r = decide (nn = 0) := ⟨_, rfl⟩
  obtain ⟨U0, hU0⟩ : ∃ r, r = decide (un = 0) := ⟨_, rfl⟩
  rw [← hRs, ← hRn, ← hRu, ← hN0, ← hU0] at hok
  have A1 := right_at hsn k1 (h1.below hbel) hRs
  have A2 := right_at hnn k2 (h2.below hbel) hRn
  have A3 := right_at hun k3 (h3.below hbel) hRu
  have B2 := none_at na nn nc hN0
  have B3 := none_at ua un uc hU0
  have B4 := none_atB ua un uc hU0
  have J := judge_at t k p.hd.num hnum _ _ C hC w3 (h1.below hbel) (h2.below hbel) 0 l (by rw [hJ]; rfl) (by rw [hJ])
  obtain ⟨ln, hln⟩ : ∃ x, l.length = x := ⟨_, rfl⟩
  rw [hln] at hright hq
  have Q := quorum_at hmask hright.1 hright.2 hq
  have Hln := Lib.hid hln
  unfold u64v at e4 e5 e6
  have cs := blk_cell F.z1 e1
  have cn := blk_cell F.z1 e2
  have dn := blk_cell F.z2 e3
  have dh := blk_cell F.z2 e6
  have hg3 := F.z3.lt
  have Hw3 := Lib.hid hw3
  have Hbel := Lib.hid hbel
  have H1 := Lib.hid (h1.below hbel)
  have H2 := Lib.hid (h2.below hbel)
  have H3 := Lib.hid (h3.below hbel)
  have Hv := Lib.hid (hv.below hbel)
  have Hok := Lib.hid hok
  have K := Lib.hid k
  have Ku := Lib.hid ku
  have Hsn := Lib.hid hsn
  have Hnn := Lib.hid hnn
  have Hun := Lib.hid hun
  have HU0 := Lib.hid hU0
  have Hvs := Lib.hid hvs
  have HV := Lib.hid hV
  have K2 := Lib.hid k2
  have K3 := Lib.hid k3
  rw [hun] at hu
  obtain ⟨S, hS⟩ : ∃ S, sumB (wH p.hd) = S := ⟨_, rfl⟩
  have hS32 : S.length = 32 := by rw [← hS]; exact sumB_len _
  rw [hS] at hvt
  have CS : Hid (∀ u, Calls Try.prog 77 #[.agg (hdcs p.hd).toArray] u fun e w' => e = .returned (.agg (by8 S).toArray) ∧ Below u.heap.size u w') := Lib.hid fun u => by
    rw [← hS]; exact bksum_any p.hd ku.hd u
  have hlj : ∀ x ∈ l, x < 18446744073709551616 := jdg_lt k hJ
  have CV : Hid (∀ u la lc, RowOf u64c 1 u (.slice la ln lc) l → Below w.heap.size w u → Calls Try.prog 76 #[.slice la ln lc, .int .u64 (p.mask : Int), .agg (by8 S).toArray, .slice va V.length vc] u fun e w' => e = .returned (.bool true) ∧ Below u.heap.size u w') := Lib.hid fun u la lc hr hb => by
    rw [← hvt]; exact voted_any la ln lc l hln (by omega) hlj p.mask hmask S hS32 va V.length vc V rfl hvs hV u hr (hv.below hb)
  have Hri := Lib.hid hright
  have hnu := k.hd.num
  have P1 := period_atB t.hd.num hnu
  have P2 := period_atB p.hd.num hnum
  obtain ⟨q1, hq1⟩ : ∃ q, t.hd.num / 8 = q := ⟨_, rfl⟩
  obtain ⟨q2, hq2⟩ : ∃ q, p.hd.num / 8 = q := ⟨_, rfl⟩
  rw [hq1] at P1 hper
  rw [hq2] at P2 hper
  have hpe : ((q1 : Int) == (q2 : Int)) = false := by rw [beq_eq_false_iff_ne]; omega
  clear hq1 hq2 hper hnu
  clear hw3 hbel hsn hnn hun h1 h2 h3 hv hRs hRn hRu hN0 hU0 hok k ku hvs hV hC k1 k2 k3 hright hln hq hJ hvt hS hS32 hlj hn
  generalize V.length = vl at *
  have hu0 : U0 = true := by rw [HU0.out]; exact decide_eq_true hu
  subst hu0
  clear hu
  have key : (Rs = true ∧ N0 = true) ∨ (Rs = true ∧ N0 = false ∧ Rn = true) := by
    have := Hok.out
    revert this; cases Rs <;> cases N0 <;> cases Rn <;> cases Ru <;> simp
  rcases key with ⟨rfl, rfl⟩ | ⟨rfl, rfl, rfl⟩
  all_goals
    go_enter Try.func15, Try.ntmps15
    go_wp2_with (first
      | (rw [← Hw3.out])
      | (go_at_call 73; first
        | ((with_reducible refine (B2.out _).mono ?_); rintro e w4 ⟨rfl, rfl⟩)
        | ((with_reducible refine (B3.out _).mono ?_); rintro e w4 ⟨rfl, rfl⟩))
      | (go_at_call 72; first
        | ((with_reducible refine (A1.out _ F.hb).mono ?_); rintro e w4 ⟨rfl, b4⟩; have F := F.kept b4; have cs := blk_cell F.z1 e1; have cn := blk_cell F.z1 e2; have dn := blk_cell F.z2 e3; have dh := blk_cell F.z2 e6)
        | ((with_reducible refine (A2.out _ F.hb).mono ?_); rintro e w4 ⟨rfl, b4⟩; have F := F.kept b4; have cs := blk_cell F.z1 e1; have cn := blk_cell F.z1 e2; have dn := blk_cell F.z2 e3; have dh := blk_cell F.z2 e6)
        | ((with_reducible refine (A3.out _ F.hb).mono ?_); rintro e w4 ⟨rfl, b4⟩; have F := F.kept b4; have cs := blk_cell F.z1 e1; have cn := blk_cell F.z1 e2; have dn := blk_cell F.z2 e3; have dh := blk_cell F.z2 e6))
      | (refine wpList_loadA (o := ⟨some 41, _, _, _, _, _⟩) (by rfl) 31 (.tmp 3) (by rfl) w.heap.size (by rfl) aggSt F.z1 hlC ?_)
      | (go_at_call 74; (with_reducible refine (J.out _ F.hb).mono ?_); rintro e w5 ⟨v, rfl, rl, b5⟩; obtain ⟨la, lc, rfl, _⟩ := rl.form; have F := F.kept b5; have cs := blk_cell F.z1 e1; have cn := blk_cell F.z1 e2; have ch := blk_cell F.z1 e5; have dn := blk_cell F.z2 e3; have dh := blk_cell F.z2 e6; have dm := blk_cell F.z2 e4; rw [Hln.out] at rl ⊢; have Rl := Lib.hid rl; clear rl)
      | (go_at_call 75; (with_reducible refine (Q.out _).mono ?_); rintro e w6 ⟨rfl, rfl⟩))
    have RD := rng F.z2 e7
    have km := fun u : Ext w5 => u.cell dm
    have hb0 := Below.then Hbel.out F.hb
    have CV5 : Hid (∀ u, Below w5.heap.size w5 u → _) := Lib.hid fun u hu => CV.out u la lc (Rl.out.below hu) (Below.then hb0 hu)
    refine wp_region_typed w5 10 (by kernel_rfl) (by kernel_rfl) (Below.refl _ _) ?_; simp only [List.take_succ_cons, List.take_zero, List.take_nil]
    iterate 4 (refine wpX_step (by rfl) (fun K hK => ?_); go_simp; first | (refine hK _ ?_; clear hK K) | (apply Exists.intro; refine ⟨fun _ => ?_, hK _ ?_⟩; fail; clear hK K))
    (refine wpX_step (by rfl) (fun K hK => ?_); rw [if_pos (by rfl)]; refine ⟨_, fun u => const_loadm _ (.tmp 65) (by rfl) _ _ (by rfl) aggHd hlH (rangeAt.ext RD.out u), hK _ ?_⟩; clear hK K; simp only [Act.put, List.setIfInBounds_toArray, List.set_cons_zero, List.set_cons_succ])
    (refine wpX_step (by rfl) (fun K hK => ?_); go_simp; first | (refine hK _ ?_; clear hK K) | (apply Exists.intro; refine ⟨fun _ => ?_, hK _ ?_⟩; exact CS.out _; clear hK K))
    (refine wpX_step (by rfl) (fun K hK => ?_); go_simp; first | (refine hK _ ?_; clear hK K) | (apply Exists.intro; refine ⟨fun _ => ?_, hK _ ?_⟩; fail; clear hK K))
    (refine wpX_step (by rfl) (fun K hK => ?_); go_simp; first | (refine hK _ ?_; clear hK K) | (apply Exists.intro; refine ⟨fun _ => ?_, hK _ ?_⟩; exact CV5.out _ (Subtype.property _); clear hK K))
    iterate 2 (refine wpX_step (by rfl) (fun K hK => ?_); go_simp; first | (refine hK _ ?_; clear hK K) | (apply Exists.intro; refine ⟨fun _ => ?_, hK _ ?_⟩; fail; clear hK K))
    refine wpX_nil ?_
    intro u2 hb2
    change forallRel u2 [] _ _
    simp only [forallRel, List.drop_succ_cons, List.drop_zero, List.drop_nil]
    have F := F.kept hb2
    clear km cs cn ch dn dh dm CV5
    go_wp2_with fail
    have dn := blk_cell F.z2 e3
    have kn := fun u : Ext u2 => u.cell dn
    refine wp_region_typed u2 14 (by kernel_rfl) (by kernel_rfl) (Below.refl _ _) ?_; simp only [List.take_succ_cons, List.take_zero, List.take_nil]
    iterate 2 (refine wpX_step (by rfl) (fun K hK => ?_); go_simp; first | (refine hK _ ?_; clear hK K) | (apply Exists.intro; refine ⟨fun _ => ?_, hK _ ?_⟩; fail; clear hK K))
    (refine wpX_step (by rfl) (fun K hK => ?_); go_simp; first | (refine hK _ ?_; clear hK K) | (apply Exists.intro; refine ⟨fun _ => ?_, hK _ ?_⟩; exact B4.out _; clear hK K))
    iterate 11 (refine wpX_step (by rfl) (fun K hK => ?_); go_simp; first | (refine hK _ ?_; clear hK K) | (apply Exists.intro; refine ⟨fun _ => ?_, hK _ ?_⟩; fail; clear hK K))
    refine wpX_nil ?_
    intro u3 hb3
    change forallRel u3 [] _ _
    simp only [forallRel, List.drop_succ_cons, List.drop_zero, List.drop_nil]
    have F := F.kept hb3
    clear kn dn
    go_wp2_with fail
    have b53 := Below.then hb2 hb3
    have dn := blk_cell F.z2 e3
    have RD := rng F.z2 e7
    have kn := fun u : Ext u3 => u.cell dn
    have C1 : Hid (∀ u, Below u3.heap.size u3 u → _) := Lib.hid fun u hu => uclone_any la ln lc l Hln.out u (Rl.out.below (Below.then b53 hu)) (by have := Hri.out; omega)
    have C2 : Hid (∀ u, Below u3.heap.size u3 u → _) := Lib.hid fun u hu => uclone_any ua un uc p.n Hun.out u (H3.out.below (Below.then F.hb hu)) (by have := K3.out; omega)
    refine wp_region_typed u3 9 (by kernel_rfl) (by kernel_rfl) (Below.refl _ _) ?_; simp only [List.take_succ_cons, List.take_zero, List.take_nil]
    (refine wpX_step (by rfl) (fun K hK => ?_); go_simp; first | (refine hK _ ?_; clear hK K) | (apply Exists.intro; refine ⟨fun _ => ?_, hK _ ?_⟩; fail; clear hK K))
    (refine wpX_step (by rfl) (fun K hK => ?_); rw [if_pos (by rfl)]; refine ⟨_, fun u => const_loadm _ (.tmp 87) (by rfl) _ _ (by rfl) aggHd hlH (rangeAt.ext RD.out u), hK _ ?_⟩; clear hK K; simp only [Act.put, List.setIfInBounds_toArray, List.set_cons_zero, List.set_cons_succ])
    (refine wpX_step (by rfl) (fun K hK => ?_); go_simp; first | (refine hK _ ?_; clear hK K) | (apply Exists.intro; refine ⟨fun _ => ?_, hK _ ?_⟩; fail; clear hK K))
    refine wpX_rel 90 (NumsT l) rfl (of_decide_eq_true rfl) (NumsT.mono _) (fun w2 hw2 => ?_) ?_
    · simp only [relOf, List.filter_nil, forallRel]
      refine ⟨rfl, ?_⟩
      go_simp
      refine (C1.out w2 hw2).mono ?_
      rintro e w3 ⟨v, rfl, o3, b3⟩
      obtain ⟨a3, c3, rfl, _⟩ := o3.form
      exact ⟨_, rfl, ⟨a3, _, c3, rfl, o3.lower (Nat.zero_le _)⟩, b3⟩
    iterate 2 (refine wpX_step (by rfl) (fun K hK => ?_); go_simp; first | (refine hK _ ?_; clear hK K) | (apply Exists.intro; refine ⟨fun _ => ?_, hK _ ?_⟩; fail; clear hK K))
    refine wpX_rel 93 (NumsT p.n) rfl (of_decide_eq_true rfl) (NumsT.mono _) (fun w2 hw2 => ?_) ?_
    · simp only [relOf, List.filter_nil, List.filter_cons, forallRel]
      try simp only [forallRel]
      refine ⟨rfl, ?_⟩
      go_simp
      refine (C2.out w2 hw2).mono ?_
      rintro e w3 ⟨v, rfl, o3, b3⟩
      obtain ⟨a3, c3, rfl, _⟩ := o3.form
      exact ⟨_, rfl, ⟨a3, _, c3, rfl, o3.lower (Nat.zero_le _)⟩, b3⟩
    refine wpX_rel 94 (StV p.hd l p.n) rfl (of_decide_eq_true rfl) (StV.mono _ _ _) (fun w2 hw2 => ?_) ?_
    · change forallRel w2 [(93, _), (90, _)] _ _
      rintro v41 ⟨a4, n4, c4, rfl, r4⟩ v36 ⟨a3, n3, c3, rfl, r3⟩
      simp only [forallRel]
      refine ⟨rfl, ?_⟩
      simp only [Act.put, List.setIfInBounds_toArray, List.set_cons_zero, List.set_cons_succ]
      exact good_build (o := ⟨some 94, _, _, _, _, _⟩) 31 [(0, .tmp 88), (1, .tmp 90), (2, .tmp 93)] (by rfl) _ (by rfl) _ (built_st Ku.out.hd a3 n3 c3 a4 n4 c4) ⟨a3, n3, c3, a4, n4, c4, rfl, r3, r4⟩
    refine wpX_rel 10 (PtrS u3.heap.size) rfl (of_decide_eq_true rfl) (PtrS.mono _) (fun w2 hw2 => ?_) ?_
    · simp only [relOf, List.filter_nil, List.filter_cons, forallRel]
      try simp only [forallRel]
      refine ⟨rfl, ?_⟩
      go_simp
      exact ⟨(Below.refl _ _).alloc (Nat.le_refl _) _, w2.heap.size, rfl, hw2.size, by rw [zcSt]; exact Blk.new w2 _ _⟩
    refine wpX_nil ?_
    intro u4 hb4 v36 h36 v41 h41 v42 h42 v7 h7
    change wpList _ _ _ [_] _ _
    obtain ⟨a3, n3, c3, rfl, _⟩ := h36
    obtain ⟨a4, n4, c4, rfl, _⟩ := h41
    obtain ⟨qa, qn, qc, ra, rn', rc, rfl, r3, r4⟩ := h42
    obtain ⟨gs, rfl, hgs, hz7⟩ := h7
    have hg3' : w.heap.size + 2 < w3.heap.size := hg3
    have hfar : w3.heap.size ≤ gs := Nat.le_trans F.hb.size hgs
    have F := F.kept hb4
    have hlz := zst_len
    have hlT := stc_len Ku.out.hd (.slice qa qn qc) (.slice ra rn' rc)
    clear kn dn C1 C2 RD
    simp only [Act.put, List.setIfInBounds_toArray, List.set_cons_zero, List.set_cons_succ]
    go_wp2_with (first
      | ((with_reducible show wpList _ _ _ (⟨none, Op.store _ _ (Operand.tmp 94), _, _, _, _⟩ :: _) _ _); refine wpList_storeA (o := ⟨none, _, _, _, _, _⟩) (by rfl) 31 (.tmp 10) (.tmp 94) (by rfl) gs (hdcs p.hd ++ [.slice qa qn qc, .slice ra rn' rc]) (by rfl) (by rfl) aggSt hz7 hlT hlz (stc_one _ _ _ _ _ _ _) (Below.refl gs u4) (Nat.le_refl _) ?_; intro w8 y8 bb8 gg8; have F := F.keptB hg3' hfar bb8; have r38 := r3.off gg8 hz7 (by decide); have r48 := r4.off gg8 hz7 (by decide)))
    have dn := blk_cell F.z2 e3
    have ch := blk_cell F.z1 e5
    have dh := blk_cell F.z2 e6
    have kn := fun u : Ext w8 => u.cell dn
    have kh := fun u : Ext w8 => u.cell ch
    have kd := fun u : Ext w8 => u.cell dh
    refine wp_region_typed w8 14 (by kernel_rfl) (by kernel_rfl) (Below.refl _ _) ?_; simp only [List.take_succ_cons, List.take_zero, List.take_nil]
    iterate 2 (refine wpX_step (by rfl) (fun K hK => ?_); go_simp; first | (refine hK _ ?_; clear hK K) | (apply Exists.intro; refine ⟨fun _ => ?_, hK _ ?_⟩; fail; clear hK K))
    (refine wpX_step (by rfl) (fun K hK => ?_); go_simp; first | (refine hK _ ?_; clear hK K) | (apply Exists.intro; refine ⟨fun _ => ?_, hK _ ?_⟩; exact B4.out _; clear hK K))
    iterate 4 (refine wpX_step (by rfl) (fun K hK => ?_); go_simp; first | (refine hK _ ?_; clear hK K) | (apply Exists.intro; refine ⟨fun _ => ?_, hK _ ?_⟩; fail; clear hK K))
    (refine wpX_step (by rfl) (fun K hK => ?_); go_simp; first | (refine hK _ ?_; clear hK K) | (apply Exists.intro; refine ⟨fun _ => ?_, hK _ ?_⟩; exact P1.out _; clear hK K))
    iterate 3 (refine wpX_step (by rfl) (fun K hK => ?_); go_simp; first | (refine hK _ ?_; clear hK K) | (apply Exists.intro; refine ⟨fun _ => ?_, hK _ ?_⟩; fail; clear hK K))
    (refine wpX_step (by rfl) (fun K hK => ?_); go_simp; first | (refine hK _ ?_; clear hK K) | (apply Exists.intro; refine ⟨fun _ => ?_, hK _ ?_⟩; exact P2.out _; clear hK K))
    iterate 2 (refine wpX_step (by rfl) (fun K hK => ?_); go_simp; first | (refine hK _ ?_; clear hK K) | (apply Exists.intro; refine ⟨fun _ => ?_, hK _ ?_⟩; fail; clear hK K))
    refine wpX_nil ?_
    intro u9 hb9
    change forallRel u9 [] _ _
    simp only [forallRel, List.drop_succ_cons, List.drop_zero, List.drop_nil]
    have F := F.kept hb9
    have y9 := y8.kept hb9
    have r39 := r38.kept hb9
    have r49 := r48.kept hb9
    clear kn dn kh kd ch dh
    go_wp2_with (first | (refine wpList_loadA (o := ⟨some 113, _, _, _, _, _⟩) (by rfl) 31 (.tmp 10) (by rfl) gs (by rfl) aggSt y9 hlT ?_) | ((with_reducible show wpList _ _ _ (⟨none, Op.store _ _ (Operand.tmp 113), _, _, _, _⟩ :: _) _ _); refine wpList_storeA (o := ⟨none, _, _, _, _, _⟩) (by rfl) 31 (.tmp 6) (.tmp 113) (by rfl) (w.heap.size + 2) (hdcs p.hd ++ [.slice qa qn qc, Value.slice ra rn' rc]) (by rfl) (by rfl) aggSt F.z3 hlT zst_len (stc_one _ _ _ _ _ _ _) (Below.then Hbel.out F.hb) (by omega) ?_; intro w9 hh9 hbel9 gg9; have f3 := r39.off gg9 F.z3 (by decide); have f4 := r49.off gg9 F.z3 (by decide)))
    exact bodyPost_ret (v := .tuple #[.agg (hdcs p.hd ++ [Value.slice qa qn qc, Value.slice ra rn' rc]).toArray, .int .i64 0]) (results_blk_tmp rfl _ _ (w.heap.size + 2) aggSt hh9 hlT rfl rfl) rfl ⟨_, _, rfl, f3, f4, hbel9⟩
end Go.Proofs.Ytgjgokcpampljaa
