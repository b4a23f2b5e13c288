/- light.Apply: votes. (gen_lt4.py prints this text.) -/
import Derived.Test.YtgjgokcpampljaaLt4
set_option linter.unusedSimpArgs false
set_option linter.unusedVariables false
namespace Go.Proofs.Ytgjgokcpampljaa
open Go.RowKit
theorem jdg_lt {t : Sto} (k : t.In) {m : Nat} {l : List Nat} (h : jdg t m = (0, l)) : ∀ x ∈ l, x < 18446744073709551616 := by
  unfold jdg at h
  split at h
  · simp at h
  · split at h
    · simp only [Prod.mk.injEq, true_and] at h; rw [← h]; exact k.s
    · split at h
      · simp at h
      · simp only [Prod.mk.injEq, true_and] at h; rw [← h]; exact k.n
set_option maxHeartbeats 4000000 in
set_option maxRecDepth 100000 in
theorem apply_vote (t : Sto) (k : t.In) (p : Upd) (ku : p.Ok) (V : List Vt) (hvs : V.length ≤ 140737488355328) (hV : ∀ v ∈ V, v.Ok) (va : Option Addr) (vc : Nat) (vs vn vu : Value) (w : World) (h1 : RowOf u64c 1 w vs t.s) (h2 : RowOf u64c 1 w vn t.n) (h3 : RowOf u64c 1 w vu p.n) (hv : RowOf vtc 33 w (.slice va V.length vc) V) (hok : badL t p = false) (l : List Nat) (hJ : jdg t p.hd.num = (0, l)) (hq : quoB p.mask l.length = true) (hvt : vtd p.mask (fun x => hasV V x (sumB (wH p.hd))) l = false) :
    Calls Try.prog 15 #[.agg (hdcs t.hd ++ [vs, vn]).toArray, .agg (updc p.hd p.mask vu).toArray, .slice va V.length vc] w fun e w' => StoO w e w' (27, zSto) := by
  have hright := rightB_len (jdg_right hok hJ)
  obtain ⟨sa, sc, rfl, _⟩ := h1.form
  obtain ⟨na, nc, rfl, _⟩ := h2.form
  obtain ⟨ua, uc, rfl, _⟩ := h3.form
  obtain ⟨sn, hsn⟩ : ∃ x, t.s.length = x := ⟨_, rfl⟩
  obtain ⟨nn, hnn⟩ : ∃ x, t.n.length = x := ⟨_, rfl⟩
  obtain ⟨un, hun⟩ : ∃ x, p.n.length = x := ⟨_, rfl⟩
  have k1 := k.sl
  have k2 := k.nl
  have k3 := ku.nl
  unfold badL at hok
  rw [hsn] at h1 k1 ⊢
  rw [hnn] at h2 k2 hok ⊢
  rw [hun] at h3 k3 hok ⊢
  have e1 := Lib.hid (stc_s k.hd (Value.slice sa sn sc) (Value.slice na nn nc))
  have e2 := Lib.hid (stc_n k.hd (Value.slice sa sn sc) (Value.slice na nn nc))
  have e3 := Lib.hid (updc_n ku.hd p.mask (Value.slice ua un uc))
  have e4 := Lib.hid (updc_m ku.hd p.mask (Value.slice ua un uc))
  have e5 := Lib.hid (hdcs_num' k.hd [Value.slice sa sn sc, Value.slice na nn nc])
  have e6 := Lib.hid (hdcs_num' ku.hd [u64v p.mask, Value.slice ua un uc])
  have e7 := Lib.hid (updc_hd ku.hd p.mask (Value.slice ua un uc))
  have e8 := Lib.hid (hdcs_nex' ku.hd [u64v p.mask, Value.slice ua un uc])
  have hlC := stc_len k.hd (Value.slice sa sn sc) (Value.slice na nn nc)
  have hlH := hdcs_len ku.hd
  have hlN : (by8 p.hd.nex).length = 32 := by rw [by8_len, ku.hd.nex]
  have hnum := ku.hd.num
  have hmask := ku.mask
  obtain ⟨C, hC⟩ : ∃ C, hdcs t.hd ++ [Value.slice sa sn sc, Value.slice na nn nc] = C := ⟨_, rfl⟩
  change Hid ((updc p.hd p.mask (Value.slice ua un uc))[32]? = _) at e6
  change Hid (((updc p.hd p.mask (Value.slice ua un uc)).drop 172).take 32 = _) at e8
  rw [hC] at e1 e2 e5 hlC ⊢
  generalize updc p.hd p.mask (Value.slice ua un uc) = D at *
  obtain ⟨w3, hw3, F, hbel⟩ := ltW_new w C D
  obtain ⟨Rs, hRs⟩ : ∃ r, r = rightB t.s := ⟨_, rfl⟩
  obtain ⟨Rn, hRn⟩ : ∃ r, r = rightB t.n := ⟨_, rfl⟩
  obtain ⟨Ru, hRu⟩ : ∃ r, r = rightB p.n := ⟨_, rfl⟩
  obtain ⟨N0, hN0⟩ : ∃ r, r = decide (nn = 0) := ⟨_, rfl⟩
  obtain ⟨U0, hU0⟩ : ∃ r, r = decide (un = 0) := ⟨_, rfl⟩
  rw [← hRs, ← hRn, ← hRu, ← hN0, ← hU0] at hok
  have A1 := right_at hsn k1 (h1.below hbel) hRs
  have A2 := right_at hnn k2 (h2.below hbel) hRn
  have A3 := right_at hun k3 (h3.below hbel) hRu
  have B2 := none_at na nn nc hN0
  have B3 := none_at ua un uc hU0
  have B4 := none_atB ua un uc hU0
  have J := judge_at t k p.hd.num hnum _ _ C hC w3 (h1.below hbel) (h2.below hbel) 0 l (by rw [hJ]; rfl) (by rw [hJ])
  obtain ⟨ln, hln⟩ : ∃ x, l.length = x := ⟨_, rfl⟩
  rw [hln] at hright hq
  have Q := quorum_at hmask hright.1 hright.2 hq
  have Hln := Lib.hid hln
  unfold u64v at e4 e5 e6
  have cs := blk_cell F.z1 e1
  have cn := blk_cell F.z1 e2
  have dn := blk_cell F.z2 e3
  have dh := blk_cell F.z2 e6
  have hg3 := F.z3.lt
  have Hw3 := Lib.hid hw3
  have Hbel := Lib.hid hbel
  have H1 := Lib.hid (h1.below hbel)
  have H2 := Lib.hid (h2.below hbel)
  have H3 := Lib.hid (h3.below hbel)
  have Hv := Lib.hid (hv.below hbel)
  have Hok := Lib.hid hok
  have K := Lib.hid k
  have Ku := Lib.hid ku
  have Hsn := Lib.hid hsn
  have Hnn := Lib.hid hnn
  have Hun := Lib.hid hun
  have HU0 := Lib.hid hU0
  have Hvs := Lib.hid hvs
  have HV := Lib.hid hV
  have K2 := Lib.hid k2
  have K3 := Lib.hid k3
  obtain ⟨S, hS⟩ : ∃ S, sumB (wH p.hd) = S := ⟨_, rfl⟩
  have hS32 : S.length = 32 := by rw [← hS]; exact sumB_len _
  rw [hS] at hvt
  have CS : Hid (∀ u, Calls Try.prog 77 #[.agg (hdcs p.hd).toArray] u fun e w' => e = .returned (.agg (by8 S).toArray) ∧ Below u.heap.size u w') := Lib.hid fun u => by
    rw [← hS]; exact bksum_any p.hd ku.hd u
  have hlj : ∀ x ∈ l, x < 18446744073709551616 := jdg_lt k hJ
  have CV : Hid (∀ u la lc, RowOf u64c 1 u (.slice la ln lc) l → Below w.heap.size w u → Calls Try.prog 76 #[.slice la ln lc, .int .u64 (p.mask : Int), .agg (by8 S).toArray, .slice va V.length vc] u fun e w' => e = .returned (.bool false) ∧ Below u.heap.size u w') := Lib.hid fun u la lc hr hb => by
    rw [← hvt]; exact voted_any la ln lc l hln (by omega) hlj p.mask hmask S hS32 va V.length vc V rfl hvs hV u hr (hv.below hb)
  clear hw3 hbel hsn hnn hun h1 h2 h3 hv hRs hRn hRu hN0 hU0 hok k ku hvs hV hC k1 k2 k3 hright hln hq hJ hvt hS hS32 hlj
  generalize V.length = vl at *
  have key : (Rs = true ∧ N0 = true ∧ U0 = true) ∨ (Rs = true ∧ N0 = false ∧ Rn = true ∧ U0 = true) ∨ (Rs = true ∧ N0 = true ∧ U0 = false ∧ Ru = true) ∨ (Rs = true ∧ N0 = false ∧ Rn = true ∧ U0 = false ∧ Ru = true) := by
    have := Hok.out
    revert this; cases Rs <;> cases N0 <;> cases Rn <;> cases U0 <;> cases Ru <;> simp
  rcases key with ⟨rfl, rfl, rfl⟩ | ⟨rfl, rfl, rfl, rfl⟩ | ⟨rfl, rfl, rfl, rfl⟩ | ⟨rfl, rfl, rfl, rfl, rfl⟩
  all_goals
    go_enter Try.func15, Try.ntmps15
    go_wp2_with (first
      | (rw [← Hw3.out])
      | (go_at_call 73; first
        | ((with_reducible refine (B2.out _).mono ?_); rintro e w4 ⟨rfl, rfl⟩)
        | ((with_reducible refine (B3.out _).mono ?_); rintro e w4 ⟨rfl, rfl⟩))
      | (go_at_call 72; first
        | ((with_reducible refine (A1.out _ F.hb).mono ?_); rintro e w4 ⟨rfl, b4⟩; have F := F.kept b4; have cs := blk_cell F.z1 e1; have cn := blk_cell F.z1 e2; have dn := blk_cell F.z2 e3; have dh := blk_cell F.z2 e6)
        | ((with_reducible refine (A2.out _ F.hb).mono ?_); rintro e w4 ⟨rfl, b4⟩; have F := F.kept b4; have cs := blk_cell F.z1 e1; have cn := blk_cell F.z1 e2; have dn := blk_cell F.z2 e3; have dh := blk_cell F.z2 e6)
        | ((with_reducible refine (A3.out _ F.hb).mono ?_); rintro e w4 ⟨rfl, b4⟩; have F := F.kept b4; have cs := blk_cell F.z1 e1; have cn := blk_cell F.z1 e2; have dn := blk_cell F.z2 e3; have dh := blk_cell F.z2 e6))
      | (refine wpList_loadA (o := ⟨some 41, _, _, _, _, _⟩) (by rfl) 31 (.tmp 3) (by rfl) w.heap.size (by rfl) aggSt F.z1 hlC ?_)
      | (go_at_call 74; (with_reducible refine (J.out _ F.hb).mono ?_); rintro e w5 ⟨v, rfl, rl, b5⟩; obtain ⟨la, lc, rfl, _⟩ := rl.form; have F := F.kept b5; have cs := blk_cell F.z1 e1; have cn := blk_cell F.z1 e2; have ch := blk_cell F.z1 e5; have dn := blk_cell F.z2 e3; have dh := blk_cell F.z2 e6; have dm := blk_cell F.z2 e4; rw [Hln.out] at rl ⊢; have Rl := Lib.hid rl; clear rl)
      | (go_at_call 75; (with_reducible refine (Q.out _).mono ?_); rintro e w6 ⟨rfl, rfl⟩))
    have RD := rng F.z2 e7
    have km := fun u : Ext w5 => u.cell dm
    have hb0 := Below.then Hbel.out F.hb
    have CV5 : Hid (∀ u, Below w5.heap.size w5 u → _) := Lib.hid fun u hu => CV.out u la lc (Rl.out.below hu) (Below.then hb0 hu)
    refine wp_region_typed w5 10 (by kernel_rfl) (by kernel_rfl) (Below.refl _ _) ?_; simp only [List.take_succ_cons, List.take_zero, List.take_nil]
    iterate 4 (refine wpX_step (by rfl) (fun K hK => ?_); go_simp; first | (refine hK _ ?_; clear hK K) | (apply Exists.intro; refine ⟨fun _ => ?_, hK _ ?_⟩; fail; clear hK K))
    (refine wpX_step (by rfl) (fun K hK => ?_); rw [if_pos (by rfl)]; refine ⟨_, fun u => const_loadm _ (.tmp 65) (by rfl) _ _ (by rfl) aggHd hlH (rangeAt.ext RD.out u), hK _ ?_⟩; clear hK K; simp only [Act.put, List.setIfInBounds_toArray, List.set_cons_zero, List.set_cons_succ])
    (refine wpX_step (by rfl) (fun K hK => ?_); go_simp; first | (refine hK _ ?_; clear hK K) | (apply Exists.intro; refine ⟨fun _ => ?_, hK _ ?_⟩; exact CS.out _; clear hK K))
    (refine wpX_step (by rfl) (fun K hK => ?_); go_simp; first | (refine hK _ ?_; clear hK K) | (apply Exists.intro; refine ⟨fun _ => ?_, hK _ ?_⟩; fail; clear hK K))
    (refine wpX_step (by rfl) (fun K hK => ?_); go_simp; first | (refine hK _ ?_; clear hK K) | (apply Exists.intro; refine ⟨fun _ => ?_, hK _ ?_⟩; exact CV5.out _ (Subtype.property _); clear hK K))
    iterate 2 (refine wpX_step (by rfl) (fun K hK => ?_); go_simp; first | (refine hK _ ?_; clear hK K) | (apply Exists.intro; refine ⟨fun _ => ?_, hK _ ?_⟩; fail; clear hK K))
    refine wpX_nil ?_
    intro u2 hb2
    change forallRel u2 [] _ _
    simp only [forallRel, List.drop_succ_cons, List.drop_zero, List.drop_nil]
    have F := F.kept hb2
    clear km cs cn ch dn dh dm CV5
    go_wp2_with (first | ((with_reducible show wpList _ _ _ (⟨none, Op.store _ _ (Operand.tmp 71), _, _, _, _⟩ :: _) _ _); refine wpList_storeA (o := ⟨none, _, _, _, _, _⟩) (by rfl) 31 (.tmp 6) (.tmp 71) (by rfl) (w.heap.size + 2) zst (by rfl) (by first | rfl | exact congrArg Value.agg zcSt) aggSt F.z3 zst_len zst_len zst_one (Below.then Hbel.out F.hb) (by omega) ?_; intro w9 hh9 hbel9 _))
    exact bodyPost_ret (v := .tuple #[.agg zst.toArray, .int .i64 27]) (results_blk_tmp rfl _ _ (w.heap.size + 2) aggSt hh9 zst_len rfl rfl) rfl (StoO.zero 27 hbel9)
set_option maxHeartbeats 4000000 in
set_option maxRecDepth 100000 in
theorem apply_next (t : Sto) (k : t.In) (p : Upd) (ku : p.Ok) (V : List Vt) (hvs : V.length ≤ 140737488355328) (hV : ∀ v ∈ V, v.Ok) (va : Option Addr) (vc : Nat) (vs vn vu : Value) (w : World) (h1 : RowOf u64c 1 w vs t.s) (h2 : RowOf u64c 1 w vn t.n) (h3 : RowOf u64c 1 w vu p.n) (hv : RowOf vtc 33 w (.slice va V.length vc) V) (hok : badL t p = false) (l : List Nat) (hJ : jdg t p.hd.num = (0, l)) (hq : quoB p.mask l.length = true) (hvt : vtd p.mask (fun x => hasV V x (sumB (wH p.hd))) l = true) (hn : badN p = true) :
    Calls Try.prog 15 #[.agg (hdcs t.hd ++ [vs, vn]).toArray, .agg (updc p.hd p.mask vu).toArray, .slice va V.length vc] w fun e w' => StoO w e w' (28, zSto) := by
  have hright := rightB_len (jdg_right hok hJ)
  obtain ⟨sa, sc, rfl, _⟩ := h1.form
  obtain ⟨na, nc, rfl, _⟩ := h2.form
  obtain ⟨ua, uc, rfl, _⟩ := h3.form
  obtain ⟨sn, hsn⟩ : ∃ x, t.s.length = x := ⟨_, rfl⟩
  obtain ⟨nn, hnn⟩ : ∃ x, t.n.length = x := ⟨_, rfl⟩
  obtain ⟨un, hun⟩ : ∃ x, p.n.length = x := ⟨_, rfl⟩
  have k1 := k.sl
  have k2 := k.nl
  have k3 := ku.nl
  unfold badL at hok
  rw [hsn] at h1 k1 ⊢
  rw [hnn] at h2 k2 hok ⊢
  rw [hun] at h3 k3 hok ⊢
  have e1 := Lib.hid (stc_s k.hd (Value.slice sa sn sc) (Value.slice na nn nc))
  have e2 := Lib.hid (stc_n k.hd (Value.slice sa sn sc) (Value.slice na nn nc))
  have e3 := Lib.hid (updc_n ku.hd p.mask (Value.slice ua un uc))
  have e4 := Lib.hid (updc_m ku.hd p.mask (Value.slice ua un uc))
  have e5 := Lib.hid (hdcs_num' k.hd [Value.slice sa sn sc, Value.slice na nn nc])
  have e6 := Lib.hid (hdcs_num' ku.hd [u64v p.mask, Value.slice ua un uc])
  have e7 := Lib.hid (updc_hd ku.hd p.mask (Value.slice ua un uc))
  have e8 := Lib.hid (hdcs_nex' ku.hd [u64v p.mask, Value.slice ua un uc])
  have hlC := stc_len k.hd (Value.slice sa sn sc) (Value.slice na nn nc)
  have hlH := hdcs_len ku.hd
  have hlN : (by8 p.hd.nex).length = 32 := by rw [by8_len, ku.hd.nex]
  have hnum := ku.hd.num
  have hmask := ku.mask
  obtain ⟨C, hC⟩ : ∃ C, hdcs t.hd ++ [Value.slice sa sn sc, Value.slice na nn nc] = C := ⟨_, rfl⟩
  change Hid ((updc p.hd p.mask (Value.slice ua un uc))[32]? = _) at e6
  change Hid (((updc p.hd p.mask (Value.slice ua un uc)).drop 172).take 32 = _) at e8
  rw [hC] at e1 e2 e5 hlC ⊢
  generalize updc p.hd p.mask (Value.slice ua un uc) = D at *
  obtain ⟨w3, hw3, F, hbel⟩ := ltW_new w C D
  obtain ⟨Rs, hRs⟩ : ∃ r, r = rightB t.s := ⟨_, rfl⟩
  obtain ⟨Rn, hRn⟩ : ∃ r, r = rightB t.n := ⟨_, rfl⟩
  obtain ⟨Ru, hRu⟩ : ∃ r, r = rightB p.n := ⟨_, rfl⟩
  obtain ⟨N0, hN0⟩ : ∃ r, r = decide (nn = 0) := ⟨_, rfl⟩
  obtain ⟨U0, hU0⟩ : ∃ r, r = decide (un = 0) := ⟨_, rfl⟩
  rw [← hRs, ← hRn, ← hRu, ← hN0, ← hU0] at hok
  have A1 := right_at hsn k1 (h1.below hbel) hRs
  have A2 := right_at hnn k2 (h2.below hbel) hRn
  have A3 := right_at hun k3 (h3.below hbel) hRu
  have B2 := none_at na nn nc hN0
  have B3 := none_at ua un uc hU0
  have B4 := none_atB ua un uc hU0
  have J := judge_at t k p.hd.num hnum _ _ C hC w3 (h1.below hbel) (h2.below hbel) 0 l (by rw [hJ]; rfl) (by rw [hJ])
  obtain ⟨ln, hln⟩ : ∃ x, l.length = x := ⟨_, rfl⟩
  rw [hln] at hright hq
  have Q := quorum_at hmask hright.1 hright.2 hq
  have Hln := Lib.hid hln
  unfold u64v at e4 e5 e6
  have cs := blk_cell F.z1 e1
  have cn := blk_cell F.z1 e2
  have dn := blk_cell F.z2 e3
  have dh := blk_cell F.z2 e6
  have hg3 := F.z3.lt
  have Hw3 := Lib.hid hw3
  have Hbel := Lib.hid hbel
  have H1 := Lib.hid (h1.below hbel)
  have H2 := Lib.hid (h2.below hbel)
  have H3 := Lib.hid (h3.below hbel)
  have Hv := Lib.hid (hv.below hbel)
  have Hok := Lib.hid hok
  have K := Lib.hid k
  have Ku := Lib.hid ku
  have Hsn := Lib.hid hsn
  have Hnn := Lib.hid hnn
  have Hun := Lib.hid hun
  have HU0 := Lib.hid hU0
  have Hvs := Lib.hid hvs
  have HV := Lib.hid hV
  have K2 := Lib.hid k2
  have K3 := Lib.hid k3
  have hu : un ≠ 0 := by
    intro e
    unfold badN at hn
    rw [hun, decide_eq_true e] at hn
    simp at hn
  obtain ⟨S, hS⟩ : ∃ S, sumB (wH p.hd) = S := ⟨_, rfl⟩
  have hS32 : S.length = 32 := by rw [← hS]; exact sumB_len _
  rw [hS] at hvt
  have CS : Hid (∀ u, Calls Try.prog 77 #[.agg (hdcs p.hd).toArray] u fun e w' => e = .returned (.agg (by8 S).toArray) ∧ Below u.heap.size u w') := Lib.hid fun u => by
    rw [← hS]; exact bksum_any p.hd ku.hd u
  have hlj : ∀ x ∈ l, x < 18446744073709551616 := jdg_lt k hJ
  have CV : Hid (∀ u la lc, RowOf u64c 1 u (.slice la ln lc) l → Below w.heap.size w u → Calls Try.prog 76 #[.slice la ln lc, .int .u64 (p.mask : Int), .agg (by8 S).toArray, .slice va V.length vc] u fun e w' => e = .returned (.bool true) ∧ Below u.heap.size u w') := Lib.hid fun u la lc hr hb => by
    rw [← hvt]; exact voted_any la ln lc l hln (by omega) hlj p.mask hmask S hS32 va V.length vc V rfl hvs hV u hr (hv.below hb)
  obtain ⟨T, hT⟩ : ∃ T, sumB (seatB p.n) = T := ⟨_, rfl⟩
  have hT32 : T.length = 32 := by rw [← hT]; exact sumB_len _
  have CN : Hid (rightB p.n = true → ∀ u, Below w3.heap.size w3 u → Calls Try.prog 78 #[.slice ua un uc] u fun e w' => e = .returned (.agg (by8 T).toArray) ∧ Below u.heap.size u w') := Lib.hid fun hr u hu => by
    rw [← hT]; exact seatSum_any ua un uc p.n hun (by have := (rightB_len hr).2; omega) ku.n u ((h3.below hbel).below hu)
  have hnx : (!(T == p.hd.nex)) = true := by
    unfold badN at hn
    rw [hT, hun, decide_eq_false hu] at hn
    simpa using hn
  have gn := Lib.hid (fun o1 o2 w1 => guard_ne_h T p.hd.nex o1 o2 w1)
  have rn := Lib.hid (fun w1 => by have := run_ne_h T p.hd.nex hT32 ku.hd.nex w1; rw [hnx] at this; exact this)
  have HRu := Lib.hid hRu
  clear hw3 hbel hsn hnn hun h1 h2 h3 hv hRs hRn hRu hN0 hU0 hok k ku hvs hV hC k1 k2 k3 hright hln hq hJ hvt hS hS32 hlj hT hT32 hnx hn
  generalize V.length = vl at *
  have hu0 : U0 = false := by rw [HU0.out]; exact decide_eq_false hu
  subst hu0
  have key : (Rs = true ∧ N0 = true ∧ Ru = true) ∨ (Rs = true ∧ N0 = false ∧ Rn = true ∧ Ru = true) := by
    have := Hok.out
    revert this; cases Rs <;> cases N0 <;> cases Rn <;> cases Ru <;> simp
  rcases key with ⟨rfl, rfl, rfl⟩ | ⟨rfl, rfl, rfl, rfl⟩
  all_goals
    go_enter Try.func15, Try.ntmps15
    go_wp2_with (first
      | (rw [← Hw3.out])
      | (go_at_call 73; first
        | ((with_reducible refine (B2.out _).mono ?_); rintro e w4 ⟨rfl, rfl⟩)
        | ((with_reducible refine (B3.out _).mono ?_); rintro e w4 ⟨rfl, rfl⟩))
      | (go_at_call 72; first
        | ((with_reducible refine (A1.out _ F.hb).mono ?_); rintro e w4 ⟨rfl, b4⟩; have F := F.kept b4; have cs := blk_cell F.z1 e1; have cn := blk_cell F.z1 e2; have dn := blk_cell F.z2 e3; have dh := blk_cell F.z2 e6)
        | ((with_reducible refine (A2.out _ F.hb).mono ?_); rintro e w4 ⟨rfl, b4⟩; have F := F.kept b4; have cs := blk_cell F.z1 e1; have cn := blk_cell F.z1 e2; have dn := blk_cell F.z2 e3; have dh := blk_cell F.z2 e6)
        | ((with_reducible refine (A3.out _ F.hb).mono ?_); rintro e w4 ⟨rfl, b4⟩; have F := F.kept b4; have cs := blk_cell F.z1 e1; have cn := blk_cell F.z1 e2; have dn := blk_cell F.z2 e3; have dh := blk_cell F.z2 e6))
      | (refine wpList_loadA (o := ⟨some 41, _, _, _, _, _⟩) (by rfl) 31 (.tmp 3) (by rfl) w.heap.size (by rfl) aggSt F.z1 hlC ?_)
      | (go_at_call 74; (with_reducible refine (J.out _ F.hb).mono ?_); rintro e w5 ⟨v, rfl, rl, b5⟩; obtain ⟨la, lc, rfl, _⟩ := rl.form; have F := F.kept b5; have cs := blk_cell F.z1 e1; have cn := blk_cell F.z1 e2; have ch := blk_cell F.z1 e5; have dn := blk_cell F.z2 e3; have dh := blk_cell F.z2 e6; have dm := blk_cell F.z2 e4; rw [Hln.out] at rl ⊢; have Rl := Lib.hid rl; clear rl)
      | (go_at_call 75; (with_reducible refine (Q.out _).mono ?_); rintro e w6 ⟨rfl, rfl⟩))
    have RD := rng F.z2 e7
    have km := fun u : Ext w5 => u.cell dm
    have hb0 := Below.then Hbel.out F.hb
    have CV5 : Hid (∀ u, Below w5.heap.size w5 u → _) := Lib.hid fun u hu => CV.out u la lc (Rl.out.below hu) (Below.then hb0 hu)
    refine wp_region_typed w5 10 (by kernel_rfl) (by kernel_rfl) (Below.refl _ _) ?_; simp only [List.take_succ_cons, List.take_zero, List.take_nil]
    iterate 4 (refine wpX_step (by rfl) (fun K hK => ?_); go_simp; first | (refine hK _ ?_; clear hK K) | (apply Exists.intro; refine ⟨fun _ => ?_, hK _ ?_⟩; fail; clear hK K))
    (refine wpX_step (by rfl) (fun K hK => ?_); rw [if_pos (by rfl)]; refine ⟨_, fun u => const_loadm _ (.tmp 65) (by rfl) _ _ (by rfl) aggHd hlH (rangeAt.ext RD.out u), hK _ ?_⟩; clear hK K; simp only [Act.put, List.setIfInBounds_toArray, List.set_cons_zero, List.set_cons_succ])
    (refine wpX_step (by rfl) (fun K hK => ?_); go_simp; first | (refine hK _ ?_; clear hK K) | (apply Exists.intro; refine ⟨fun _ => ?_, hK _ ?_⟩; exact CS.out _; clear hK K))
    (refine wpX_step (by rfl) (fun K hK => ?_); go_simp; first | (refine hK _ ?_; clear hK K) | (apply Exists.intro; refine ⟨fun _ => ?_, hK _ ?_⟩; fail; clear hK K))
    (refine wpX_step (by rfl) (fun K hK => ?_); go_simp; first | (refine hK _ ?_; clear hK K) | (apply Exists.intro; refine ⟨fun _ => ?_, hK _ ?_⟩; exact CV5.out _ (Subtype.property _); clear hK K))
    iterate 2 (refine wpX_step (by rfl) (fun K hK => ?_); go_simp; first | (refine hK _ ?_; clear hK K) | (apply Exists.intro; refine ⟨fun _ => ?_, hK _ ?_⟩; fail; clear hK K))
    refine wpX_nil ?_
    intro u2 hb2
    change forallRel u2 [] _ _
    simp only [forallRel, List.drop_succ_cons, List.drop_zero, List.drop_nil]
    have F := F.kept hb2
    clear km cs cn ch dn dh dm CV5
    have dn := blk_cell F.z2 e3
    have kn := fun u : Ext u2 => u.cell dn
    have RX := rng F.z2 e8
    have CN5 : Hid (∀ u, Below u2.heap.size u2 u → _) := Lib.hid fun u hu => CN.out HRu.out.symm u (Below.then F.hb hu)
    go_wp2_with fail
    refine wp_region_typed u2 14 (by kernel_rfl) (by kernel_rfl) (Below.refl _ _) ?_; simp only [List.take_succ_cons, List.take_zero, List.take_nil]
    iterate 2 (refine wpX_step (by rfl) (fun K hK => ?_); go_simp; first | (refine hK _ ?_; clear hK K) | (apply Exists.intro; refine ⟨fun _ => ?_, hK _ ?_⟩; fail; clear hK K))
    (refine wpX_step (by rfl) (fun K hK => ?_); go_simp; first | (refine hK _ ?_; clear hK K) | (apply Exists.intro; refine ⟨fun _ => ?_, hK _ ?_⟩; exact B4.out _; clear hK K))
    iterate 4 (refine wpX_step (by rfl) (fun K hK => ?_); go_simp; first | (refine hK _ ?_; clear hK K) | (apply Exists.intro; refine ⟨fun _ => ?_, hK _ ?_⟩; fail; clear hK K))
    (refine wpX_step (by rfl) (fun K hK => ?_); go_simp; first | (refine hK _ ?_; clear hK K) | (apply Exists.intro; refine ⟨fun _ => ?_, hK _ ?_⟩; exact CN5.out _ (Subtype.property _); clear hK K))
    iterate 2 (refine wpX_step (by rfl) (fun K hK => ?_); go_simp; first | (refine hK _ ?_; clear hK K) | (apply Exists.intro; refine ⟨fun _ => ?_, hK _ ?_⟩; fail; clear hK K))
    (refine wpX_step (by rfl) (fun K hK => ?_); rw [if_pos (by rfl)]; refine ⟨_, fun u => const_loadm _ (.tmp 82) (by rfl) _ _ (by rfl) aggHs hlN (rangeAt.ext RX.out u), hK _ ?_⟩; clear hK K; simp only [Act.put, List.setIfInBounds_toArray, List.set_cons_zero, List.set_cons_succ])
    (refine wpX_step (by rfl) (fun K hK => ?_); rw [if_pos (by rfl)]; refine ⟨_, fun u => const_neq _ _ _ _ (by rfl) (by rfl) (by rfl) (fun o1 o2 w1 => gn.out o1 o2 w1) (fun w1 => rn.out w1), hK _ ?_⟩; clear hK K; simp only [Act.put, List.setIfInBounds_toArray, List.set_cons_zero, List.set_cons_succ])
    iterate 2 (refine wpX_step (by rfl) (fun K hK => ?_); go_simp; first | (refine hK _ ?_; clear hK K) | (apply Exists.intro; refine ⟨fun _ => ?_, hK _ ?_⟩; fail; clear hK K))
    refine wpX_nil ?_
    intro u3 hb3
    change forallRel u3 [] _ _
    simp only [forallRel, List.drop_succ_cons, List.drop_zero, List.drop_nil]
    have F := F.kept hb3
    clear kn dn CN5
    go_wp2_with (first | ((with_reducible show wpList _ _ _ (⟨none, Op.store _ _ (Operand.tmp 86), _, _, _, _⟩ :: _) _ _); refine wpList_storeA (o := ⟨none, _, _, _, _, _⟩) (by rfl) 31 (.tmp 6) (.tmp 86) (by rfl) (w.heap.size + 2) zst (by rfl) (by first | rfl | exact congrArg Value.agg zcSt) aggSt F.z3 zst_len zst_len zst_one (Below.then Hbel.out F.hb) (by omega) ?_; intro w9 hh9 hbel9 _))
    exact bodyPost_ret (v := .tuple #[.agg zst.toArray, .int .i64 28]) (results_blk_tmp rfl _ _ (w.heap.size + 2) aggSt hh9 zst_len rfl rfl) rfl (StoO.zero 28 hbel9)
end Go.Proofs.Ytgjgokcpampljaa
