/- The reference's LtApply: the next period, no next seats. (gen_lt10.py prints this text.) -/
import Derived.Test.YtgjgokcpampljaaLt9
set_option linter.unusedSimpArgs false
set_option linter.unusedVariables false
namespace Go.Proofs.Ytgjgokcpampljaa
open Go.RowKit
set_option maxHeartbeats 4000000 in
set_option maxRecDepth 100000 in
theorem ltapply_n0_26 (t : Sto) (k : t.In) (p : Upd) (ku : p.Ok) (V : List Vt) (hvs : V.length ≤ 140737488355328) (va : Option Addr) (vc : Nat) (vs vn vu : Value) (w : World) (h1 : RowOf u64c 1 w vs t.s) (h2 : RowOf u64c 1 w vn t.n) (h3 : RowOf u64c 1 w vu p.n) (hv : RowOf vtc 33 w (.slice va V.length vc) V) (hok : badL t p = false) (hlt : t.hd.num < p.hd.num) (hu : p.n.length = 0) (hq1 : p.hd.num / 8 - 1 = t.hd.num / 8 ∧ t.hd.num / 8 < p.hd.num / 8) (hn0 : t.n.length ≠ 0) (hqu : quoB p.mask t.n.length = false)  :
    Calls Try.prog 16 #[.agg (hdcs t.hd ++ [vs, vn]).toArray, .agg (updc p.hd p.mask vu).toArray, .slice va V.length vc] w fun e w' => StoG t p vs vn vu w e w' (26, zSto) := by
  obtain ⟨sa, sc, rfl, _⟩ := h1.form
  obtain ⟨na, nc, rfl, _⟩ := h2.form
  obtain ⟨ua, uc, rfl, _⟩ := h3.form
  obtain ⟨sn, hsn⟩ : ∃ x, t.s.length = x := ⟨_, rfl⟩
  obtain ⟨nn, hnn⟩ : ∃ x, t.n.length = x := ⟨_, rfl⟩
  obtain ⟨un, hun⟩ : ∃ x, p.n.length = x := ⟨_, rfl⟩
  have k1 := k.sl
  have k2 := k.nl
  have k3 := ku.nl
  have hok' := hok
  unfold badL at hok
  rw [hsn] at h1 k1 ⊢
  rw [hnn] at h2 k2 hok ⊢
  rw [hun] at h3 k3 hok ⊢
  rw [hun] at hu
  subst hu
  have e1 := Lib.hid (stc_s k.hd (Value.slice sa sn sc) (Value.slice na nn nc))
  have e2 := Lib.hid (stc_n k.hd (Value.slice sa sn sc) (Value.slice na nn nc))
  have e3 := Lib.hid (updc_n ku.hd p.mask (Value.slice ua 0 uc))
  have e4 := Lib.hid (updc_m ku.hd p.mask (Value.slice ua 0 uc))
  have e5 := Lib.hid (hdcs_num' k.hd [Value.slice sa sn sc, Value.slice na nn nc])
  have e6 := Lib.hid (hdcs_num' ku.hd [u64v p.mask, Value.slice ua 0 uc])
  have e7 := Lib.hid (updc_hd ku.hd p.mask (Value.slice ua 0 uc))
  have e8 := Lib.hid (hdcs_nex' ku.hd [u64v p.mask, Value.slice ua 0 uc])
  have hlC := stc_len k.hd (Value.slice sa sn sc) (Value.slice na nn nc)
  have hlH := hdcs_len ku.hd
  have hlN : (by8 p.hd.nex).length = 32 := by rw [by8_len, ku.hd.nex]
  have hnum := ku.hd.num
  have hold := k.hd.num
  have hmask := ku.mask
  obtain ⟨C, hC⟩ : ∃ C, hdcs t.hd ++ [Value.slice sa sn sc, Value.slice na nn nc] = C := ⟨_, rfl⟩
  change Hid ((updc p.hd p.mask (Value.slice ua 0 uc))[32]? = _) at e6
  change Hid (((updc p.hd p.mask (Value.slice ua 0 uc)).drop 172).take 32 = _) at e8
  rw [hC] at e1 e2 e5 hlC ⊢
  generalize updc p.hd p.mask (Value.slice ua 0 uc) = D at *
  obtain ⟨w4, hw4, F, hbel, hsz⟩ := ltR_new w C D
  unfold u64v at e4 e5 e6
  have cs := blk_cell F.z1 e1
  have cn := blk_cell F.z1 e2
  have dn := blk_cell F.z2 e3
  have hg4 : w.heap.size + 3 < w4.heap.size := by omega
  have Hw4 := Lib.hid hw4
  have Hbel := Lib.hid hbel
  have H1 := Lib.hid h1
  have H2 := Lib.hid h2
  have H3 := Lib.hid h3
  have Hv := Lib.hid hv
  have K := Lib.hid k
  have Ku := Lib.hid ku
  have Hsn := Lib.hid hsn
  have Hnn := Lib.hid hnn
  have Hun := Lib.hid hun
  have Hvs := Lib.hid hvs
  have K1 := Lib.hid k1
  have K2 := Lib.hid k2
  have K3 := Lib.hid k3
  have Hok := Lib.hid hok
  have hgd : (rightB t.s = true) ∧ (nn = 0 ∨ rightB t.n = true) ∧ (0 = 0 ∨ rightB p.n = true) := by
    simp only [Bool.or_eq_false_iff, Bool.not_eq_false', Bool.and_eq_false_iff, decide_eq_true_eq] at hok
    exact ⟨hok.1.1, hok.1.2, .inl rfl⟩
  have hgd0 : Hid (rightB t.s = true ∨ ((0 : Nat) ≠ 0 ∧ sn = 0)) := Lib.hid (.inl hgd.1)
  have hgd1 : Hid (rightB t.n = true ∨ ((1 : Nat) ≠ 0 ∧ nn = 0)) := Lib.hid (by rcases hgd.2.1 with h | h; exact .inr ⟨by omega, h⟩; exact .inl h)
  have hgd2 : Hid (rightB p.n = true ∨ ((2 : Nat) ≠ 0 ∧ 0 = 0)) := Lib.hid (by rcases hgd.2.2 with h | h; exact .inr ⟨by omega, h⟩; exact .inl h)
  have Hgd := Lib.hid hgd
  obtain ⟨oa, hoa⟩ : ∃ x, t.hd.num = x := ⟨_, rfl⟩
  obtain ⟨ob, hob⟩ : ∃ x, p.hd.num = x := ⟨_, rfl⟩
  rw [hoa] at e5 hold
  rw [hob] at e6 hnum
  rw [hoa, hob] at hlt hq1
  have d1 : decide ((ob : Int) ≤ (oa : Int)) = false := decide_eq_false (by omega)
  have d1' : decide (ob ≤ oa) = false := decide_eq_false (by omega)
  have qa := u64_quo oa hold
  have qb := u64_quo ob hnum
  obtain ⟨Q1, hQ1⟩ : ∃ q, oa / 8 = q := ⟨_, rfl⟩
  obtain ⟨Q2, hQ2⟩ : ∃ q, ob / 8 = q := ⟨_, rfl⟩
  have hmono : Q1 ≤ Q2 := by omega
  have za : ((oa : Int) / 8) = (Q1 : Int) := by omega
  have zb : ((ob : Int) / 8) = (Q2 : Int) := by omega
  have hQ264 : Q2 < 18446744073709551616 := by omega
  rw [hQ1] at qa hq1
  rw [hQ2] at qb hq1
  have d2 : ((Q2 : Int) == (Q1 : Int)) = false := by rw [beq_eq_false_iff_ne]; omega
  have d2' : (Q2 == Q1) = false := by rw [beq_eq_false_iff_ne]; omega
  have hsub : IntKind.u64.wrap ((Q2 : Int) - 1) = ((Q2 - 1 : Nat) : Int) := by
    rw [show (Q2 : Int) - 1 = ((Q2 - 1 : Nat) : Int) by omega]
    exact IntWalk.u64_in _ (by omega)
  rw [hnn] at hn0
  have d3 : (((Q2 - 1 : Nat) : Int) == (Q1 : Int)) = true := by rw [beq_iff_eq]; omega
  have d3' : ((Q2 - 1 : Nat) == Q1) = true := by rw [beq_iff_eq]; omega
  have d4 : decide ((0 : Int) < (nn : Int)) = true := decide_eq_true (by omega)
  have d4' : decide (0 < nn) = true := decide_eq_true (by omega)
  generalize Q2 - 1 = Q3 at *
  have hright := rightB_len (hgd.2.1.resolve_left hn0)
  rw [hnn] at hright
  rw [hnn] at hqu
  have Q := vquorum_any p.mask nn hmask hright.1 hright.2
  rw [hqu] at Q
  have Q := Lib.hid Q
  clear hlt hgd hQ1 hQ2 hmono hQ264 hright hqu hq1 hn0
  clear hw4 hsn hnn hun h1 h2 h3 hv hok k ku hvs hC k1 k2 k3 hbel hok'
  go_enter Try.func16, Try.ntmps16
  go_wp2_with (rw [← Hw4.out])
  have Z : Blk 29 (w4.alloc (.cells [Value.slice sa sn sc, Value.slice na nn nc, Value.slice ua 0 uc].toArray 29)) w4.heap.size [Value.slice sa sn sc, Value.slice na nn nc, Value.slice ua 0 uc] := Blk.new w4 _ _
  have F := F.kept ((Below.refl w4.heap.size w4).alloc (Nat.le_refl _) (.cells [Value.slice sa sn sc, Value.slice na nn nc, Value.slice ua 0 uc].toArray 29))
  clear cs cn dn
  try simp only [Act.put]
  go_loopw [22] (fun ix wr => ∃ k : Nat, k ≤ 3 ∧ ix = .int .i64 (k : Int) ∧ LtR w4 w.heap.size C D wr ∧ Blk 29 wr w4.heap.size [Value.slice sa sn sc, Value.slice na nn nc, Value.slice ua 0 uc]) (fun ix _ => 3 - (intOf ix).toNat)
  case atStart => exact ⟨0, by omega, rfl, F, Z⟩
  case round =>
    clear F Z
    obtain ⟨k, hk, rfl, F, Z⟩ := hrel
    by_cases hlt : k < 3
    · have hki : (k : Int) < (3 : Int) := by omega
      obtain ⟨xa, xn, xc, lx, r, hx1, hx2, hx3, hx4, hx5, hx6⟩ : ∃ xa xn xc, ∃ lx : List Nat, ∃ r : Bool, [Value.slice sa sn sc, Value.slice na nn nc, Value.slice ua 0 uc][k]? = some (.slice xa xn xc) ∧ RowOf u64c 1 w (.slice xa xn xc) lx ∧ lx.length = xn ∧ xn ≤ 17592186044416 ∧ r = rightB lx ∧ (r = true ∨ (k ≠ 0 ∧ xn = 0)) := by
        rcases (by omega : k = 0 ∨ k = 1 ∨ k = 2) with rfl | rfl | rfl
        · exact ⟨sa, sn, sc, t.s, _, rfl, H1.out, Hsn.out, K1.out, rfl, hgd0.out⟩
        · exact ⟨na, nn, nc, t.n, _, rfl, H2.out, Hnn.out, K2.out, rfl, hgd1.out⟩
        · exact ⟨ua, 0, uc, p.n, _, rfl, H3.out, Hun.out, K3.out, rfl, (by simp)⟩
      have hc : wr.cell? ⟨w.heap.size + 4, k, none⟩ = some (.slice xa xn xc) := by rw [← hsz]; exact (Z.cell k).trans hx1
      have A := vright_any xa xn xc lx hx3 hx4 wr (RowOf.below (RowOf.below hx2 Hbel.out) F.hb)
      rw [← hx5] at A
      have AA := Lib.hid A
      clear hx1 hx2 hx3 hx4 hx5 A
      cases r with
      | true =>
        go_wp2_with (go_at_call 20; (with_reducible refine AA.out.mono ?_); rintro e w5 ⟨rfl, b5⟩; have F5 := F.kept b5; have Z5 := Z.kept b5)
        go_roundw
        case rel => exact ⟨k + 1, by omega, by go_num, F5, Z5⟩
        case measure => simp [intOf]; omega
      | false =>
        obtain ⟨h0, rfl⟩ := hx6.resolve_left (by simp)
        have h0' : ((k : Int) == 0) = false := by rw [beq_eq_false_iff_ne]; omega
        go_wp2_with (go_at_call 20; (with_reducible refine AA.out.mono ?_); rintro e w5 ⟨rfl, b5⟩; have F5 := F.kept b5; have Z5 := Z.kept b5)
        go_roundw
        case rel => exact ⟨k + 1, by omega, by go_num, F5, Z5⟩
        case measure => simp [intOf]; omega
    · obtain rfl : k = 3 := by omega
      go_wp2_with fail
      have ch := blk_cell F.z1 e5
      have dh := blk_cell F.z2 e6
      have kh := fun u : Ext wr => u.cell ch
      have kd := fun u : Ext wr => u.cell dh
      refine wp_region_typed wr 8 (by kernel_rfl) (by kernel_rfl) (Below.refl _ _) ?_; simp only [List.take_succ_cons, List.take_zero, List.take_nil]
      iterate 8 (refine wpX_step (by rfl) (fun K hK => ?_); go_simp; first | (refine hK _ ?_; clear hK K) | (apply Exists.intro; refine ⟨fun _ => ?_, hK _ ?_⟩; fail; clear hK K))
      refine wpX_nil ?_
      intro u1 hb1
      change forallRel u1 [] _ _
      simp only [forallRel, List.drop_succ_cons, List.drop_zero, List.drop_nil]
      have F := F.kept hb1
      clear kh kd ch dh Z
      have RD := rng F.z2 e7
      have RD := RD.out
      have dn := blk_cell F.z2 e3
      have hlT := stc_len Ku.out.hd (.slice none 0 0) (.slice ua 0 uc)
      go_wp2_with (first
        | ((refine wpList_loadW (o := ⟨some 52, _, _, _, _, _⟩) 28 (.tmp 51) (by rfl) (w.heap.size + 1) 0 (by rfl) aggHd hlH RD (by rfl) ?_))
        | (refine wpList_buildB (o := ⟨some 55, _, _, _, _, _⟩) (by rfl) 31 [(0, .tmp 52), (2, .tmp 54)] (by rfl) _ (by rfl) _ (built_st2 Ku.out.hd ua 0 uc) ?_)
        | ((with_reducible show wpList _ _ _ (⟨none, Op.store _ _ (Operand.tmp 55), _, _, _, _⟩ :: _) _ _); refine wpList_storeA (o := ⟨none, _, _, _, _, _⟩) (by rfl) 31 (.tmp 13) (.tmp 55) (by rfl) u1.heap.size (hdcs p.hd ++ [.slice none 0 0, .slice ua 0 uc]) (by rfl) (by rfl) aggSt (old := zst) (by rw [zcSt]; exact Blk.new u1 _ _) hlT zst_len (stc_one _ _ _ _ _ _ _) ((Below.refl u1.heap.size u1).alloc (Nat.le_refl _) _) (Nat.le_refl _) ?_; intro w8 y8 b8 _; have F8 := F.kept b8; have hgu : w4.heap.size ≤ u1.heap.size := F.hb.size; have cs := blk_cell F8.z1 e1; have cn := blk_cell F8.z1 e2; obtain ⟨x4, hx4⟩ := y8.has 204 (by omega); have hf4 := y8.free 204; have y14 := y8.set 204 (Value.slice na nn nc); rw [stc_set4 Ku.out.hd] at y14; have F14 := F8.keptB hg4 hgu ((Below.refl u1.heap.size w8).setCell (p := ⟨u1.heap.size, 204, none⟩) (Nat.le_refl _) (Value.slice na nn nc)); have c45 : (w8.setCell ⟨u1.heap.size, 204, none⟩ (Value.slice na nn nc)).cell? ⟨u1.heap.size, 205, none⟩ = some (.slice ua 0 uc) := (y14.cell 205).trans (stc_n Ku.out.hd _ _); have y19 := y14; have F19 := F14; have c49 : (w8.setCell ⟨u1.heap.size, 204, none⟩ (Value.slice na nn nc)).cell? ⟨u1.heap.size, 204, none⟩ = some (Value.slice na nn nc) := (y19.cell 204).trans (stc_s Ku.out.hd _ _); have dm := blk_cell F19.z2 e4)
        | (go_at_call 80; (with_reducible refine (Q.out _).mono ?_); rintro e w6 ⟨rfl, rfl⟩)
        | (refine wpList_loadA (o := ⟨some 96, _, _, _, _, _⟩) (by rfl) 31 (.tmp 8) (by rfl) (w.heap.size + 3) (by rfl) aggSt F19.z4 zst_len ?_)
        | ((with_reducible show wpList _ _ _ (⟨none, Op.store _ _ (Operand.tmp 96), _, _, _, _⟩ :: _) _ _); refine wpList_storeA (o := ⟨none, _, _, _, _, _⟩) (by rfl) 31 (.tmp 6) (.tmp 96) (by rfl) (w.heap.size + 2) zst (by rfl) (by rfl) aggSt F19.z3 zst_len zst_len zst_one (Below.then Hbel.out F19.hb) (by omega) ?_; intro w9 hh9 hbel9 _))
      exact bodyPost_ret (v := .tuple #[.agg zst.toArray, .int .i64 26]) (results_blk_tmp rfl _ _ (w.heap.size + 2) aggSt hh9 zst_len rfl rfl) rfl (StoG.zero 26 hbel9)
set_option maxHeartbeats 4000000 in
set_option maxRecDepth 100000 in
theorem ltapply_n0_27 (t : Sto) (k : t.In) (p : Upd) (ku : p.Ok) (V : List Vt) (hvs : V.length ≤ 140737488355328) (va : Option Addr) (vc : Nat) (vs vn vu : Value) (w : World) (h1 : RowOf u64c 1 w vs t.s) (h2 : RowOf u64c 1 w vn t.n) (h3 : RowOf u64c 1 w vu p.n) (hv : RowOf vtc 33 w (.slice va V.length vc) V) (hok : badL t p = false) (hlt : t.hd.num < p.hd.num) (hu : p.n.length = 0) (hq1 : p.hd.num / 8 - 1 = t.hd.num / 8 ∧ t.hd.num / 8 < p.hd.num / 8) (hn0 : t.n.length ≠ 0) (hqu : quoB p.mask t.n.length = true) (hvt : vtd p.mask (fun x => hasV V x (sumB (wH p.hd))) t.n = false)  :
    Calls Try.prog 16 #[.agg (hdcs t.hd ++ [vs, vn]).toArray, .agg (updc p.hd p.mask vu).toArray, .slice va V.length vc] w fun e w' => StoG t p vs vn vu w e w' (27, zSto) := by
  obtain ⟨sa, sc, rfl, _⟩ := h1.form
  obtain ⟨na, nc, rfl, _⟩ := h2.form
  obtain ⟨ua, uc, rfl, _⟩ := h3.form
  obtain ⟨sn, hsn⟩ : ∃ x, t.s.length = x := ⟨_, rfl⟩
  obtain ⟨nn, hnn⟩ : ∃ x, t.n.length = x := ⟨_, rfl⟩
  obtain ⟨un, hun⟩ : ∃ x, p.n.length = x := ⟨_, rfl⟩
  have k1 := k.sl
  have k2 := k.nl
  have k3 := ku.nl
  have hok' := hok
  unfold badL at hok
  rw [hsn] at h1 k1 ⊢
  rw [hnn] at h2 k2 hok ⊢
  rw [hun] at h3 k3 hok ⊢
  rw [hun] at hu
  subst hu
  have e1 := Lib.hid (stc_s k.hd (Value.slice sa sn sc) (Value.slice na nn nc))
  have e2 := Lib.hid (stc_n k.hd (Value.slice sa sn sc) (Value.slice na nn nc))
  have e3 := Lib.hid (updc_n ku.hd p.mask (Value.slice ua 0 uc))
  have e4 := Lib.hid (updc_m ku.hd p.mask (Value.slice ua 0 uc))
  have e5 := Lib.hid (hdcs_num' k.hd [Value.slice sa sn sc, Value.slice na nn nc])
  have e6 := Lib.hid (hdcs_num' ku.hd [u64v p.mask, Value.slice ua 0 uc])
  have e7 := Lib.hid (updc_hd ku.hd p.mask (Value.slice ua 0 uc))
  have e8 := Lib.hid (hdcs_nex' ku.hd [u64v p.mask, Value.slice ua 0 uc])
  have hlC := stc_len k.hd (Value.slice sa sn sc) (Value.slice na nn nc)
  have hlH := hdcs_len ku.hd
  have hlN : (by8 p.hd.nex).length = 32 := by rw [by8_len, ku.hd.nex]
  have hnum := ku.hd.num
  have hold := k.hd.num
  have hmask := ku.mask
  obtain ⟨C, hC⟩ : ∃ C, hdcs t.hd ++ [Value.slice sa sn sc, Value.slice na nn nc] = C := ⟨_, rfl⟩
  change Hid ((updc p.hd p.mask (Value.slice ua 0 uc))[32]? = _) at e6
  change Hid (((updc p.hd p.mask (Value.slice ua 0 uc)).drop 172).take 32 = _) at e8
  rw [hC] at e1 e2 e5 hlC ⊢
  generalize updc p.hd p.mask (Value.slice ua 0 uc) = D at *
  obtain ⟨w4, hw4, F, hbel, hsz⟩ := ltR_new w C D
  unfold u64v at e4 e5 e6
  have cs := blk_cell F.z1 e1
  have cn := blk_cell F.z1 e2
  have dn := blk_cell F.z2 e3
  have hg4 : w.heap.size + 3 < w4.heap.size := by omega
  have Hw4 := Lib.hid hw4
  have Hbel := Lib.hid hbel
  have H1 := Lib.hid h1
  have H2 := Lib.hid h2
  have H3 := Lib.hid h3
  have Hv := Lib.hid hv
  have K := Lib.hid k
  have Ku := Lib.hid ku
  have Hsn := Lib.hid hsn
  have Hnn := Lib.hid hnn
  have Hun := Lib.hid hun
  have Hvs := Lib.hid hvs
  have K1 := Lib.hid k1
  have K2 := Lib.hid k2
  have K3 := Lib.hid k3
  have Hok := Lib.hid hok
  have hgd : (rightB t.s = true) ∧ (nn = 0 ∨ rightB t.n = true) ∧ (0 = 0 ∨ rightB p.n = true) := by
    simp only [Bool.or_eq_false_iff, Bool.not_eq_false', Bool.and_eq_false_iff, decide_eq_true_eq] at hok
    exact ⟨hok.1.1, hok.1.2, .inl rfl⟩
  have hgd0 : Hid (rightB t.s = true ∨ ((0 : Nat) ≠ 0 ∧ sn = 0)) := Lib.hid (.inl hgd.1)
  have hgd1 : Hid (rightB t.n = true ∨ ((1 : Nat) ≠ 0 ∧ nn = 0)) := Lib.hid (by rcases hgd.2.1 with h | h; exact .inr ⟨by omega, h⟩; exact .inl h)
  have hgd2 : Hid (rightB p.n = true ∨ ((2 : Nat) ≠ 0 ∧ 0 = 0)) := Lib.hid (by rcases hgd.2.2 with h | h; exact .inr ⟨by omega, h⟩; exact .inl h)
  have Hgd := Lib.hid hgd
  obtain ⟨oa, hoa⟩ : ∃ x, t.hd.num = x := ⟨_, rfl⟩
  obtain ⟨ob, hob⟩ : ∃ x, p.hd.num = x := ⟨_, rfl⟩
  rw [hoa] at e5 hold
  rw [hob] at e6 hnum
  rw [hoa, hob] at hlt hq1
  have d1 : decide ((ob : Int) ≤ (oa : Int)) = false := decide_eq_false (by omega)
  have d1' : decide (ob ≤ oa) = false := decide_eq_false (by omega)
  have qa := u64_quo oa hold
  have qb := u64_quo ob hnum
  obtain ⟨Q1, hQ1⟩ : ∃ q, oa / 8 = q := ⟨_, rfl⟩
  obtain ⟨Q2, hQ2⟩ : ∃ q, ob / 8 = q := ⟨_, rfl⟩
  have hmono : Q1 ≤ Q2 := by omega
  have za : ((oa : Int) / 8) = (Q1 : Int) := by omega
  have zb : ((ob : Int) / 8) = (Q2 : Int) := by omega
  have hQ264 : Q2 < 18446744073709551616 := by omega
  rw [hQ1] at qa hq1
  rw [hQ2] at qb hq1
  have d2 : ((Q2 : Int) == (Q1 : Int)) = false := by rw [beq_eq_false_iff_ne]; omega
  have d2' : (Q2 == Q1) = false := by rw [beq_eq_false_iff_ne]; omega
  have hsub : IntKind.u64.wrap ((Q2 : Int) - 1) = ((Q2 - 1 : Nat) : Int) := by
    rw [show (Q2 : Int) - 1 = ((Q2 - 1 : Nat) : Int) by omega]
    exact IntWalk.u64_in _ (by omega)
  rw [hnn] at hn0
  have d3 : (((Q2 - 1 : Nat) : Int) == (Q1 : Int)) = true := by rw [beq_iff_eq]; omega
  have d3' : ((Q2 - 1 : Nat) == Q1) = true := by rw [beq_iff_eq]; omega
  have d4 : decide ((0 : Int) < (nn : Int)) = true := decide_eq_true (by omega)
  have d4' : decide (0 < nn) = true := decide_eq_true (by omega)
  generalize Q2 - 1 = Q3 at *
  have hright := rightB_len (hgd.2.1.resolve_left hn0)
  rw [hnn] at hright
  rw [hnn] at hqu
  have Q := vquorum_any p.mask nn hmask hright.1 hright.2
  rw [hqu] at Q
  have Q := Lib.hid Q
  obtain ⟨S, hS⟩ : ∃ S, sumB (wH p.hd) = S := ⟨_, rfl⟩
  have hS32 : S.length = 32 := by rw [← hS]; exact sumB_len _
  rw [hS] at hvt
  have CS : Hid (∀ u, Calls Try.prog 82 #[.agg (hdcs p.hd).toArray] u fun e w' => e = .returned (.agg (by8 S).toArray) ∧ Below u.heap.size u w') := Lib.hid fun u => by
    rw [← hS]; exact bbsum_any p.hd ku.hd u
  have CV : Hid (∀ u, Below w.heap.size w u → Calls Try.prog 81 #[.slice na nn nc, .int .u64 (p.mask : Int), .agg (by8 S).toArray, .slice va V.length vc] u fun e w' => e = .returned (.bool false) ∧ Below u.heap.size u w') := Lib.hid fun u hb => by
    rw [← hvt]; exact vvoted_any na nn nc t.n hnn (by omega) p.mask hmask S hS32 va V.length vc V rfl hvs u (h2.below hb) (hv.below hb)
  clear hlt hgd hQ1 hQ2 hmono hQ264 hright hqu hq1 hn0 hvt hS hS32
  clear hw4 hsn hnn hun h1 h2 h3 hv hok k ku hvs hC k1 k2 k3 hbel hok'
  go_enter Try.func16, Try.ntmps16
  go_wp2_with (rw [← Hw4.out])
  have Z : Blk 29 (w4.alloc (.cells [Value.slice sa sn sc, Value.slice na nn nc, Value.slice ua 0 uc].toArray 29)) w4.heap.size [Value.slice sa sn sc, Value.slice na nn nc, Value.slice ua 0 uc] := Blk.new w4 _ _
  have F := F.kept ((Below.refl w4.heap.size w4).alloc (Nat.le_refl _) (.cells [Value.slice sa sn sc, Value.slice na nn nc, Value.slice ua 0 uc].toArray 29))
  clear cs cn dn
  try simp only [Act.put]
  go_loopw [22] (fun ix wr => ∃ k : Nat, k ≤ 3 ∧ ix = .int .i64 (k : Int) ∧ LtR w4 w.heap.size C D wr ∧ Blk 29 wr w4.heap.size [Value.slice sa sn sc, Value.slice na nn nc, Value.slice ua 0 uc]) (fun ix _ => 3 - (intOf ix).toNat)
  case atStart => exact ⟨0, by omega, rfl, F, Z⟩
  case round =>
    clear F Z
    obtain ⟨k, hk, rfl, F, Z⟩ := hrel
    by_cases hlt : k < 3
    · have hki : (k : Int) < (3 : Int) := by omega
      obtain ⟨xa, xn, xc, lx, r, hx1, hx2, hx3, hx4, hx5, hx6⟩ : ∃ xa xn xc, ∃ lx : List Nat, ∃ r : Bool, [Value.slice sa sn sc, Value.slice na nn nc, Value.slice ua 0 uc][k]? = some (.slice xa xn xc) ∧ RowOf u64c 1 w (.slice xa xn xc) lx ∧ lx.length = xn ∧ xn ≤ 17592186044416 ∧ r = rightB lx ∧ (r = true ∨ (k ≠ 0 ∧ xn = 0)) := by
        rcases (by omega : k = 0 ∨ k = 1 ∨ k = 2) with rfl | rfl | rfl
        · exact ⟨sa, sn, sc, t.s, _, rfl, H1.out, Hsn.out, K1.out, rfl, hgd0.out⟩
        · exact ⟨na, nn, nc, t.n, _, rfl, H2.out, Hnn.out, K2.out, rfl, hgd1.out⟩
        · exact ⟨ua, 0, uc, p.n, _, rfl, H3.out, Hun.out, K3.out, rfl, (by simp)⟩
      have hc : wr.cell? ⟨w.heap.size + 4, k, none⟩ = some (.slice xa xn xc) := by rw [← hsz]; exact (Z.cell k).trans hx1
      have A := vright_any xa xn xc lx hx3 hx4 wr (RowOf.below (RowOf.below hx2 Hbel.out) F.hb)
      rw [← hx5] at A
      have AA := Lib.hid A
      clear hx1 hx2 hx3 hx4 hx5 A
      cases r with
      | true =>
        go_wp2_with (go_at_call 20; (with_reducible refine AA.out.mono ?_); rintro e w5 ⟨rfl, b5⟩; have F5 := F.kept b5; have Z5 := Z.kept b5)
        go_roundw
        case rel => exact ⟨k + 1, by omega, by go_num, F5, Z5⟩
        case measure => simp [intOf]; omega
      | false =>
        obtain ⟨h0, rfl⟩ := hx6.resolve_left (by simp)
        have h0' : ((k : Int) == 0) = false := by rw [beq_eq_false_iff_ne]; omega
        go_wp2_with (go_at_call 20; (with_reducible refine AA.out.mono ?_); rintro e w5 ⟨rfl, b5⟩; have F5 := F.kept b5; have Z5 := Z.kept b5)
        go_roundw
        case rel => exact ⟨k + 1, by omega, by go_num, F5, Z5⟩
        case measure => simp [intOf]; omega
    · obtain rfl : k = 3 := by omega
      go_wp2_with fail
      have ch := blk_cell F.z1 e5
      have dh := blk_cell F.z2 e6
      have kh := fun u : Ext wr => u.cell ch
      have kd := fun u : Ext wr => u.cell dh
      refine wp_region_typed wr 8 (by kernel_rfl) (by kernel_rfl) (Below.refl _ _) ?_; simp only [List.take_succ_cons, List.take_zero, List.take_nil]
      iterate 8 (refine wpX_step (by rfl) (fun K hK => ?_); go_simp; first | (refine hK _ ?_; clear hK K) | (apply Exists.intro; refine ⟨fun _ => ?_, hK _ ?_⟩; fail; clear hK K))
      refine wpX_nil ?_
      intro u1 hb1
      change forallRel u1 [] _ _
      simp only [forallRel, List.drop_succ_cons, List.drop_zero, List.drop_nil]
      have F := F.kept hb1
      clear kh kd ch dh Z
      have RD := rng F.z2 e7
      have RD := RD.out
      have dn := blk_cell F.z2 e3
      have hlT := stc_len Ku.out.hd (.slice none 0 0) (.slice ua 0 uc)
      go_wp2_with (first
        | ((refine wpList_loadW (o := ⟨some 52, _, _, _, _, _⟩) 28 (.tmp 51) (by rfl) (w.heap.size + 1) 0 (by rfl) aggHd hlH RD (by rfl) ?_))
        | (refine wpList_buildB (o := ⟨some 55, _, _, _, _, _⟩) (by rfl) 31 [(0, .tmp 52), (2, .tmp 54)] (by rfl) _ (by rfl) _ (built_st2 Ku.out.hd ua 0 uc) ?_)
        | ((with_reducible show wpList _ _ _ (⟨none, Op.store _ _ (Operand.tmp 55), _, _, _, _⟩ :: _) _ _); refine wpList_storeA (o := ⟨none, _, _, _, _, _⟩) (by rfl) 31 (.tmp 13) (.tmp 55) (by rfl) u1.heap.size (hdcs p.hd ++ [.slice none 0 0, .slice ua 0 uc]) (by rfl) (by rfl) aggSt (old := zst) (by rw [zcSt]; exact Blk.new u1 _ _) hlT zst_len (stc_one _ _ _ _ _ _ _) ((Below.refl u1.heap.size u1).alloc (Nat.le_refl _) _) (Nat.le_refl _) ?_; intro w8 y8 b8 _; have F8 := F.kept b8; have hgu : w4.heap.size ≤ u1.heap.size := F.hb.size; have cs := blk_cell F8.z1 e1; have cn := blk_cell F8.z1 e2; obtain ⟨x4, hx4⟩ := y8.has 204 (by omega); have hf4 := y8.free 204; have y14 := y8.set 204 (Value.slice na nn nc); rw [stc_set4 Ku.out.hd] at y14; have F14 := F8.keptB hg4 hgu ((Below.refl u1.heap.size w8).setCell (p := ⟨u1.heap.size, 204, none⟩) (Nat.le_refl _) (Value.slice na nn nc)); have c45 : (w8.setCell ⟨u1.heap.size, 204, none⟩ (Value.slice na nn nc)).cell? ⟨u1.heap.size, 205, none⟩ = some (.slice ua 0 uc) := (y14.cell 205).trans (stc_n Ku.out.hd _ _); have y19 := y14; have F19 := F14; have c49 : (w8.setCell ⟨u1.heap.size, 204, none⟩ (Value.slice na nn nc)).cell? ⟨u1.heap.size, 204, none⟩ = some (Value.slice na nn nc) := (y19.cell 204).trans (stc_s Ku.out.hd _ _); have dm := blk_cell F19.z2 e4)
        | (go_at_call 80; (with_reducible refine (Q.out _).mono ?_); rintro e w6 ⟨rfl, rfl⟩))
      obtain ⟨u5, hu5⟩ : ∃ x, x = (w8.setCell ⟨u1.heap.size, 204, none⟩ (Value.slice na nn nc)) := ⟨_, rfl⟩
      rw [← hu5] at F19 y19 dm c49 ⊢
      clear hu5 cs cn hx4 hf4 y14 F14 c45 RD dn F8 y8
      have RD := rng F19.z2 e7
      have km := fun u : Ext u5 => u.cell dm
      have k4 := fun u : Ext u5 => u.cell c49
      have CV5 : Hid (∀ u, Below u5.heap.size u5 u → _) := Lib.hid fun u hu => CV.out u (Below.then (Below.then Hbel.out F19.hb) hu)
      refine wp_region_typed u5 10 (by kernel_rfl) (by kernel_rfl) (Below.refl _ _) ?_; simp only [List.take_succ_cons, List.take_zero, List.take_nil]
      iterate 5 (refine wpX_step (by rfl) (fun K hK => ?_); go_simp; first | (refine hK _ ?_; clear hK K) | (apply Exists.intro; refine ⟨fun _ => ?_, hK _ ?_⟩; fail; clear hK K))
      (refine wpX_step (by rfl) (fun K hK => ?_); rw [if_pos (by rfl)]; refine ⟨_, fun u => const_loadm _ (.tmp 101) (by rfl) _ _ (by rfl) aggHd hlH (rangeAt.ext RD.out u), hK _ ?_⟩; clear hK K; simp only [Act.put, List.setIfInBounds_toArray, List.set_cons_zero, List.set_cons_succ])
      (refine wpX_step (by rfl) (fun K hK => ?_); go_simp; first | (refine hK _ ?_; clear hK K) | (apply Exists.intro; refine ⟨fun _ => ?_, hK _ ?_⟩; exact CS.out _; clear hK K))
      (refine wpX_step (by rfl) (fun K hK => ?_); go_simp; first | (refine hK _ ?_; clear hK K) | (apply Exists.intro; refine ⟨fun _ => ?_, hK _ ?_⟩; fail; clear hK K))
      (refine wpX_step (by rfl) (fun K hK => ?_); go_simp; first | (refine hK _ ?_; clear hK K) | (apply Exists.intro; refine ⟨fun _ => ?_, hK _ ?_⟩; exact CV5.out _ (Subtype.property _); clear hK K))
      (refine wpX_step (by rfl) (fun K hK => ?_); go_simp; first | (refine hK _ ?_; clear hK K) | (apply Exists.intro; refine ⟨fun _ => ?_, hK _ ?_⟩; fail; clear hK K))
      refine wpX_nil ?_
      intro u6 hb6
      change forallRel u6 [] _ _
      simp only [forallRel, List.drop_succ_cons, List.drop_zero, List.drop_nil]
      have F20 := F19.kept hb6
      have y20 := y19.kept hb6
      clear km k4 CV5 dm c49 RD
      go_wp2_with (first
        | (refine wpList_loadA (o := ⟨some 107, _, _, _, _, _⟩) (by rfl) 31 (.tmp 8) (by rfl) (w.heap.size + 3) (by rfl) aggSt F20.z4 zst_len ?_)
        | ((with_reducible show wpList _ _ _ (⟨none, Op.store _ _ (Operand.tmp 107), _, _, _, _⟩ :: _) _ _); refine wpList_storeA (o := ⟨none, _, _, _, _, _⟩) (by rfl) 31 (.tmp 6) (.tmp 107) (by rfl) (w.heap.size + 2) zst (by rfl) (by rfl) aggSt F20.z3 zst_len zst_len zst_one (Below.then Hbel.out F20.hb) (by omega) ?_; intro w9 hh9 hbel9 _))
      exact bodyPost_ret (v := .tuple #[.agg zst.toArray, .int .i64 27]) (results_blk_tmp rfl _ _ (w.heap.size + 2) aggSt hh9 zst_len rfl rfl) rfl (StoG.zero 27 hbel9)
set_option maxHeartbeats 4000000 in
set_option maxRecDepth 100000 in
theorem ltapply_n0_0 (t : Sto) (k : t.In) (p : Upd) (ku : p.Ok) (V : List Vt) (hvs : V.length ≤ 140737488355328) (va : Option Addr) (vc : Nat) (vs vn vu : Value) (w : World) (h1 : RowOf u64c 1 w vs t.s) (h2 : RowOf u64c 1 w vn t.n) (h3 : RowOf u64c 1 w vu p.n) (hv : RowOf vtc 33 w (.slice va V.length vc) V) (hok : badL t p = false) (hlt : t.hd.num < p.hd.num) (hu : p.n.length = 0) (hq1 : p.hd.num / 8 - 1 = t.hd.num / 8 ∧ t.hd.num / 8 < p.hd.num / 8) (hn0 : t.n.length ≠ 0) (hqu : quoB p.mask t.n.length = true) (hvt : vtd p.mask (fun x => hasV V x (sumB (wH p.hd))) t.n = true)  :
    Calls Try.prog 16 #[.agg (hdcs t.hd ++ [vs, vn]).toArray, .agg (updc p.hd p.mask vu).toArray, .slice va V.length vc] w fun e w' => StoG t p vs vn vu w e w' (0, ⟨p.hd, t.n, p.n⟩) := by
  obtain ⟨sa, sc, rfl, _⟩ := h1.form
  obtain ⟨na, nc, rfl, _⟩ := h2.form
  obtain ⟨ua, uc, rfl, _⟩ := h3.form
  obtain ⟨sn, hsn⟩ : ∃ x, t.s.length = x := ⟨_, rfl⟩
  obtain ⟨nn, hnn⟩ : ∃ x, t.n.length = x := ⟨_, rfl⟩
  obtain ⟨un, hun⟩ : ∃ x, p.n.length = x := ⟨_, rfl⟩
  have k1 := k.sl
  have k2 := k.nl
  have k3 := ku.nl
  have hok' := hok
  unfold badL at hok
  rw [hsn] at h1 k1 ⊢
  rw [hnn] at h2 k2 hok ⊢
  rw [hun] at h3 k3 hok ⊢
  rw [hun] at hu
  subst hu
  have e1 := Lib.hid (stc_s k.hd (Value.slice sa sn sc) (Value.slice na nn nc))
  have e2 := Lib.hid (stc_n k.hd (Value.slice sa sn sc) (Value.slice na nn nc))
  have e3 := Lib.hid (updc_n ku.hd p.mask (Value.slice ua 0 uc))
  have e4 := Lib.hid (updc_m ku.hd p.mask (Value.slice ua 0 uc))
  have e5 := Lib.hid (hdcs_num' k.hd [Value.slice sa sn sc, Value.slice na nn nc])
  have e6 := Lib.hid (hdcs_num' ku.hd [u64v p.mask, Value.slice ua 0 uc])
  have e7 := Lib.hid (updc_hd ku.hd p.mask (Value.slice ua 0 uc))
  have e8 := Lib.hid (hdcs_nex' ku.hd [u64v p.mask, Value.slice ua 0 uc])
  have hlC := stc_len k.hd (Value.slice sa sn sc) (Value.slice na nn nc)
  have hlH := hdcs_len ku.hd
  have hlN : (by8 p.hd.nex).length = 32 := by rw [by8_len, ku.hd.nex]
  have hnum := ku.hd.num
  have hold := k.hd.num
  have hmask := ku.mask
  obtain ⟨C, hC⟩ : ∃ C, hdcs t.hd ++ [Value.slice sa sn sc, Value.slice na nn nc] = C := ⟨_, rfl⟩
  change Hid ((updc p.hd p.mask (Value.slice ua 0 uc))[32]? = _) at e6
  change Hid (((updc p.hd p.mask (Value.slice ua 0 uc)).drop 172).take 32 = _) at e8
  rw [hC] at e1 e2 e5 hlC ⊢
  generalize updc p.hd p.mask (Value.slice ua 0 uc) = D at *
  obtain ⟨w4, hw4, F, hbel, hsz⟩ := ltR_new w C D
  unfold u64v at e4 e5 e6
  have cs := blk_cell F.z1 e1
  have cn := blk_cell F.z1 e2
  have dn := blk_cell F.z2 e3
  have hg4 : w.heap.size + 3 < w4.heap.size := by omega
  have Hw4 := Lib.hid hw4
  have Hbel := Lib.hid hbel
  have H1 := Lib.hid h1
  have H2 := Lib.hid h2
  have H3 := Lib.hid h3
  have Hv := Lib.hid hv
  have K := Lib.hid k
  have Ku := Lib.hid ku
  have Hsn := Lib.hid hsn
  have Hnn := Lib.hid hnn
  have Hun := Lib.hid hun
  have Hvs := Lib.hid hvs
  have K1 := Lib.hid k1
  have K2 := Lib.hid k2
  have K3 := Lib.hid k3
  have Hok := Lib.hid hok
  have hgd : (rightB t.s = true) ∧ (nn = 0 ∨ rightB t.n = true) ∧ (0 = 0 ∨ rightB p.n = true) := by
    simp only [Bool.or_eq_false_iff, Bool.not_eq_false', Bool.and_eq_false_iff, decide_eq_true_eq] at hok
    exact ⟨hok.1.1, hok.1.2, .inl rfl⟩
  have hgd0 : Hid (rightB t.s = true ∨ ((0 : Nat) ≠ 0 ∧ sn = 0)) := Lib.hid (.inl hgd.1)
  have hgd1 : Hid (rightB t.n = true ∨ ((1 : Nat) ≠ 0 ∧ nn = 0)) := Lib.hid (by rcases hgd.2.1 with h | h; exact .inr ⟨by omega, h⟩; exact .inl h)
  have hgd2 : Hid (rightB p.n = true ∨ ((2 : Nat) ≠ 0 ∧ 0 = 0)) := Lib.hid (by rcases hgd.2.2 with h | h; exact .inr ⟨by omega, h⟩; exact .inl h)
  have Hgd := Lib.hid hgd
  obtain ⟨oa, hoa⟩ : ∃ x, t.hd.num = x := ⟨_, rfl⟩
  obtain ⟨ob, hob⟩ : ∃ x, p.hd.num = x := ⟨_, rfl⟩
  rw [hoa] at e5 hold
  rw [hob] at e6 hnum
  rw [hoa, hob] at hlt hq1
  have d1 : decide ((ob : Int) ≤ (oa : Int)) = false := decide_eq_false (by omega)
  have d1' : decide (ob ≤ oa) = false := decide_eq_false (by omega)
  have qa := u64_quo oa hold
  have qb := u64_quo ob hnum
  obtain ⟨Q1, hQ1⟩ : ∃ q, oa / 8 = q := ⟨_, rfl⟩
  obtain ⟨Q2, hQ2⟩ : ∃ q, ob / 8 = q := ⟨_, rfl⟩
  have hmono : Q1 ≤ Q2 := by omega
  have za : ((oa : Int) / 8) = (Q1 : Int) := by omega
  have zb : ((ob : Int) / 8) = (Q2 : Int) := by omega
  have hQ264 : Q2 < 18446744073709551616 := by omega
  rw [hQ1] at qa hq1
  rw [hQ2] at qb hq1
  have d2 : ((Q2 : Int) == (Q1 : Int)) = false := by rw [beq_eq_false_iff_ne]; omega
  have d2' : (Q2 == Q1) = false := by rw [beq_eq_false_iff_ne]; omega
  have hsub : IntKind.u64.wrap ((Q2 : Int) - 1) = ((Q2 - 1 : Nat) : Int) := by
    rw [show (Q2 : Int) - 1 = ((Q2 - 1 : Nat) : Int) by omega]
    exact IntWalk.u64_in _ (by omega)
  rw [hnn] at hn0
  have d3 : (((Q2 - 1 : Nat) : Int) == (Q1 : Int)) = true := by rw [beq_iff_eq]; omega
  have d3' : ((Q2 - 1 : Nat) == Q1) = true := by rw [beq_iff_eq]; omega
  have d4 : decide ((0 : Int) < (nn : Int)) = true := decide_eq_true (by omega)
  have d4' : decide (0 < nn) = true := decide_eq_true (by omega)
  generalize Q2 - 1 = Q3 at *
  have hright := rightB_len (hgd.2.1.resolve_left hn0)
  rw [hnn] at hright
  rw [hnn] at hqu
  have Q := vquorum_any p.mask nn hmask hright.1 hright.2
  rw [hqu] at Q
  have Q := Lib.hid Q
  obtain ⟨S, hS⟩ : ∃ S, sumB (wH p.hd) = S := ⟨_, rfl⟩
  have hS32 : S.length = 32 := by rw [← hS]; exact sumB_len _
  rw [hS] at hvt
  have CS : Hid (∀ u, Calls Try.prog 82 #[.agg (hdcs p.hd).toArray] u fun e w' => e = .returned (.agg (by8 S).toArray) ∧ Below u.heap.size u w') := Lib.hid fun u => by
    rw [← hS]; exact bbsum_any p.hd ku.hd u
  have CV : Hid (∀ u, Below w.heap.size w u → Calls Try.prog 81 #[.slice na nn nc, .int .u64 (p.mask : Int), .agg (by8 S).toArray, .slice va V.length vc] u fun e w' => e = .returned (.bool true) ∧ Below u.heap.size u w') := Lib.hid fun u hb => by
    rw [← hvt]; exact vvoted_any na nn nc t.n hnn (by omega) p.mask hmask S hS32 va V.length vc V rfl hvs u (h2.below hb) (hv.below hb)
  clear hlt hgd hQ1 hQ2 hmono hQ264 hright hqu hq1 hn0 hvt hS hS32
  clear hw4 hsn hnn hun h1 h2 h3 hv hok k ku hvs hC k1 k2 k3 hbel hok'
  go_enter Try.func16, Try.ntmps16
  go_wp2_with (rw [← Hw4.out])
  have Z : Blk 29 (w4.alloc (.cells [Value.slice sa sn sc, Value.slice na nn nc, Value.slice ua 0 uc].toArray 29)) w4.heap.size [Value.slice sa sn sc, Value.slice na nn nc, Value.slice ua 0 uc] := Blk.new w4 _ _
  have F := F.kept ((Below.refl w4.heap.size w4).alloc (Nat.le_refl _) (.cells [Value.slice sa sn sc, Value.slice na nn nc, Value.slice ua 0 uc].toArray 29))
  clear cs cn dn
  try simp only [Act.put]
  go_loopw [22] (fun ix wr => ∃ k : Nat, k ≤ 3 ∧ ix = .int .i64 (k : Int) ∧ LtR w4 w.heap.size C D wr ∧ Blk 29 wr w4.heap.size [Value.slice sa sn sc, Value.slice na nn nc, Value.slice ua 0 uc]) (fun ix _ => 3 - (intOf ix).toNat)
  case atStart => exact ⟨0, by omega, rfl, F, Z⟩
  case round =>
    clear F Z
    obtain ⟨k, hk, rfl, F, Z⟩ := hrel
    by_cases hlt : k < 3
    · have hki : (k : Int) < (3 : Int) := by omega
      obtain ⟨xa, xn, xc, lx, r, hx1, hx2, hx3, hx4, hx5, hx6⟩ : ∃ xa xn xc, ∃ lx : List Nat, ∃ r : Bool, [Value.slice sa sn sc, Value.slice na nn nc, Value.slice ua 0 uc][k]? = some (.slice xa xn xc) ∧ RowOf u64c 1 w (.slice xa xn xc) lx ∧ lx.length = xn ∧ xn ≤ 17592186044416 ∧ r = rightB lx ∧ (r = true ∨ (k ≠ 0 ∧ xn = 0)) := by
        rcases (by omega : k = 0 ∨ k = 1 ∨ k = 2) with rfl | rfl | rfl
        · exact ⟨sa, sn, sc, t.s, _, rfl, H1.out, Hsn.out, K1.out, rfl, hgd0.out⟩
        · exact ⟨na, nn, nc, t.n, _, rfl, H2.out, Hnn.out, K2.out, rfl, hgd1.out⟩
        · exact ⟨ua, 0, uc, p.n, _, rfl, H3.out, Hun.out, K3.out, rfl, (by simp)⟩
      have hc : wr.cell? ⟨w.heap.size + 4, k, none⟩ = some (.slice xa xn xc) := by rw [← hsz]; exact (Z.cell k).trans hx1
      have A := vright_any xa xn xc lx hx3 hx4 wr (RowOf.below (RowOf.below hx2 Hbel.out) F.hb)
      rw [← hx5] at A
      have AA := Lib.hid A
      clear hx1 hx2 hx3 hx4 hx5 A
      cases r with
      | true =>
        go_wp2_with (go_at_call 20; (with_reducible refine AA.out.mono ?_); rintro e w5 ⟨rfl, b5⟩; have F5 := F.kept b5; have Z5 := Z.kept b5)
        go_roundw
        case rel => exact ⟨k + 1, by omega, by go_num, F5, Z5⟩
        case measure => simp [intOf]; omega
      | false =>
        obtain ⟨h0, rfl⟩ := hx6.resolve_left (by simp)
        have h0' : ((k : Int) == 0) = false := by rw [beq_eq_false_iff_ne]; omega
        go_wp2_with (go_at_call 20; (with_reducible refine AA.out.mono ?_); rintro e w5 ⟨rfl, b5⟩; have F5 := F.kept b5; have Z5 := Z.kept b5)
        go_roundw
        case rel => exact ⟨k + 1, by omega, by go_num, F5, Z5⟩
        case measure => simp [intOf]; omega
    · obtain rfl : k = 3 := by omega
      go_wp2_with fail
      have ch := blk_cell F.z1 e5
      have dh := blk_cell F.z2 e6
      have kh := fun u : Ext wr => u.cell ch
      have kd := fun u : Ext wr => u.cell dh
      refine wp_region_typed wr 8 (by kernel_rfl) (by kernel_rfl) (Below.refl _ _) ?_; simp only [List.take_succ_cons, List.take_zero, List.take_nil]
      iterate 8 (refine wpX_step (by rfl) (fun K hK => ?_); go_simp; first | (refine hK _ ?_; clear hK K) | (apply Exists.intro; refine ⟨fun _ => ?_, hK _ ?_⟩; fail; clear hK K))
      refine wpX_nil ?_
      intro u1 hb1
      change forallRel u1 [] _ _
      simp only [forallRel, List.drop_succ_cons, List.drop_zero, List.drop_nil]
      have F := F.kept hb1
      clear kh kd ch dh Z
      have RD := rng F.z2 e7
      have RD := RD.out
      have dn := blk_cell F.z2 e3
      have hlT := stc_len Ku.out.hd (.slice none 0 0) (.slice ua 0 uc)
      go_wp2_with (first
        | ((refine wpList_loadW (o := ⟨some 52, _, _, _, _, _⟩) 28 (.tmp 51) (by rfl) (w.heap.size + 1) 0 (by rfl) aggHd hlH RD (by rfl) ?_))
        | (refine wpList_buildB (o := ⟨some 55, _, _, _, _, _⟩) (by rfl) 31 [(0, .tmp 52), (2, .tmp 54)] (by rfl) _ (by rfl) _ (built_st2 Ku.out.hd ua 0 uc) ?_)
        | ((with_reducible show wpList _ _ _ (⟨none, Op.store _ _ (Operand.tmp 55), _, _, _, _⟩ :: _) _ _); refine wpList_storeA (o := ⟨none, _, _, _, _, _⟩) (by rfl) 31 (.tmp 13) (.tmp 55) (by rfl) u1.heap.size (hdcs p.hd ++ [.slice none 0 0, .slice ua 0 uc]) (by rfl) (by rfl) aggSt (old := zst) (by rw [zcSt]; exact Blk.new u1 _ _) hlT zst_len (stc_one _ _ _ _ _ _ _) ((Below.refl u1.heap.size u1).alloc (Nat.le_refl _) _) (Nat.le_refl _) ?_; intro w8 y8 b8 _; have F8 := F.kept b8; have hgu : w4.heap.size ≤ u1.heap.size := F.hb.size; have cs := blk_cell F8.z1 e1; have cn := blk_cell F8.z1 e2; obtain ⟨x4, hx4⟩ := y8.has 204 (by omega); have hf4 := y8.free 204; have y14 := y8.set 204 (Value.slice na nn nc); rw [stc_set4 Ku.out.hd] at y14; have F14 := F8.keptB hg4 hgu ((Below.refl u1.heap.size w8).setCell (p := ⟨u1.heap.size, 204, none⟩) (Nat.le_refl _) (Value.slice na nn nc)); have c45 : (w8.setCell ⟨u1.heap.size, 204, none⟩ (Value.slice na nn nc)).cell? ⟨u1.heap.size, 205, none⟩ = some (.slice ua 0 uc) := (y14.cell 205).trans (stc_n Ku.out.hd _ _); have y19 := y14; have F19 := F14; have c49 : (w8.setCell ⟨u1.heap.size, 204, none⟩ (Value.slice na nn nc)).cell? ⟨u1.heap.size, 204, none⟩ = some (Value.slice na nn nc) := (y19.cell 204).trans (stc_s Ku.out.hd _ _); have dm := blk_cell F19.z2 e4)
        | (go_at_call 80; (with_reducible refine (Q.out _).mono ?_); rintro e w6 ⟨rfl, rfl⟩))
      obtain ⟨u5, hu5⟩ : ∃ x, x = (w8.setCell ⟨u1.heap.size, 204, none⟩ (Value.slice na nn nc)) := ⟨_, rfl⟩
      rw [← hu5] at F19 y19 dm c49 ⊢
      clear hu5 cs cn hx4 hf4 y14 F14 c45 RD dn F8 y8
      have RD := rng F19.z2 e7
      have km := fun u : Ext u5 => u.cell dm
      have k4 := fun u : Ext u5 => u.cell c49
      have CV5 : Hid (∀ u, Below u5.heap.size u5 u → _) := Lib.hid fun u hu => CV.out u (Below.then (Below.then Hbel.out F19.hb) hu)
      refine wp_region_typed u5 10 (by kernel_rfl) (by kernel_rfl) (Below.refl _ _) ?_; simp only [List.take_succ_cons, List.take_zero, List.take_nil]
      iterate 5 (refine wpX_step (by rfl) (fun K hK => ?_); go_simp; first | (refine hK _ ?_; clear hK K) | (apply Exists.intro; refine ⟨fun _ => ?_, hK _ ?_⟩; fail; clear hK K))
      (refine wpX_step (by rfl) (fun K hK => ?_); rw [if_pos (by rfl)]; refine ⟨_, fun u => const_loadm _ (.tmp 101) (by rfl) _ _ (by rfl) aggHd hlH (rangeAt.ext RD.out u), hK _ ?_⟩; clear hK K; simp only [Act.put, List.setIfInBounds_toArray, List.set_cons_zero, List.set_cons_succ])
      (refine wpX_step (by rfl) (fun K hK => ?_); go_simp; first | (refine hK _ ?_; clear hK K) | (apply Exists.intro; refine ⟨fun _ => ?_, hK _ ?_⟩; exact CS.out _; clear hK K))
      (refine wpX_step (by rfl) (fun K hK => ?_); go_simp; first | (refine hK _ ?_; clear hK K) | (apply Exists.intro; refine ⟨fun _ => ?_, hK _ ?_⟩; fail; clear hK K))
      (refine wpX_step (by rfl) (fun K hK => ?_); go_simp; first | (refine hK _ ?_; clear hK K) | (apply Exists.intro; refine ⟨fun _ => ?_, hK _ ?_⟩; exact CV5.out _ (Subtype.property _); clear hK K))
      (refine wpX_step (by rfl) (fun K hK => ?_); go_simp; first | (refine hK _ ?_; clear hK K) | (apply Exists.intro; refine ⟨fun _ => ?_, hK _ ?_⟩; fail; clear hK K))
      refine wpX_nil ?_
      intro u6 hb6
      change forallRel u6 [] _ _
      simp only [forallRel, List.drop_succ_cons, List.drop_zero, List.drop_nil]
      have F20 := F19.kept hb6
      have y20 := y19.kept hb6
      clear km k4 CV5 dm c49 RD
      go_wp2_with fail
      have dn := blk_cell F20.z2 e3
      have kn := fun u : Ext u6 => u.cell dn
      refine wp_region_typed u6 14 (by kernel_rfl) (by kernel_rfl) (Below.refl _ _) ?_; simp only [List.take_succ_cons, List.take_zero, List.take_nil]
      iterate 14 (refine wpX_step (by rfl) (fun K hK => ?_); go_simp; first | (refine hK _ ?_; clear hK K) | (apply Exists.intro; refine ⟨fun _ => ?_, hK _ ?_⟩; fail; clear hK K))
      refine wpX_nil ?_
      intro u7 hb7
      change forallRel u7 [] _ _
      simp only [forallRel, List.drop_succ_cons, List.drop_zero, List.drop_nil]
      have F21 := F20.kept hb7
      have y21 := y20.kept hb7
      have hlT := stc_len Ku.out.hd (Value.slice na nn nc) (Value.slice ua 0 uc)
      go_wp2_with (first
        | (refine wpList_loadA (o := ⟨some 123, _, _, _, _, _⟩) (by rfl) 31 (.tmp 13) (by rfl) u1.heap.size (by rfl) aggSt y21 hlT ?_)
        | ((with_reducible show wpList _ _ _ (⟨none, Op.store _ _ (Operand.tmp 123), _, _, _, _⟩ :: _) _ _); refine wpList_storeA (o := ⟨none, _, _, _, _, _⟩) (by rfl) 31 (.tmp 6) (.tmp 123) (by rfl) (w.heap.size + 2) (hdcs p.hd ++ [Value.slice na nn nc, Value.slice ua 0 uc]) (by rfl) (by rfl) aggSt F21.z3 hlT zst_len (stc_one _ _ _ _ _ _ _) (Below.then Hbel.out F21.hb) (by omega) ?_; intro w9 hh9 hbel9 _))
      exact bodyPost_ret (v := .tuple #[.agg (hdcs p.hd ++ [Value.slice na nn nc, Value.slice ua 0 uc]).toArray, .int .i64 0]) (results_blk_tmp rfl _ _ (w.heap.size + 2) aggSt hh9 hlT rfl rfl) rfl ⟨_, _, rfl, fun _ a1 a2 a3 => ⟨a2, a3⟩, hbel9⟩
end Go.Proofs.Ytgjgokcpampljaa
