/- light.Apply: seats that are right. (gen_lt4.py prints this text.) -/
import Derived.Test.YtgjgokcpampljaaLtA
import Derived.Test.YtgjgokcpampljaaCliA
set_option linter.unusedSimpArgs false
set_option linter.unusedVariables false
namespace Go.Proofs.Ytgjgokcpampljaa
open Go.RowKit
theorem rng {e : TypeId} {u : World} {g : Nat} {C L : List Value} (h : Blk e u g C) {o n : Nat} (hL : Hid ((C.drop o).take n = L)) : Hid (u.rangeAt g o L) := by
  have := h.range o n
  rw [hL.out] at this
  exact Lib.hid this
theorem judge_at (t : Sto) (k : t.In) (m : Nat) (hm : m < 18446744073709551616) (vs vn : Value) (C : List Value) (hC : hdcs t.hd ++ [vs, vn] = C) (w3 : World) (h1 : RowOf u64c 1 w3 vs t.s) (h2 : RowOf u64c 1 w3 vn t.n) (z : Int) (l : List Nat) (hz : ((jdg t m).1 : Int) = z) (hl : (jdg t m).2 = l) :
    Hid (∀ u, Below w3.heap.size w3 u → Calls Try.prog 74 #[.agg C.toArray, .int .u64 (m : Int)] u fun e w' => ∃ v, e = .returned (.tuple #[v, .int .i64 z]) ∧ RowOf u64c 1 w' v l ∧ Below u.heap.size u w') := by
  subst hC hz hl
  exact Lib.hid fun u hu => judge_any t k m hm vs vn u (h1.below hu) (h2.below hu)
theorem jdg_cases {t : Sto} {m : Nat} (h : (jdg t m).1 ≠ 0) : (jdg t m).1 = 24 ∨ (jdg t m).1 = 25 := by
  unfold jdg at h ⊢
  split
  · exact .inl rfl
  · rename_i g1
    rw [if_neg g1] at h
    split
    · rename_i g2; rw [if_pos g2] at h; exact absurd rfl h
    · rename_i g2
      rw [if_neg g2] at h
      split
      · exact .inr rfl
      · rename_i g3; rw [if_neg g3] at h; exact absurd rfl h
theorem jdg_right {t : Sto} {p : Upd} {m : Nat} {l : List Nat} (hok : badL t p = false) (h : jdg t m = (0, l)) : rightB l = true := by
  unfold badL at hok
  simp only [Bool.or_eq_false_iff, Bool.not_eq_false'] at hok
  unfold jdg at h
  split at h
  · simp at h
  · split at h
    · simp only [Prod.mk.injEq, true_and] at h; rw [← h]; exact hok.1.1
    · split at h
      · simp at h
      · rename_i g
        simp only [Prod.mk.injEq, true_and] at h; rw [← h]
        have h2 := hok.1.2
        rw [decide_eq_false (fun e => g (.inr e))] at h2
        simpa using h2
theorem quorum_at {M n : Nat} (hM : M < 18446744073709551616) (hn1 : 1 ≤ n) (hn : n ≤ 16) {r : Bool} (hr : quoB M n = r) : Hid (∀ u, Calls Try.prog 75 #[.int .u64 (M : Int), .int .i64 (n : Int)] u fun e w' => e = .returned (.bool r) ∧ u = w') := by
  subst hr
  exact Lib.hid fun u => quorum_any M n hM hn1 hn u
theorem none_atB (a : Option Addr) (n c : Nat) {r : Bool} (hr : r = decide (n = 0)) : Hid (∀ u, Calls Try.prog 73 #[.slice a n c] u fun e w' => e = .returned (.bool r) ∧ Below u.heap.size u w') := by
  have h := none_at a n c hr
  exact Lib.hid fun u => (h.out u).mono fun e w' ⟨h1, h2⟩ => ⟨h1, by rw [h2]; exact Below.refl _ _⟩
theorem period_atB (n : Nat) (hn : n < 18446744073709551616) : Hid (∀ u, Calls Try.prog 19 #[.int .u64 (n : Int)] u fun e w' => e = .returned (.int .u64 ((n / 8 : Nat) : Int)) ∧ Below u.heap.size u w') :=
  Lib.hid fun u => (period_any n hn u).mono fun e w' ⟨h1, h2⟩ => ⟨h1, by rw [h2]; exact Below.refl _ _⟩
theorem LtW.keptB {w3 : World} {g B : Nat} {C D R : List Value} {u u' : World} (h : LtW w3 g C D R u) (hg : g + 2 < w3.heap.size) (hB : w3.heap.size ≤ B) (hb : Below B u u') : LtW w3 g C D R u' :=
  ⟨h.hb.trans (hb.mono hB), h.z1.below hb (by omega), h.z2.below hb (by omega), h.z3.below hb (by omega)⟩
theorem stc_setN' {t : Hd} (k : t.Ok) (vs vn v : Value) : (hdcs t ++ [vs, vn]).set 205 v = hdcs t ++ [vs, v] := by rw [List.set_append_right _ _ (by rw [hdcs_len k]; omega), hdcs_len k]; rfl
set_option maxHeartbeats 4000000 in
set_option maxRecDepth 100000 in
theorem apply_judge24 (t : Sto) (k : t.In) (p : Upd) (ku : p.Ok) (V : List Vt) (hvs : V.length ≤ 140737488355328) (hV : ∀ v ∈ V, v.Ok) (va : Option Addr) (vc : Nat) (vs vn vu : Value) (w : World) (h1 : RowOf u64c 1 w vs t.s) (h2 : RowOf u64c 1 w vn t.n) (h3 : RowOf u64c 1 w vu p.n) (hv : RowOf vtc 33 w (.slice va V.length vc) V) (hok : badL t p = false) (hE : (jdg t p.hd.num).1 = 24) :
    Calls Try.prog 15 #[.agg (hdcs t.hd ++ [vs, vn]).toArray, .agg (updc p.hd p.mask vu).toArray, .slice va V.length vc] w fun e w' => StoO w e w' (24, zSto) := by
  obtain ⟨sa, sc, rfl, _⟩ := h1.form
  obtain ⟨na, nc, rfl, _⟩ := h2.form
  obtain ⟨ua, uc, rfl, _⟩ := h3.form
  obtain ⟨sn, hsn⟩ : ∃ x, t.s.length = x := ⟨_, rfl⟩
  obtain ⟨nn, hnn⟩ : ∃ x, t.n.length = x := ⟨_, rfl⟩
  obtain ⟨un, hun⟩ : ∃ x, p.n.length = x := ⟨_, rfl⟩
  have k1 := k.sl
  have k2 := k.nl
  have k3 := ku.nl
  unfold badL at hok
  rw [hsn] at h1 k1 ⊢
  rw [hnn] at h2 k2 hok ⊢
  rw [hun] at h3 k3 hok ⊢
  have e1 := Lib.hid (stc_s k.hd (Value.slice sa sn sc) (Value.slice na nn nc))
  have e2 := Lib.hid (stc_n k.hd (Value.slice sa sn sc) (Value.slice na nn nc))
  have e3 := Lib.hid (updc_n ku.hd p.mask (Value.slice ua un uc))
  have e4 := Lib.hid (updc_m ku.hd p.mask (Value.slice ua un uc))
  have e5 := Lib.hid (hdcs_num' k.hd [Value.slice sa sn sc, Value.slice na nn nc])
  have e6 := Lib.hid (hdcs_num' ku.hd [u64v p.mask, Value.slice ua un uc])
  have e7 := Lib.hid (updc_hd ku.hd p.mask (Value.slice ua un uc))
  have e8 := Lib.hid (hdcs_nex' ku.hd [u64v p.mask, Value.slice ua un uc])
  have hlC := stc_len k.hd (Value.slice sa sn sc) (Value.slice na nn nc)
  have hlH := hdcs_len ku.hd
  have hlN : (by8 p.hd.nex).length = 32 := by rw [by8_len, ku.hd.nex]
  have hnum := ku.hd.num
  have hmask := ku.mask
  obtain ⟨C, hC⟩ : ∃ C, hdcs t.hd ++ [Value.slice sa sn sc, Value.slice na nn nc] = C := ⟨_, rfl⟩
  change Hid ((updc p.hd p.mask (Value.slice ua un uc))[32]? = _) at e6
  change Hid (((updc p.hd p.mask (Value.slice ua un uc)).drop 172).take 32 = _) at e8
  rw [hC] at e1 e2 e5 hlC ⊢
  generalize updc p.hd p.mask (Value.slice ua un uc) = D at *
  obtain ⟨w3, hw3, F, hbel⟩ := ltW_new w C D
  obtain ⟨Rs, hRs⟩ : ∃ r, r = rightB t.s := ⟨_, rfl⟩
  obtain ⟨Rn, hRn⟩ : ∃ r, r = rightB t.n := ⟨_, rfl⟩
  obtain ⟨Ru, hRu⟩ : ∃ r, r = rightB p.n := ⟨_, rfl⟩
  obtain ⟨N0, hN0⟩ : ∃ r, r = decide (nn = 0) := ⟨_, rfl⟩
  obtain ⟨U0, hU0⟩ : ∃ r, r = decide (un = 0) := ⟨_, rfl⟩
  rw [← hRs, ← hRn, ← hRu, ← hN0, ← hU0] at hok
  have A1 := right_at hsn k1 (h1.below hbel) hRs
  have A2 := right_at hnn k2 (h2.below hbel) hRn
  have A3 := right_at hun k3 (h3.below hbel) hRu
  have B2 := none_at na nn nc hN0
  have B3 := none_at ua un uc hU0
  have B4 := none_atB ua un uc hU0
  have J := judge_at t k p.hd.num hnum _ _ C hC w3 (h1.below hbel) (h2.below hbel) 24 (jdg t p.hd.num).2 (by rw [hE]; rfl) rfl
  generalize (jdg t p.hd.num).2 = l at J
  unfold u64v at e4 e5 e6
  have cs := blk_cell F.z1 e1
  have cn := blk_cell F.z1 e2
  have dn := blk_cell F.z2 e3
  have dh := blk_cell F.z2 e6
  have hg3 := F.z3.lt
  have Hw3 := Lib.hid hw3
  have Hbel := Lib.hid hbel
  have H1 := Lib.hid (h1.below hbel)
  have H2 := Lib.hid (h2.below hbel)
  have H3 := Lib.hid (h3.below hbel)
  have Hv := Lib.hid (hv.below hbel)
  have Hok := Lib.hid hok
  have K := Lib.hid k
  have Ku := Lib.hid ku
  have Hsn := Lib.hid hsn
  have Hnn := Lib.hid hnn
  have Hun := Lib.hid hun
  have HU0 := Lib.hid hU0
  have Hvs := Lib.hid hvs
  have HV := Lib.hid hV
  have K2 := Lib.hid k2
  have K3 := Lib.hid k3
  clear hw3 hbel hsn hnn hun h1 h2 h3 hv hRs hRn hRu hN0 hU0 hok k ku hvs hV hC k1 k2 k3
  have key : (Rs = true ∧ N0 = true ∧ U0 = true) ∨ (Rs = true ∧ N0 = false ∧ Rn = true ∧ U0 = true) ∨ (Rs = true ∧ N0 = true ∧ U0 = false ∧ Ru = true) ∨ (Rs = true ∧ N0 = false ∧ Rn = true ∧ U0 = false ∧ Ru = true) := by
    have := Hok.out
    revert this; cases Rs <;> cases N0 <;> cases Rn <;> cases U0 <;> cases Ru <;> simp
  rcases key with ⟨rfl, rfl, rfl⟩ | ⟨rfl, rfl, rfl, rfl⟩ | ⟨rfl, rfl, rfl, rfl⟩ | ⟨rfl, rfl, rfl, rfl, rfl⟩
  all_goals
    go_enter Try.func15, Try.ntmps15
    go_wp2_with (first
      | (rw [← Hw3.out])
      | (go_at_call 73; first
        | ((with_reducible refine (B2.out _).mono ?_); rintro e w4 ⟨rfl, rfl⟩)
        | ((with_reducible refine (B3.out _).mono ?_); rintro e w4 ⟨rfl, rfl⟩))
      | (go_at_call 72; first
        | ((with_reducible refine (A1.out _ F.hb).mono ?_); rintro e w4 ⟨rfl, b4⟩; have F := F.kept b4; have cs := blk_cell F.z1 e1; have cn := blk_cell F.z1 e2; have dn := blk_cell F.z2 e3; have dh := blk_cell F.z2 e6)
        | ((with_reducible refine (A2.out _ F.hb).mono ?_); rintro e w4 ⟨rfl, b4⟩; have F := F.kept b4; have cs := blk_cell F.z1 e1; have cn := blk_cell F.z1 e2; have dn := blk_cell F.z2 e3; have dh := blk_cell F.z2 e6)
        | ((with_reducible refine (A3.out _ F.hb).mono ?_); rintro e w4 ⟨rfl, b4⟩; have F := F.kept b4; have cs := blk_cell F.z1 e1; have cn := blk_cell F.z1 e2; have dn := blk_cell F.z2 e3; have dh := blk_cell F.z2 e6))
      | (refine wpList_loadA (o := ⟨some 41, _, _, _, _, _⟩) (by rfl) 31 (.tmp 3) (by rfl) w.heap.size (by rfl) aggSt F.z1 hlC ?_)
      | (go_at_call 74; (with_reducible refine (J.out _ F.hb).mono ?_); rintro e w5 ⟨v, rfl, rl, b5⟩; have F := F.kept b5)
      | ((with_reducible show wpList _ _ _ (⟨none, Op.store _ _ (Operand.tmp 51), _, _, _, _⟩ :: _) _ _); refine wpList_storeA (o := ⟨none, _, _, _, _, _⟩) (by rfl) 31 (.tmp 6) (.tmp 51) (by rfl) (w.heap.size + 2) zst (by rfl) (by first | rfl | exact congrArg Value.agg zcSt) aggSt F.z3 zst_len zst_len zst_one (Below.then Hbel.out F.hb) (by omega) ?_; intro w9 hh9 hbel9 _))
    exact bodyPost_ret (v := .tuple #[.agg zst.toArray, .int .i64 24]) (results_blk_tmp rfl _ _ (w.heap.size + 2) aggSt hh9 zst_len rfl rfl) rfl (StoO.zero 24 hbel9)
set_option maxHeartbeats 4000000 in
set_option maxRecDepth 100000 in
theorem apply_judge25 (t : Sto) (k : t.In) (p : Upd) (ku : p.Ok) (V : List Vt) (hvs : V.length ≤ 140737488355328) (hV : ∀ v ∈ V, v.Ok) (va : Option Addr) (vc : Nat) (vs vn vu : Value) (w : World) (h1 : RowOf u64c 1 w vs t.s) (h2 : RowOf u64c 1 w vn t.n) (h3 : RowOf u64c 1 w vu p.n) (hv : RowOf vtc 33 w (.slice va V.length vc) V) (hok : badL t p = false) (hE : (jdg t p.hd.num).1 = 25) :
    Calls Try.prog 15 #[.agg (hdcs t.hd ++ [vs, vn]).toArray, .agg (updc p.hd p.mask vu).toArray, .slice va V.length vc] w fun e w' => StoO w e w' (25, zSto) := by
  obtain ⟨sa, sc, rfl, _⟩ := h1.form
  obtain ⟨na, nc, rfl, _⟩ := h2.form
  obtain ⟨ua, uc, rfl, _⟩ := h3.form
  obtain ⟨sn, hsn⟩ : ∃ x, t.s.length = x := ⟨_, rfl⟩
  obtain ⟨nn, hnn⟩ : ∃ x, t.n.length = x := ⟨_, rfl⟩
  obtain ⟨un, hun⟩ : ∃ x, p.n.length = x := ⟨_, rfl⟩
  have k1 := k.sl
  have k2 := k.nl
  have k3 := ku.nl
  unfold badL at hok
  rw [hsn] at h1 k1 ⊢
  rw [hnn] at h2 k2 hok ⊢
  rw [hun] at h3 k3 hok ⊢
  have e1 := Lib.hid (stc_s k.hd (Value.slice sa sn sc) (Value.slice na nn nc))
  have e2 := Lib.hid (stc_n k.hd (Value.slice sa sn sc) (Value.slice na nn nc))
  have e3 := Lib.hid (updc_n ku.hd p.mask (Value.slice ua un uc))
  have e4 := Lib.hid (updc_m ku.hd p.mask (Value.slice ua un uc))
  have e5 := Lib.hid (hdcs_num' k.hd [Value.slice sa sn sc, Value.slice na nn nc])
  have e6 := Lib.hid (hdcs_num' ku.hd [u64v p.mask, Value.slice ua un uc])
  have e7 := Lib.hid (updc_hd ku.hd p.mask (Value.slice ua un uc))
  have e8 := Lib.hid (hdcs_nex' ku.hd [u64v p.mask, Value.slice ua un uc])
  have hlC := stc_len k.hd (Value.slice sa sn sc) (Value.slice na nn nc)
  have hlH := hdcs_len ku.hd
  have hlN : (by8 p.hd.nex).length = 32 := by rw [by8_len, ku.hd.nex]
  have hnum := ku.hd.num
  have hmask := ku.mask
  obtain ⟨C, hC⟩ : ∃ C, hdcs t.hd ++ [Value.slice sa sn sc, Value.slice na nn nc] = C := ⟨_, rfl⟩
  change Hid ((updc p.hd p.mask (Value.slice ua un uc))[32]? = _) at e6
  change Hid (((updc p.hd p.mask (Value.slice ua un uc)).drop 172).take 32 = _) at e8
  rw [hC] at e1 e2 e5 hlC ⊢
  generalize updc p.hd p.mask (Value.slice ua un uc) = D at *
  obtain ⟨w3, hw3, F, hbel⟩ := ltW_new w C D
  obtain ⟨Rs, hRs⟩ : ∃ r, r = rightB t.s := ⟨_, rfl⟩
  obtain ⟨Rn, hRn⟩ : ∃ r, r = rightB t.n := ⟨_, rfl⟩
  obtain ⟨Ru, hRu⟩ : ∃ r, r = rightB p.n := ⟨_, rfl⟩
  obtain ⟨N0, hN0⟩ : ∃ r, r = decide (nn = 0) := ⟨_, rfl⟩
  obtain ⟨U0, hU0⟩ : ∃ r, r = decide (un = 0) := ⟨_, rfl⟩
  rw [← hRs, ← hRn, ← hRu, ← hN0, ← hU0] at hok
  have A1 := right_at hsn k1 (h1.below hbel) hRs
  have A2 := right_at hnn k2 (h2.below hbel) hRn
  have A3 := right_at hun k3 (h3.below hbel) hRu
  have B2 := none_at na nn nc hN0
  have B3 := none_at ua un uc hU0
  have B4 := none_atB ua un uc hU0
  have J := judge_at t k p.hd.num hnum _ _ C hC w3 (h1.below hbel) (h2.below hbel) 25 (jdg t p.hd.num).2 (by rw [hE]; rfl) rfl
  generalize (jdg t p.hd.num).2 = l at J
  unfold u64v at e4 e5 e6
  have cs := blk_cell F.z1 e1
  have cn := blk_cell F.z1 e2
  have dn := blk_cell F.z2 e3
  have dh := blk_cell F.z2 e6
  have hg3 := F.z3.lt
  have Hw3 := Lib.hid hw3
  have Hbel := Lib.hid hbel
  have H1 := Lib.hid (h1.below hbel)
  have H2 := Lib.hid (h2.below hbel)
  have H3 := Lib.hid (h3.below hbel)
  have Hv := Lib.hid (hv.below hbel)
  have Hok := Lib.hid hok
  have K := Lib.hid k
  have Ku := Lib.hid ku
  have Hsn := Lib.hid hsn
  have Hnn := Lib.hid hnn
  have Hun := Lib.hid hun
  have HU0 := Lib.hid hU0
  have Hvs := Lib.hid hvs
  have HV := Lib.hid hV
  have K2 := Lib.hid k2
  have K3 := Lib.hid k3
  clear hw3 hbel hsn hnn hun h1 h2 h3 hv hRs hRn hRu hN0 hU0 hok k ku hvs hV hC k1 k2 k3
  have key : (Rs = true ∧ N0 = true ∧ U0 = true) ∨ (Rs = true ∧ N0 = false ∧ Rn = true ∧ U0 = true) ∨ (Rs = true ∧ N0 = true ∧ U0 = false ∧ Ru = true) ∨ (Rs = true ∧ N0 = false ∧ Rn = true ∧ U0 = false ∧ Ru = true) := by
    have := Hok.out
    revert this; cases Rs <;> cases N0 <;> cases Rn <;> cases U0 <;> cases Ru <;> simp
  rcases key with ⟨rfl, rfl, rfl⟩ | ⟨rfl, rfl, rfl, rfl⟩ | ⟨rfl, rfl, rfl, rfl⟩ | ⟨rfl, rfl, rfl, rfl, rfl⟩
  all_goals
    go_enter Try.func15, Try.ntmps15
    go_wp2_with (first
      | (rw [← Hw3.out])
      | (go_at_call 73; first
        | ((with_reducible refine (B2.out _).mono ?_); rintro e w4 ⟨rfl, rfl⟩)
        | ((with_reducible refine (B3.out _).mono ?_); rintro e w4 ⟨rfl, rfl⟩))
      | (go_at_call 72; first
        | ((with_reducible refine (A1.out _ F.hb).mono ?_); rintro e w4 ⟨rfl, b4⟩; have F := F.kept b4; have cs := blk_cell F.z1 e1; have cn := blk_cell F.z1 e2; have dn := blk_cell F.z2 e3; have dh := blk_cell F.z2 e6)
        | ((with_reducible refine (A2.out _ F.hb).mono ?_); rintro e w4 ⟨rfl, b4⟩; have F := F.kept b4; have cs := blk_cell F.z1 e1; have cn := blk_cell F.z1 e2; have dn := blk_cell F.z2 e3; have dh := blk_cell F.z2 e6)
        | ((with_reducible refine (A3.out _ F.hb).mono ?_); rintro e w4 ⟨rfl, b4⟩; have F := F.kept b4; have cs := blk_cell F.z1 e1; have cn := blk_cell F.z1 e2; have dn := blk_cell F.z2 e3; have dh := blk_cell F.z2 e6))
      | (refine wpList_loadA (o := ⟨some 41, _, _, _, _, _⟩) (by rfl) 31 (.tmp 3) (by rfl) w.heap.size (by rfl) aggSt F.z1 hlC ?_)
      | (go_at_call 74; (with_reducible refine (J.out _ F.hb).mono ?_); rintro e w5 ⟨v, rfl, rl, b5⟩; have F := F.kept b5)
      | ((with_reducible show wpList _ _ _ (⟨none, Op.store _ _ (Operand.tmp 51), _, _, _, _⟩ :: _) _ _); refine wpList_storeA (o := ⟨none, _, _, _, _, _⟩) (by rfl) 31 (.tmp 6) (.tmp 51) (by rfl) (w.heap.size + 2) zst (by rfl) (by first | rfl | exact congrArg Value.agg zcSt) aggSt F.z3 zst_len zst_len zst_one (Below.then Hbel.out F.hb) (by omega) ?_; intro w9 hh9 hbel9 _))
    exact bodyPost_ret (v := .tuple #[.agg zst.toArray, .int .i64 25]) (results_blk_tmp rfl _ _ (w.heap.size + 2) aggSt hh9 zst_len rfl rfl) rfl (StoO.zero 25 hbel9)
set_option maxHeartbeats 4000000 in
set_option maxRecDepth 100000 in
theorem apply_quo (t : Sto) (k : t.In) (p : Upd) (ku : p.Ok) (V : List Vt) (hvs : V.length ≤ 140737488355328) (hV : ∀ v ∈ V, v.Ok) (va : Option Addr) (vc : Nat) (vs vn vu : Value) (w : World) (h1 : RowOf u64c 1 w vs t.s) (h2 : RowOf u64c 1 w vn t.n) (h3 : RowOf u64c 1 w vu p.n) (hv : RowOf vtc 33 w (.slice va V.length vc) V) (hok : badL t p = false) (l : List Nat) (hJ : jdg t p.hd.num = (0, l)) (hq : quoB p.mask l.length = false) :
    Calls Try.prog 15 #[.agg (hdcs t.hd ++ [vs, vn]).toArray, .agg (updc p.hd p.mask vu).toArray, .slice va V.length vc] w fun e w' => StoO w e w' (26, zSto) := by
  have hright := rightB_len (jdg_right hok hJ)
  obtain ⟨sa, sc, rfl, _⟩ := h1.form
  obtain ⟨na, nc, rfl, _⟩ := h2.form
  obtain ⟨ua, uc, rfl, _⟩ := h3.form
  obtain ⟨sn, hsn⟩ : ∃ x, t.s.length = x := ⟨_, rfl⟩
  obtain ⟨nn, hnn⟩ : ∃ x, t.n.length = x := ⟨_, rfl⟩
  obtain ⟨un, hun⟩ : ∃ x, p.n.length = x := ⟨_, rfl⟩
  have k1 := k.sl
  have k2 := k.nl
  have k3 := ku.nl
  unfold badL at hok
  rw [hsn] at h1 k1 ⊢
  rw [hnn] at h2 k2 hok ⊢
  rw [hun] at h3 k3 hok ⊢
  have e1 := Lib.hid (stc_s k.hd (Value.slice sa sn sc) (Value.slice na nn nc))
  have e2 := Lib.hid (stc_n k.hd (Value.slice sa sn sc) (Value.slice na nn nc))
  have e3 := Lib.hid (updc_n ku.hd p.mask (Value.slice ua un uc))
  have e4 := Lib.hid (updc_m ku.hd p.mask (Value.slice ua un uc))
  have e5 := Lib.hid (hdcs_num' k.hd [Value.slice sa sn sc, Value.slice na nn nc])
  have e6 := Lib.hid (hdcs_num' ku.hd [u64v p.mask, Value.slice ua un uc])
  have e7 := Lib.hid (updc_hd ku.hd p.mask (Value.slice ua un uc))
  have e8 := Lib.hid (hdcs_nex' ku.hd [u64v p.mask, Value.slice ua un uc])
  have hlC := stc_len k.hd (Value.slice sa sn sc) (Value.slice na nn nc)
  have hlH := hdcs_len ku.hd
  have hlN : (by8 p.hd.nex).length = 32 := by rw [by8_len, ku.hd.nex]
  have hnum := ku.hd.num
  have hmask := ku.mask
  obtain ⟨C, hC⟩ : ∃ C, hdcs t.hd ++ [Value.slice sa sn sc, Value.slice na nn nc] = C := ⟨_, rfl⟩
  change Hid ((updc p.hd p.mask (Value.slice ua un uc))[32]? = _) at e6
  change Hid (((updc p.hd p.mask (Value.slice ua un uc)).drop 172).take 32 = _) at e8
  rw [hC] at e1 e2 e5 hlC ⊢
  generalize updc p.hd p.mask (Value.slice ua un uc) = D at *
  obtain ⟨w3, hw3, F, hbel⟩ := ltW_new w C D
  obtain ⟨Rs, hRs⟩ : ∃ r, r = rightB t.s := ⟨_, rfl⟩
  obtain ⟨Rn, hRn⟩ : ∃ r, r = rightB t.n := ⟨_, rfl⟩
  obtain ⟨Ru, hRu⟩ : ∃ r, r = rightB p.n := ⟨_, rfl⟩
  obtain ⟨N0, hN0⟩ : ∃ r, r = decide (nn = 0) := ⟨_, rfl⟩
  obtain ⟨U0, hU0⟩ : ∃ r, r = decide (un = 0) := ⟨_, rfl⟩
  rw [← hRs, ← hRn, ← hRu, ← hN0, ← hU0] at hok
  have A1 := right_at hsn k1 (h1.below hbel) hRs
  have A2 := right_at hnn k2 (h2.below hbel) hRn
  have A3 := right_at hun k3 (h3.below hbel) hRu
  have B2 := none_at na nn nc hN0
  have B3 := none_at ua un uc hU0
  have B4 := none_atB ua un uc hU0
  have J := judge_at t k p.hd.num hnum _ _ C hC w3 (h1.below hbel) (h2.below hbel) 0 l (by rw [hJ]; rfl) (by rw [hJ])
  obtain ⟨ln, hln⟩ : ∃ x, l.length = x := ⟨_, rfl⟩
  rw [hln] at hright hq
  have Q := quorum_at hmask hright.1 hright.2 hq
  have Hln := Lib.hid hln
  unfold u64v at e4 e5 e6
  have cs := blk_cell F.z1 e1
  have cn := blk_cell F.z1 e2
  have dn := blk_cell F.z2 e3
  have dh := blk_cell F.z2 e6
  have hg3 := F.z3.lt
  have Hw3 := Lib.hid hw3
  have Hbel := Lib.hid hbel
  have H1 := Lib.hid (h1.below hbel)
  have H2 := Lib.hid (h2.below hbel)
  have H3 := Lib.hid (h3.below hbel)
  have Hv := Lib.hid (hv.below hbel)
  have Hok := Lib.hid hok
  have K := Lib.hid k
  have Ku := Lib.hid ku
  have Hsn := Lib.hid hsn
  have Hnn := Lib.hid hnn
  have Hun := Lib.hid hun
  have HU0 := Lib.hid hU0
  have Hvs := Lib.hid hvs
  have HV := Lib.hid hV
  have K2 := Lib.hid k2
  have K3 := Lib.hid k3
  clear hw3 hbel hsn hnn hun h1 h2 h3 hv hRs hRn hRu hN0 hU0 hok k ku hvs hV hC k1 k2 k3 hright hln hq hJ
  have key : (Rs = true ∧ N0 = true ∧ U0 = true) ∨ (Rs = true ∧ N0 = false ∧ Rn = true ∧ U0 = true) ∨ (Rs = true ∧ N0 = true ∧ U0 = false ∧ Ru = true) ∨ (Rs = true ∧ N0 = false ∧ Rn = true ∧ U0 = false ∧ Ru = true) := by
    have := Hok.out
    revert this; cases Rs <;> cases N0 <;> cases Rn <;> cases U0 <;> cases Ru <;> simp
  rcases key with ⟨rfl, rfl, rfl⟩ | ⟨rfl, rfl, rfl, rfl⟩ | ⟨rfl, rfl, rfl, rfl⟩ | ⟨rfl, rfl, rfl, rfl, rfl⟩
  all_goals
    go_enter Try.func15, Try.ntmps15
    go_wp2_with (first
      | (rw [← Hw3.out])
      | (go_at_call 73; first
        | ((with_reducible refine (B2.out _).mono ?_); rintro e w4 ⟨rfl, rfl⟩)
        | ((with_reducible refine (B3.out _).mono ?_); rintro e w4 ⟨rfl, rfl⟩))
      | (go_at_call 72; first
        | ((with_reducible refine (A1.out _ F.hb).mono ?_); rintro e w4 ⟨rfl, b4⟩; have F := F.kept b4; have cs := blk_cell F.z1 e1; have cn := blk_cell F.z1 e2; have dn := blk_cell F.z2 e3; have dh := blk_cell F.z2 e6)
        | ((with_reducible refine (A2.out _ F.hb).mono ?_); rintro e w4 ⟨rfl, b4⟩; have F := F.kept b4; have cs := blk_cell F.z1 e1; have cn := blk_cell F.z1 e2; have dn := blk_cell F.z2 e3; have dh := blk_cell F.z2 e6)
        | ((with_reducible refine (A3.out _ F.hb).mono ?_); rintro e w4 ⟨rfl, b4⟩; have F := F.kept b4; have cs := blk_cell F.z1 e1; have cn := blk_cell F.z1 e2; have dn := blk_cell F.z2 e3; have dh := blk_cell F.z2 e6))
      | (refine wpList_loadA (o := ⟨some 41, _, _, _, _, _⟩) (by rfl) 31 (.tmp 3) (by rfl) w.heap.size (by rfl) aggSt F.z1 hlC ?_)
      | (go_at_call 74; (with_reducible refine (J.out _ F.hb).mono ?_); rintro e w5 ⟨v, rfl, rl, b5⟩; obtain ⟨la, lc, rfl, _⟩ := rl.form; have F := F.kept b5; have cs := blk_cell F.z1 e1; have cn := blk_cell F.z1 e2; have ch := blk_cell F.z1 e5; have dn := blk_cell F.z2 e3; have dh := blk_cell F.z2 e6; have dm := blk_cell F.z2 e4; rw [Hln.out] at rl ⊢; have Rl := Lib.hid rl; clear rl)
      | (go_at_call 75; (with_reducible refine (Q.out _).mono ?_); rintro e w6 ⟨rfl, rfl⟩)
      | ((with_reducible show wpList _ _ _ (⟨none, Op.store _ _ (Operand.tmp 60), _, _, _, _⟩ :: _) _ _); refine wpList_storeA (o := ⟨none, _, _, _, _, _⟩) (by rfl) 31 (.tmp 6) (.tmp 60) (by rfl) (w.heap.size + 2) zst (by rfl) (by first | rfl | exact congrArg Value.agg zcSt) aggSt F.z3 zst_len zst_len zst_one (Below.then Hbel.out F.hb) (by omega) ?_; intro w9 hh9 hbel9 _))
    exact bodyPost_ret (v := .tuple #[.agg zst.toArray, .int .i64 26]) (results_blk_tmp rfl _ _ (w.heap.size + 2) aggSt hh9 zst_len rfl rfl) rfl (StoO.zero 26 hbel9)
end Go.Proofs.Ytgjgokcpampljaa
