/- The reference's LtApply: what its walks share; seats that are not right; updates that are old or far. (gen_lt9.py prints this text.) -/
import Derived.Test.YtgjgokcpampljaaLt5
set_option linter.unusedSimpArgs false
set_option linter.unusedVariables false
namespace Go.Proofs.Ytgjgokcpampljaa
open Go.RowKit
theorem gset (w : World) (b i : Nat) (v : Value) : w.grownBy (w.setCell ⟨b, i, none⟩ v) (some b) :=
  ⟨rfl, rfl, rfl, by simp [World.setCell], fun k _ hk => Below.heap_setCell _ _ _ _ (fun e => hk (by simp [e]))⟩
/-- what lies there -/
structure LtR (w4 : World) (g : Nat) (C D : List Value) (u : World) : Prop where
  hb : Below w4.heap.size w4 u
  z1 : Blk 31 u g C
  z2 : Blk 33 u (g + 1) D
  z3 : Blk 31 u (g + 2) zst
  z4 : Blk 31 u (g + 3) zst
theorem LtR.kept {w4 : World} {g : Nat} {C D : List Value} {u u' : World} (h : LtR w4 g C D u) (hb : Below u.heap.size u u') : LtR w4 g C D u' :=
  ⟨Below.then h.hb hb, h.z1.kept hb, h.z2.kept hb, h.z3.kept hb, h.z4.kept hb⟩
theorem LtR.keptB {w4 : World} {g B : Nat} {C D : List Value} {u u' : World} (h : LtR w4 g C D u) (hg : g + 3 < w4.heap.size) (hB : w4.heap.size ≤ B) (hb : Below B u u') : LtR w4 g C D u' :=
  ⟨h.hb.trans (hb.mono hB), h.z1.below hb (by omega), h.z2.below hb (by omega), h.z3.below hb (by omega), h.z4.below hb (by omega)⟩
theorem ltR_new (w : World) (C D : List Value) : ∃ w4, w4 = (((w.alloc (.cells C.toArray 31)).alloc (.cells D.toArray 33)).alloc (.cells Try.zeroCells31 31)).alloc (.cells Try.zeroCells31 31) ∧ LtR w4 w.heap.size C D w4 ∧ Below w.heap.size w w4 ∧ w4.heap.size = w.heap.size + 4 := by
  obtain ⟨w3, hw3, F, hb⟩ := ltW_new w C D
  have hs : w3.heap.size = w.heap.size + 3 := by rw [hw3]; simp
  refine ⟨_, by rw [← hw3], ⟨Below.refl _ _, F.z1.alloc _, F.z2.alloc _, F.z3.alloc _, ?_⟩, hb.alloc (by omega) _, by simp [hs]⟩
  have := Blk.new w3 31 zst
  rw [hs] at this
  rw [zcSt]
  exact this
theorem built_st2 {H : Hd} (k : H.Ok) (na : Option Addr) (nn nc : Nat) : Try.prog.built 31 [(0, .agg (hdcs H).toArray), (2, .slice na nn nc)] = some (hdcs H ++ [Value.slice none 0 0, Value.slice na nn nc]).toArray := by
  have e : ∀ parts, Try.prog.built 31 parts = Instr.fill (#[((0 : Nat), (204 : Nat)), (204, 1), (205, 1)][·]?) Try.zeroCells31 parts := fun _ => by kernel_rfl
  rw [e, zcSt]
  have hl := hdcs_len k
  have f1 := fill_lay (#[((0 : Nat), (204 : Nat)), (204, 1), (205, 1)][·]?) 0 0 (.agg (hdcs H).toArray) (hdcs H) rfl (by rw [hl]; rfl) [] (hdcs zH) [.slice none 0 0, .slice none 0 0] rfl (by rw [hl, hdcs_len zH_ok]) [(2, .slice na nn nc)]
  rw [List.nil_append, List.nil_append] at f1
  rw [f1]
  have f3 := fill_lay (#[((0 : Nat), (204 : Nat)), (204, 1), (205, 1)][·]?) 2 205 (.slice na nn nc) [.slice na nn nc] rfl rfl (hdcs H ++ [Value.slice none 0 0]) [.slice none 0 0] [] (by rw [List.length_append, hl]; rfl) rfl []
  simp only [List.append_assoc, List.cons_append, List.nil_append, List.append_nil] at f3 ⊢
  rw [f3]
  rfl
theorem built_st1 {H : Hd} (k : H.Ok) (sa : Option Addr) (sn sc : Nat) : Try.prog.built 31 [(0, .agg (hdcs H).toArray), (1, .slice sa sn sc)] = some (hdcs H ++ [Value.slice sa sn sc, Value.slice none 0 0]).toArray := by
  have e : ∀ parts, Try.prog.built 31 parts = Instr.fill (#[((0 : Nat), (204 : Nat)), (204, 1), (205, 1)][·]?) Try.zeroCells31 parts := fun _ => by kernel_rfl
  rw [e, zcSt]
  have hl := hdcs_len k
  have f1 := fill_lay (#[((0 : Nat), (204 : Nat)), (204, 1), (205, 1)][·]?) 0 0 (.agg (hdcs H).toArray) (hdcs H) rfl (by rw [hl]; rfl) [] (hdcs zH) [.slice none 0 0, .slice none 0 0] rfl (by rw [hl, hdcs_len zH_ok]) [(1, .slice sa sn sc)]
  rw [List.nil_append, List.nil_append] at f1
  rw [f1]
  have f2 := fill_lay (#[((0 : Nat), (204 : Nat)), (204, 1), (205, 1)][·]?) 1 204 (.slice sa sn sc) [.slice sa sn sc] rfl rfl (hdcs H) [.slice none 0 0] [.slice none 0 0] hl rfl []
  simp only [List.append_assoc, List.cons_append, List.nil_append, List.append_nil] at f2 ⊢
  rw [f2]
  rfl
theorem stc_set4 {t : Hd} (k : t.Ok) (vs vn v : Value) : (hdcs t ++ [vs, vn]).set 204 v = hdcs t ++ [v, vn] := by rw [List.set_append_right _ _ (by rw [hdcs_len k]; omega), hdcs_len k]; rfl
theorem stc_set5 {t : Hd} (k : t.Ok) (vs vn v : Value) : (hdcs t ++ [vs, vn]).set 205 v = hdcs t ++ [vs, v] := by rw [List.set_append_right _ _ (by rw [hdcs_len k]; omega), hdcs_len k]; rfl
set_option maxHeartbeats 4000000 in
set_option maxRecDepth 100000 in
theorem ltapply_bad (t : Sto) (k : t.In) (p : Upd) (ku : p.Ok) (V : List Vt) (hvs : V.length ≤ 140737488355328) (va : Option Addr) (vc : Nat) (vs vn vu : Value) (w : World) (h1 : RowOf u64c 1 w vs t.s) (h2 : RowOf u64c 1 w vn t.n) (h3 : RowOf u64c 1 w vu p.n) (hv : RowOf vtc 33 w (.slice va V.length vc) V) (hok : badL t p = true) :
    Calls Try.prog 16 #[.agg (hdcs t.hd ++ [vs, vn]).toArray, .agg (updc p.hd p.mask vu).toArray, .slice va V.length vc] w fun e w' => StoG t p vs vn vu w e w' (23, zSto) := by
  obtain ⟨sa, sc, rfl, _⟩ := h1.form
  obtain ⟨na, nc, rfl, _⟩ := h2.form
  obtain ⟨ua, uc, rfl, _⟩ := h3.form
  obtain ⟨sn, hsn⟩ : ∃ x, t.s.length = x := ⟨_, rfl⟩
  obtain ⟨nn, hnn⟩ : ∃ x, t.n.length = x := ⟨_, rfl⟩
  obtain ⟨un, hun⟩ : ∃ x, p.n.length = x := ⟨_, rfl⟩
  have k1 := k.sl
  have k2 := k.nl
  have k3 := ku.nl
  have hok' := hok
  unfold badL at hok
  rw [hsn] at h1 k1 ⊢
  rw [hnn] at h2 k2 hok ⊢
  rw [hun] at h3 k3 hok ⊢
  have e1 := Lib.hid (stc_s k.hd (Value.slice sa sn sc) (Value.slice na nn nc))
  have e2 := Lib.hid (stc_n k.hd (Value.slice sa sn sc) (Value.slice na nn nc))
  have e3 := Lib.hid (updc_n ku.hd p.mask (Value.slice ua un uc))
  have e4 := Lib.hid (updc_m ku.hd p.mask (Value.slice ua un uc))
  have e5 := Lib.hid (hdcs_num' k.hd [Value.slice sa sn sc, Value.slice na nn nc])
  have e6 := Lib.hid (hdcs_num' ku.hd [u64v p.mask, Value.slice ua un uc])
  have e7 := Lib.hid (updc_hd ku.hd p.mask (Value.slice ua un uc))
  have e8 := Lib.hid (hdcs_nex' ku.hd [u64v p.mask, Value.slice ua un uc])
  have hlC := stc_len k.hd (Value.slice sa sn sc) (Value.slice na nn nc)
  have hlH := hdcs_len ku.hd
  have hlN : (by8 p.hd.nex).length = 32 := by rw [by8_len, ku.hd.nex]
  have hnum := ku.hd.num
  have hold := k.hd.num
  have hmask := ku.mask
  obtain ⟨C, hC⟩ : ∃ C, hdcs t.hd ++ [Value.slice sa sn sc, Value.slice na nn nc] = C := ⟨_, rfl⟩
  change Hid ((updc p.hd p.mask (Value.slice ua un uc))[32]? = _) at e6
  change Hid (((updc p.hd p.mask (Value.slice ua un uc)).drop 172).take 32 = _) at e8
  rw [hC] at e1 e2 e5 hlC ⊢
  generalize updc p.hd p.mask (Value.slice ua un uc) = D at *
  obtain ⟨w4, hw4, F, hbel, hsz⟩ := ltR_new w C D
  unfold u64v at e4 e5 e6
  have cs := blk_cell F.z1 e1
  have cn := blk_cell F.z1 e2
  have dn := blk_cell F.z2 e3
  have hg4 : w.heap.size + 3 < w4.heap.size := by omega
  have Hw4 := Lib.hid hw4
  have Hbel := Lib.hid hbel
  have H1 := Lib.hid h1
  have H2 := Lib.hid h2
  have H3 := Lib.hid h3
  have Hv := Lib.hid hv
  have K := Lib.hid k
  have Ku := Lib.hid ku
  have Hsn := Lib.hid hsn
  have Hnn := Lib.hid hnn
  have Hun := Lib.hid hun
  have Hvs := Lib.hid hvs
  have K1 := Lib.hid k1
  have K2 := Lib.hid k2
  have K3 := Lib.hid k3
  have Hok := Lib.hid hok
  obtain ⟨bs, hbs⟩ : ∃ bs : Nat → Bool, bs = fun k => if k = 0 then !rightB t.s else if k = 1 then (!decide (nn = 0) && !rightB t.n) else (!decide (un = 0) && !rightB p.n) := ⟨_, rfl⟩
  have Hbad : Hid (bs 0 = false → bs 1 = false → bs 2 = false → False) := Lib.hid (fun b0 b1 b2 => by
    rw [hbs] at b0 b1 b2
    simp only [if_true, if_false, Nat.reduceEqDiff, Nat.one_ne_zero] at b0 b1 b2
    rw [b0, b1] at hok
    rw [show (!decide (un = 0) && !rightB p.n) = false from b2] at hok
    simp at hok)
  clear hw4 hsn hnn hun h1 h2 h3 hv hok k ku hvs hC k1 k2 k3 hbel hok'
  go_enter Try.func16, Try.ntmps16
  go_wp2_with (rw [← Hw4.out])
  have Z : Blk 29 (w4.alloc (.cells [Value.slice sa sn sc, Value.slice na nn nc, Value.slice ua un uc].toArray 29)) w4.heap.size [Value.slice sa sn sc, Value.slice na nn nc, Value.slice ua un uc] := Blk.new w4 _ _
  have F := F.kept ((Below.refl w4.heap.size w4).alloc (Nat.le_refl _) (.cells [Value.slice sa sn sc, Value.slice na nn nc, Value.slice ua un uc].toArray 29))
  clear cs cn dn
  try simp only [Act.put]
  go_loopw [22] (fun ix wr => ∃ k : Nat, k ≤ 3 ∧ ix = .int .i64 (k : Int) ∧ LtR w4 w.heap.size C D wr ∧ Blk 29 wr w4.heap.size [Value.slice sa sn sc, Value.slice na nn nc, Value.slice ua un uc] ∧ Hid (∀ j, j < k → bs j = false)) (fun ix _ => 3 - (intOf ix).toNat)
  case atStart => exact ⟨0, by omega, rfl, F, Z, Lib.hid (fun j hj => absurd hj (Nat.not_lt_zero _))⟩
  case round =>
    clear F Z
    obtain ⟨k, hk, rfl, F, Z, Ac⟩ := hrel
    by_cases hlt : k < 3
    · have hki : (k : Int) < (3 : Int) := by omega
      obtain ⟨xa, xn, xc, lx, r, hx1, hx2, hx3, hx4, hx5, hx6⟩ : ∃ xa xn xc, ∃ lx : List Nat, ∃ r : Bool, [Value.slice sa sn sc, Value.slice na nn nc, Value.slice ua un uc][k]? = some (.slice xa xn xc) ∧ RowOf u64c 1 w (.slice xa xn xc) lx ∧ lx.length = xn ∧ xn ≤ 17592186044416 ∧ r = rightB lx ∧ (bs k = (!r && (decide (k = 0) || !decide (xn = 0)))) := by
        rcases (by omega : k = 0 ∨ k = 1 ∨ k = 2) with rfl | rfl | rfl
        · exact ⟨sa, sn, sc, t.s, _, rfl, H1.out, Hsn.out, K1.out, rfl, by rw [hbs]; simp⟩
        · exact ⟨na, nn, nc, t.n, _, rfl, H2.out, Hnn.out, K2.out, rfl, by rw [hbs]; simp [Bool.and_comm]⟩
        · exact ⟨ua, un, uc, p.n, _, rfl, H3.out, Hun.out, K3.out, rfl, by rw [hbs]; simp [Bool.and_comm]⟩
      have hc : wr.cell? ⟨w.heap.size + 4, k, none⟩ = some (.slice xa xn xc) := by rw [← hsz]; exact (Z.cell k).trans hx1
      have A := vright_any xa xn xc lx hx3 hx4 wr (RowOf.below (RowOf.below hx2 Hbel.out) F.hb)
      rw [← hx5] at A
      have AA := Lib.hid A
      clear hx1 hx2 hx3 hx4 hx5 A
      cases r with
      | true =>
        have Hx : Hid (bs k = false) := Lib.hid (by rw [hx6]; rfl)
        clear hx6
        go_wp2_with (go_at_call 20; (with_reducible refine AA.out.mono ?_); rintro e w5 ⟨rfl, b5⟩; have F5 := F.kept b5; have Z5 := Z.kept b5)
        go_roundw
        case rel => exact ⟨k + 1, by omega, by go_num, F5, Z5, Lib.hid (fun j hj => (by rcases (by omega : j < k ∨ j = k) with h | rfl; exact Ac.out j h; exact Hx.out))⟩
        case measure => simp [intOf]; omega
      | false =>
        rcases (by omega : k = 0 ∨ (k ≠ 0 ∧ xn = 0) ∨ (k ≠ 0 ∧ xn ≠ 0)) with rfl | ⟨h0, rfl⟩ | ⟨h0, hn0⟩
        · clear hx6
          go_wp2_with (first
            | (go_at_call 20; (with_reducible refine AA.out.mono ?_); rintro e w5 ⟨rfl, b5⟩; have F5 := F.kept b5; have Z5 := Z.kept b5)
            | (refine wpList_loadA (o := ⟨some 39, _, _, _, _, _⟩) (by rfl) 31 (.tmp 8) (by rfl) (w.heap.size + 3) (by rfl) aggSt F5.z4 zst_len ?_)
            | ((with_reducible show wpList _ _ _ (⟨none, Op.store _ _ (Operand.tmp 39), _, _, _, _⟩ :: _) _ _); refine wpList_storeA (o := ⟨none, _, _, _, _, _⟩) (by rfl) 31 (.tmp 6) (.tmp 39) (by rfl) (w.heap.size + 2) zst (by rfl) (by rfl) aggSt F5.z3 zst_len zst_len zst_one (Below.then Hbel.out F5.hb) (by omega) ?_; intro w9 hh9 hbel9 _))
          exact bodyPost_ret (v := .tuple #[.agg zst.toArray, .int .i64 23]) (results_blk_tmp rfl _ _ (w.heap.size + 2) aggSt hh9 zst_len rfl rfl) rfl (StoG.zero 23 hbel9)
        · have h0' : ((k : Int) == 0) = false := by rw [beq_eq_false_iff_ne]; omega
          have Hx : Hid (bs k = false) := Lib.hid (by rw [hx6]; simp [h0])
          clear hx6
          go_wp2_with (go_at_call 20; (with_reducible refine AA.out.mono ?_); rintro e w5 ⟨rfl, b5⟩; have F5 := F.kept b5; have Z5 := Z.kept b5)
          go_roundw
          case rel => exact ⟨k + 1, by omega, by go_num, F5, Z5, Lib.hid (fun j hj => (by rcases (by omega : j < k ∨ j = k) with h | rfl; exact Ac.out j h; exact Hx.out))⟩
          case measure => simp [intOf]; omega
        · have h0' : ((k : Int) == 0) = false := by rw [beq_eq_false_iff_ne]; omega
          have h1' : decide ((0 : Int) < (xn : Int)) = true := decide_eq_true (by omega)
          have h1'' : decide (0 < xn) = true := decide_eq_true (by omega)
          clear hx6
          go_wp2_with (first
            | (go_at_call 20; (with_reducible refine AA.out.mono ?_); rintro e w5 ⟨rfl, b5⟩; have F5 := F.kept b5; have Z5 := Z.kept b5)
            | (refine wpList_loadA (o := ⟨some 39, _, _, _, _, _⟩) (by rfl) 31 (.tmp 8) (by rfl) (w.heap.size + 3) (by rfl) aggSt F5.z4 zst_len ?_)
            | ((with_reducible show wpList _ _ _ (⟨none, Op.store _ _ (Operand.tmp 39), _, _, _, _⟩ :: _) _ _); refine wpList_storeA (o := ⟨none, _, _, _, _, _⟩) (by rfl) 31 (.tmp 6) (.tmp 39) (by rfl) (w.heap.size + 2) zst (by rfl) (by rfl) aggSt F5.z3 zst_len zst_len zst_one (Below.then Hbel.out F5.hb) (by omega) ?_; intro w9 hh9 hbel9 _))
          exact bodyPost_ret (v := .tuple #[.agg zst.toArray, .int .i64 23]) (results_blk_tmp rfl _ _ (w.heap.size + 2) aggSt hh9 zst_len rfl rfl) rfl (StoG.zero 23 hbel9)
    · obtain rfl : k = 3 := by omega
      exact absurd (Hbad.out (Ac.out 0 (by omega)) (Ac.out 1 (by omega)) (Ac.out 2 (by omega))) id
set_option maxHeartbeats 4000000 in
set_option maxRecDepth 100000 in
theorem ltapply_old (t : Sto) (k : t.In) (p : Upd) (ku : p.Ok) (V : List Vt) (hvs : V.length ≤ 140737488355328) (va : Option Addr) (vc : Nat) (vs vn vu : Value) (w : World) (h1 : RowOf u64c 1 w vs t.s) (h2 : RowOf u64c 1 w vn t.n) (h3 : RowOf u64c 1 w vu p.n) (hv : RowOf vtc 33 w (.slice va V.length vc) V) (hok : badL t p = false) (hle : p.hd.num ≤ t.hd.num) :
    Calls Try.prog 16 #[.agg (hdcs t.hd ++ [vs, vn]).toArray, .agg (updc p.hd p.mask vu).toArray, .slice va V.length vc] w fun e w' => StoG t p vs vn vu w e w' (24, zSto) := by
  obtain ⟨sa, sc, rfl, _⟩ := h1.form
  obtain ⟨na, nc, rfl, _⟩ := h2.form
  obtain ⟨ua, uc, rfl, _⟩ := h3.form
  obtain ⟨sn, hsn⟩ : ∃ x, t.s.length = x := ⟨_, rfl⟩
  obtain ⟨nn, hnn⟩ : ∃ x, t.n.length = x := ⟨_, rfl⟩
  obtain ⟨un, hun⟩ : ∃ x, p.n.length = x := ⟨_, rfl⟩
  have k1 := k.sl
  have k2 := k.nl
  have k3 := ku.nl
  have hok' := hok
  unfold badL at hok
  rw [hsn] at h1 k1 ⊢
  rw [hnn] at h2 k2 hok ⊢
  rw [hun] at h3 k3 hok ⊢
  have e1 := Lib.hid (stc_s k.hd (Value.slice sa sn sc) (Value.slice na nn nc))
  have e2 := Lib.hid (stc_n k.hd (Value.slice sa sn sc) (Value.slice na nn nc))
  have e3 := Lib.hid (updc_n ku.hd p.mask (Value.slice ua un uc))
  have e4 := Lib.hid (updc_m ku.hd p.mask (Value.slice ua un uc))
  have e5 := Lib.hid (hdcs_num' k.hd [Value.slice sa sn sc, Value.slice na nn nc])
  have e6 := Lib.hid (hdcs_num' ku.hd [u64v p.mask, Value.slice ua un uc])
  have e7 := Lib.hid (updc_hd ku.hd p.mask (Value.slice ua un uc))
  have e8 := Lib.hid (hdcs_nex' ku.hd [u64v p.mask, Value.slice ua un uc])
  have hlC := stc_len k.hd (Value.slice sa sn sc) (Value.slice na nn nc)
  have hlH := hdcs_len ku.hd
  have hlN : (by8 p.hd.nex).length = 32 := by rw [by8_len, ku.hd.nex]
  have hnum := ku.hd.num
  have hold := k.hd.num
  have hmask := ku.mask
  obtain ⟨C, hC⟩ : ∃ C, hdcs t.hd ++ [Value.slice sa sn sc, Value.slice na nn nc] = C := ⟨_, rfl⟩
  change Hid ((updc p.hd p.mask (Value.slice ua un uc))[32]? = _) at e6
  change Hid (((updc p.hd p.mask (Value.slice ua un uc)).drop 172).take 32 = _) at e8
  rw [hC] at e1 e2 e5 hlC ⊢
  generalize updc p.hd p.mask (Value.slice ua un uc) = D at *
  obtain ⟨w4, hw4, F, hbel, hsz⟩ := ltR_new w C D
  unfold u64v at e4 e5 e6
  have cs := blk_cell F.z1 e1
  have cn := blk_cell F.z1 e2
  have dn := blk_cell F.z2 e3
  have hg4 : w.heap.size + 3 < w4.heap.size := by omega
  have Hw4 := Lib.hid hw4
  have Hbel := Lib.hid hbel
  have H1 := Lib.hid h1
  have H2 := Lib.hid h2
  have H3 := Lib.hid h3
  have Hv := Lib.hid hv
  have K := Lib.hid k
  have Ku := Lib.hid ku
  have Hsn := Lib.hid hsn
  have Hnn := Lib.hid hnn
  have Hun := Lib.hid hun
  have Hvs := Lib.hid hvs
  have K1 := Lib.hid k1
  have K2 := Lib.hid k2
  have K3 := Lib.hid k3
  have Hok := Lib.hid hok
  have hgd : (rightB t.s = true) ∧ (nn = 0 ∨ rightB t.n = true) ∧ (un = 0 ∨ rightB p.n = true) := by
    simp only [Bool.or_eq_false_iff, Bool.not_eq_false', Bool.and_eq_false_iff, decide_eq_true_eq] at hok
    exact ⟨hok.1.1, hok.1.2, hok.2⟩
  have hgd0 : Hid (rightB t.s = true ∨ ((0 : Nat) ≠ 0 ∧ sn = 0)) := Lib.hid (.inl hgd.1)
  have hgd1 : Hid (rightB t.n = true ∨ ((1 : Nat) ≠ 0 ∧ nn = 0)) := Lib.hid (by rcases hgd.2.1 with h | h; exact .inr ⟨by omega, h⟩; exact .inl h)
  have hgd2 : Hid (rightB p.n = true ∨ ((2 : Nat) ≠ 0 ∧ un = 0)) := Lib.hid (by rcases hgd.2.2 with h | h; exact .inr ⟨by omega, h⟩; exact .inl h)
  have Hgd := Lib.hid hgd
  obtain ⟨oa, hoa⟩ : ∃ x, t.hd.num = x := ⟨_, rfl⟩
  obtain ⟨ob, hob⟩ : ∃ x, p.hd.num = x := ⟨_, rfl⟩
  rw [hoa] at e5 hold
  rw [hob] at e6 hnum
  rw [hoa, hob] at hle
  have d1 : decide ((ob : Int) ≤ (oa : Int)) = true := decide_eq_true (by omega)
  have d1' : decide (ob ≤ oa) = true := decide_eq_true hle
  clear hle hgd
  clear hw4 hsn hnn hun h1 h2 h3 hv hok k ku hvs hC k1 k2 k3 hbel hok'
  go_enter Try.func16, Try.ntmps16
  go_wp2_with (rw [← Hw4.out])
  have Z : Blk 29 (w4.alloc (.cells [Value.slice sa sn sc, Value.slice na nn nc, Value.slice ua un uc].toArray 29)) w4.heap.size [Value.slice sa sn sc, Value.slice na nn nc, Value.slice ua un uc] := Blk.new w4 _ _
  have F := F.kept ((Below.refl w4.heap.size w4).alloc (Nat.le_refl _) (.cells [Value.slice sa sn sc, Value.slice na nn nc, Value.slice ua un uc].toArray 29))
  clear cs cn dn
  try simp only [Act.put]
  go_loopw [22] (fun ix wr => ∃ k : Nat, k ≤ 3 ∧ ix = .int .i64 (k : Int) ∧ LtR w4 w.heap.size C D wr ∧ Blk 29 wr w4.heap.size [Value.slice sa sn sc, Value.slice na nn nc, Value.slice ua un uc]) (fun ix _ => 3 - (intOf ix).toNat)
  case atStart => exact ⟨0, by omega, rfl, F, Z⟩
  case round =>
    clear F Z
    obtain ⟨k, hk, rfl, F, Z⟩ := hrel
    by_cases hlt : k < 3
    · have hki : (k : Int) < (3 : Int) := by omega
      obtain ⟨xa, xn, xc, lx, r, hx1, hx2, hx3, hx4, hx5, hx6⟩ : ∃ xa xn xc, ∃ lx : List Nat, ∃ r : Bool, [Value.slice sa sn sc, Value.slice na nn nc, Value.slice ua un uc][k]? = some (.slice xa xn xc) ∧ RowOf u64c 1 w (.slice xa xn xc) lx ∧ lx.length = xn ∧ xn ≤ 17592186044416 ∧ r = rightB lx ∧ (r = true ∨ (k ≠ 0 ∧ xn = 0)) := by
        rcases (by omega : k = 0 ∨ k = 1 ∨ k = 2) with rfl | rfl | rfl
        · exact ⟨sa, sn, sc, t.s, _, rfl, H1.out, Hsn.out, K1.out, rfl, hgd0.out⟩
        · exact ⟨na, nn, nc, t.n, _, rfl, H2.out, Hnn.out, K2.out, rfl, hgd1.out⟩
        · exact ⟨ua, un, uc, p.n, _, rfl, H3.out, Hun.out, K3.out, rfl, hgd2.out⟩
      have hc : wr.cell? ⟨w.heap.size + 4, k, none⟩ = some (.slice xa xn xc) := by rw [← hsz]; exact (Z.cell k).trans hx1
      have A := vright_any xa xn xc lx hx3 hx4 wr (RowOf.below (RowOf.below hx2 Hbel.out) F.hb)
      rw [← hx5] at A
      have AA := Lib.hid A
      clear hx1 hx2 hx3 hx4 hx5 A
      cases r with
      | true =>
        go_wp2_with (go_at_call 20; (with_reducible refine AA.out.mono ?_); rintro e w5 ⟨rfl, b5⟩; have F5 := F.kept b5; have Z5 := Z.kept b5)
        go_roundw
        case rel => exact ⟨k + 1, by omega, by go_num, F5, Z5⟩
        case measure => simp [intOf]; omega
      | false =>
        obtain ⟨h0, rfl⟩ := hx6.resolve_left (by simp)
        have h0' : ((k : Int) == 0) = false := by rw [beq_eq_false_iff_ne]; omega
        go_wp2_with (go_at_call 20; (with_reducible refine AA.out.mono ?_); rintro e w5 ⟨rfl, b5⟩; have F5 := F.kept b5; have Z5 := Z.kept b5)
        go_roundw
        case rel => exact ⟨k + 1, by omega, by go_num, F5, Z5⟩
        case measure => simp [intOf]; omega
    · obtain rfl : k = 3 := by omega
      go_wp2_with fail
      have ch := blk_cell F.z1 e5
      have dh := blk_cell F.z2 e6
      have kh := fun u : Ext wr => u.cell ch
      have kd := fun u : Ext wr => u.cell dh
      refine wp_region_typed wr 8 (by kernel_rfl) (by kernel_rfl) (Below.refl _ _) ?_; simp only [List.take_succ_cons, List.take_zero, List.take_nil]
      iterate 8 (refine wpX_step (by rfl) (fun K hK => ?_); go_simp; first | (refine hK _ ?_; clear hK K) | (apply Exists.intro; refine ⟨fun _ => ?_, hK _ ?_⟩; fail; clear hK K))
      refine wpX_nil ?_
      intro u1 hb1
      change forallRel u1 [] _ _
      simp only [forallRel, List.drop_succ_cons, List.drop_zero, List.drop_nil]
      have F := F.kept hb1
      clear kh kd ch dh Z
      go_wp2_with (first
        | (refine wpList_loadA (o := ⟨some 50, _, _, _, _, _⟩) (by rfl) 31 (.tmp 8) (by rfl) (w.heap.size + 3) (by rfl) aggSt F.z4 zst_len ?_)
        | ((with_reducible show wpList _ _ _ (⟨none, Op.store _ _ (Operand.tmp 50), _, _, _, _⟩ :: _) _ _); refine wpList_storeA (o := ⟨none, _, _, _, _, _⟩) (by rfl) 31 (.tmp 6) (.tmp 50) (by rfl) (w.heap.size + 2) zst (by rfl) (by rfl) aggSt F.z3 zst_len zst_len zst_one (Below.then Hbel.out F.hb) (by omega) ?_; intro w9 hh9 hbel9 _))
      exact bodyPost_ret (v := .tuple #[.agg zst.toArray, .int .i64 24]) (results_blk_tmp rfl _ _ (w.heap.size + 2) aggSt hh9 zst_len rfl rfl) rfl (StoG.zero 24 hbel9)
set_option maxHeartbeats 4000000 in
set_option maxRecDepth 100000 in
theorem ltapply_far1 (t : Sto) (k : t.In) (p : Upd) (ku : p.Ok) (V : List Vt) (hvs : V.length ≤ 140737488355328) (va : Option Addr) (vc : Nat) (vs vn vu : Value) (w : World) (h1 : RowOf u64c 1 w vs t.s) (h2 : RowOf u64c 1 w vn t.n) (h3 : RowOf u64c 1 w vu p.n) (hv : RowOf vtc 33 w (.slice va V.length vc) V) (hok : badL t p = false) (hlt : t.hd.num < p.hd.num) (hq1 : 1 < p.hd.num / 8 - t.hd.num / 8) :
    Calls Try.prog 16 #[.agg (hdcs t.hd ++ [vs, vn]).toArray, .agg (updc p.hd p.mask vu).toArray, .slice va V.length vc] w fun e w' => StoG t p vs vn vu w e w' (25, zSto) := by
  obtain ⟨sa, sc, rfl, _⟩ := h1.form
  obtain ⟨na, nc, rfl, _⟩ := h2.form
  obtain ⟨ua, uc, rfl, _⟩ := h3.form
  obtain ⟨sn, hsn⟩ : ∃ x, t.s.length = x := ⟨_, rfl⟩
  obtain ⟨nn, hnn⟩ : ∃ x, t.n.length = x := ⟨_, rfl⟩
  obtain ⟨un, hun⟩ : ∃ x, p.n.length = x := ⟨_, rfl⟩
  have k1 := k.sl
  have k2 := k.nl
  have k3 := ku.nl
  have hok' := hok
  unfold badL at hok
  rw [hsn] at h1 k1 ⊢
  rw [hnn] at h2 k2 hok ⊢
  rw [hun] at h3 k3 hok ⊢
  have e1 := Lib.hid (stc_s k.hd (Value.slice sa sn sc) (Value.slice na nn nc))
  have e2 := Lib.hid (stc_n k.hd (Value.slice sa sn sc) (Value.slice na nn nc))
  have e3 := Lib.hid (updc_n ku.hd p.mask (Value.slice ua un uc))
  have e4 := Lib.hid (updc_m ku.hd p.mask (Value.slice ua un uc))
  have e5 := Lib.hid (hdcs_num' k.hd [Value.slice sa sn sc, Value.slice na nn nc])
  have e6 := Lib.hid (hdcs_num' ku.hd [u64v p.mask, Value.slice ua un uc])
  have e7 := Lib.hid (updc_hd ku.hd p.mask (Value.slice ua un uc))
  have e8 := Lib.hid (hdcs_nex' ku.hd [u64v p.mask, Value.slice ua un uc])
  have hlC := stc_len k.hd (Value.slice sa sn sc) (Value.slice na nn nc)
  have hlH := hdcs_len ku.hd
  have hlN : (by8 p.hd.nex).length = 32 := by rw [by8_len, ku.hd.nex]
  have hnum := ku.hd.num
  have hold := k.hd.num
  have hmask := ku.mask
  obtain ⟨C, hC⟩ : ∃ C, hdcs t.hd ++ [Value.slice sa sn sc, Value.slice na nn nc] = C := ⟨_, rfl⟩
  change Hid ((updc p.hd p.mask (Value.slice ua un uc))[32]? = _) at e6
  change Hid (((updc p.hd p.mask (Value.slice ua un uc)).drop 172).take 32 = _) at e8
  rw [hC] at e1 e2 e5 hlC ⊢
  generalize updc p.hd p.mask (Value.slice ua un uc) = D at *
  obtain ⟨w4, hw4, F, hbel, hsz⟩ := ltR_new w C D
  unfold u64v at e4 e5 e6
  have cs := blk_cell F.z1 e1
  have cn := blk_cell F.z1 e2
  have dn := blk_cell F.z2 e3
  have hg4 : w.heap.size + 3 < w4.heap.size := by omega
  have Hw4 := Lib.hid hw4
  have Hbel := Lib.hid hbel
  have H1 := Lib.hid h1
  have H2 := Lib.hid h2
  have H3 := Lib.hid h3
  have Hv := Lib.hid hv
  have K := Lib.hid k
  have Ku := Lib.hid ku
  have Hsn := Lib.hid hsn
  have Hnn := Lib.hid hnn
  have Hun := Lib.hid hun
  have Hvs := Lib.hid hvs
  have K1 := Lib.hid k1
  have K2 := Lib.hid k2
  have K3 := Lib.hid k3
  have Hok := Lib.hid hok
  have hgd : (rightB t.s = true) ∧ (nn = 0 ∨ rightB t.n = true) ∧ (un = 0 ∨ rightB p.n = true) := by
    simp only [Bool.or_eq_false_iff, Bool.not_eq_false', Bool.and_eq_false_iff, decide_eq_true_eq] at hok
    exact ⟨hok.1.1, hok.1.2, hok.2⟩
  have hgd0 : Hid (rightB t.s = true ∨ ((0 : Nat) ≠ 0 ∧ sn = 0)) := Lib.hid (.inl hgd.1)
  have hgd1 : Hid (rightB t.n = true ∨ ((1 : Nat) ≠ 0 ∧ nn = 0)) := Lib.hid (by rcases hgd.2.1 with h | h; exact .inr ⟨by omega, h⟩; exact .inl h)
  have hgd2 : Hid (rightB p.n = true ∨ ((2 : Nat) ≠ 0 ∧ un = 0)) := Lib.hid (by rcases hgd.2.2 with h | h; exact .inr ⟨by omega, h⟩; exact .inl h)
  have Hgd := Lib.hid hgd
  obtain ⟨oa, hoa⟩ : ∃ x, t.hd.num = x := ⟨_, rfl⟩
  obtain ⟨ob, hob⟩ : ∃ x, p.hd.num = x := ⟨_, rfl⟩
  rw [hoa] at e5 hold
  rw [hob] at e6 hnum
  rw [hoa, hob] at hlt hq1
  have d1 : decide ((ob : Int) ≤ (oa : Int)) = false := decide_eq_false (by omega)
  have d1' : decide (ob ≤ oa) = false := decide_eq_false (by omega)
  have qa := u64_quo oa hold
  have qb := u64_quo ob hnum
  obtain ⟨Q1, hQ1⟩ : ∃ q, oa / 8 = q := ⟨_, rfl⟩
  obtain ⟨Q2, hQ2⟩ : ∃ q, ob / 8 = q := ⟨_, rfl⟩
  have hmono : Q1 ≤ Q2 := by omega
  have za : ((oa : Int) / 8) = (Q1 : Int) := by omega
  have zb : ((ob : Int) / 8) = (Q2 : Int) := by omega
  have hQ264 : Q2 < 18446744073709551616 := by omega
  rw [hQ1] at qa hq1
  rw [hQ2] at qb hq1
  have d2 : ((Q2 : Int) == (Q1 : Int)) = false := by rw [beq_eq_false_iff_ne]; omega
  have d2' : (Q2 == Q1) = false := by rw [beq_eq_false_iff_ne]; omega
  have hsub : IntKind.u64.wrap ((Q2 : Int) - 1) = ((Q2 - 1 : Nat) : Int) := by
    rw [show (Q2 : Int) - 1 = ((Q2 - 1 : Nat) : Int) by omega]
    exact IntWalk.u64_in _ (by omega)
  have d3 : (((Q2 - 1 : Nat) : Int) == (Q1 : Int)) = false := by rw [beq_eq_false_iff_ne]; omega
  have d3' : ((Q2 - 1 : Nat) == Q1) = false := by rw [beq_eq_false_iff_ne]; omega
  generalize Q2 - 1 = Q3 at *
  clear hlt hgd hQ1 hQ2 hmono hQ264 hq1
  clear hw4 hsn hnn hun h1 h2 h3 hv hok k ku hvs hC k1 k2 k3 hbel hok'
  go_enter Try.func16, Try.ntmps16
  go_wp2_with (rw [← Hw4.out])
  have Z : Blk 29 (w4.alloc (.cells [Value.slice sa sn sc, Value.slice na nn nc, Value.slice ua un uc].toArray 29)) w4.heap.size [Value.slice sa sn sc, Value.slice na nn nc, Value.slice ua un uc] := Blk.new w4 _ _
  have F := F.kept ((Below.refl w4.heap.size w4).alloc (Nat.le_refl _) (.cells [Value.slice sa sn sc, Value.slice na nn nc, Value.slice ua un uc].toArray 29))
  clear cs cn dn
  try simp only [Act.put]
  go_loopw [22] (fun ix wr => ∃ k : Nat, k ≤ 3 ∧ ix = .int .i64 (k : Int) ∧ LtR w4 w.heap.size C D wr ∧ Blk 29 wr w4.heap.size [Value.slice sa sn sc, Value.slice na nn nc, Value.slice ua un uc]) (fun ix _ => 3 - (intOf ix).toNat)
  case atStart => exact ⟨0, by omega, rfl, F, Z⟩
  case round =>
    clear F Z
    obtain ⟨k, hk, rfl, F, Z⟩ := hrel
    by_cases hlt : k < 3
    · have hki : (k : Int) < (3 : Int) := by omega
      obtain ⟨xa, xn, xc, lx, r, hx1, hx2, hx3, hx4, hx5, hx6⟩ : ∃ xa xn xc, ∃ lx : List Nat, ∃ r : Bool, [Value.slice sa sn sc, Value.slice na nn nc, Value.slice ua un uc][k]? = some (.slice xa xn xc) ∧ RowOf u64c 1 w (.slice xa xn xc) lx ∧ lx.length = xn ∧ xn ≤ 17592186044416 ∧ r = rightB lx ∧ (r = true ∨ (k ≠ 0 ∧ xn = 0)) := by
        rcases (by omega : k = 0 ∨ k = 1 ∨ k = 2) with rfl | rfl | rfl
        · exact ⟨sa, sn, sc, t.s, _, rfl, H1.out, Hsn.out, K1.out, rfl, hgd0.out⟩
        · exact ⟨na, nn, nc, t.n, _, rfl, H2.out, Hnn.out, K2.out, rfl, hgd1.out⟩
        · exact ⟨ua, un, uc, p.n, _, rfl, H3.out, Hun.out, K3.out, rfl, hgd2.out⟩
      have hc : wr.cell? ⟨w.heap.size + 4, k, none⟩ = some (.slice xa xn xc) := by rw [← hsz]; exact (Z.cell k).trans hx1
      have A := vright_any xa xn xc lx hx3 hx4 wr (RowOf.below (RowOf.below hx2 Hbel.out) F.hb)
      rw [← hx5] at A
      have AA := Lib.hid A
      clear hx1 hx2 hx3 hx4 hx5 A
      cases r with
      | true =>
        go_wp2_with (go_at_call 20; (with_reducible refine AA.out.mono ?_); rintro e w5 ⟨rfl, b5⟩; have F5 := F.kept b5; have Z5 := Z.kept b5)
        go_roundw
        case rel => exact ⟨k + 1, by omega, by go_num, F5, Z5⟩
        case measure => simp [intOf]; omega
      | false =>
        obtain ⟨h0, rfl⟩ := hx6.resolve_left (by simp)
        have h0' : ((k : Int) == 0) = false := by rw [beq_eq_false_iff_ne]; omega
        go_wp2_with (go_at_call 20; (with_reducible refine AA.out.mono ?_); rintro e w5 ⟨rfl, b5⟩; have F5 := F.kept b5; have Z5 := Z.kept b5)
        go_roundw
        case rel => exact ⟨k + 1, by omega, by go_num, F5, Z5⟩
        case measure => simp [intOf]; omega
    · obtain rfl : k = 3 := by omega
      go_wp2_with fail
      have ch := blk_cell F.z1 e5
      have dh := blk_cell F.z2 e6
      have kh := fun u : Ext wr => u.cell ch
      have kd := fun u : Ext wr => u.cell dh
      refine wp_region_typed wr 8 (by kernel_rfl) (by kernel_rfl) (Below.refl _ _) ?_; simp only [List.take_succ_cons, List.take_zero, List.take_nil]
      iterate 8 (refine wpX_step (by rfl) (fun K hK => ?_); go_simp; first | (refine hK _ ?_; clear hK K) | (apply Exists.intro; refine ⟨fun _ => ?_, hK _ ?_⟩; fail; clear hK K))
      refine wpX_nil ?_
      intro u1 hb1
      change forallRel u1 [] _ _
      simp only [forallRel, List.drop_succ_cons, List.drop_zero, List.drop_nil]
      have F := F.kept hb1
      clear kh kd ch dh Z
      have RD := rng F.z2 e7
      have dn := blk_cell F.z2 e3
      have hlT := stc_len Ku.out.hd (.slice none 0 0) (.slice ua un uc)
      go_wp2_with (first
        | ((refine wpList_loadW (o := ⟨some 52, _, _, _, _, _⟩) 28 (.tmp 51) (by rfl) (w.heap.size + 1) 0 (by rfl) aggHd hlH RD (by rfl) ?_))
        | (refine wpList_buildB (o := ⟨some 55, _, _, _, _, _⟩) (by rfl) 31 [(0, .tmp 52), (2, .tmp 54)] (by rfl) _ (by rfl) _ (built_st2 Ku.out.hd ua un uc) ?_)
        | ((with_reducible show wpList _ _ _ (⟨none, Op.store _ _ (Operand.tmp 55), _, _, _, _⟩ :: _) _ _); refine wpList_storeA (o := ⟨none, _, _, _, _, _⟩) (by rfl) 31 (.tmp 13) (.tmp 55) (by rfl) u1.heap.size (hdcs p.hd ++ [.slice none 0 0, .slice ua un uc]) (by rfl) (by rfl) aggSt (old := zst) (by rw [zcSt]; exact Blk.new u1 _ _) hlT zst_len (stc_one _ _ _ _ _ _ _) ((Below.refl u1.heap.size u1).alloc (Nat.le_refl _) _) (Nat.le_refl _) ?_; intro w8 y8 b8 _; have F8 := F.kept b8; have cn := blk_cell F8.z1 e2)
        | (refine wpList_loadA (o := ⟨some 56, _, _, _, _, _⟩) (by rfl) 31 (.tmp 8) (by rfl) (w.heap.size + 3) (by rfl) aggSt F8.z4 zst_len ?_)
        | ((with_reducible show wpList _ _ _ (⟨none, Op.store _ _ (Operand.tmp 56), _, _, _, _⟩ :: _) _ _); refine wpList_storeA (o := ⟨none, _, _, _, _, _⟩) (by rfl) 31 (.tmp 6) (.tmp 56) (by rfl) (w.heap.size + 2) zst (by rfl) (by rfl) aggSt F8.z3 zst_len zst_len zst_one (Below.then Hbel.out F8.hb) (by omega) ?_; intro w9 hh9 hbel9 _))
      exact bodyPost_ret (v := .tuple #[.agg zst.toArray, .int .i64 25]) (results_blk_tmp rfl _ _ (w.heap.size + 2) aggSt hh9 zst_len rfl rfl) rfl (StoG.zero 25 hbel9)
set_option maxHeartbeats 4000000 in
set_option maxRecDepth 100000 in
theorem ltapply_far2 (t : Sto) (k : t.In) (p : Upd) (ku : p.Ok) (V : List Vt) (hvs : V.length ≤ 140737488355328) (va : Option Addr) (vc : Nat) (vs vn vu : Value) (w : World) (h1 : RowOf u64c 1 w vs t.s) (h2 : RowOf u64c 1 w vn t.n) (h3 : RowOf u64c 1 w vu p.n) (hv : RowOf vtc 33 w (.slice va V.length vc) V) (hok : badL t p = false) (hlt : t.hd.num < p.hd.num) (hq1 : p.hd.num / 8 - 1 = t.hd.num / 8 ∧ t.hd.num / 8 < p.hd.num / 8) (hn0 : t.n.length = 0) :
    Calls Try.prog 16 #[.agg (hdcs t.hd ++ [vs, vn]).toArray, .agg (updc p.hd p.mask vu).toArray, .slice va V.length vc] w fun e w' => StoG t p vs vn vu w e w' (25, zSto) := by
  obtain ⟨sa, sc, rfl, _⟩ := h1.form
  obtain ⟨na, nc, rfl, _⟩ := h2.form
  obtain ⟨ua, uc, rfl, _⟩ := h3.form
  obtain ⟨sn, hsn⟩ : ∃ x, t.s.length = x := ⟨_, rfl⟩
  obtain ⟨nn, hnn⟩ : ∃ x, t.n.length = x := ⟨_, rfl⟩
  obtain ⟨un, hun⟩ : ∃ x, p.n.length = x := ⟨_, rfl⟩
  have k1 := k.sl
  have k2 := k.nl
  have k3 := ku.nl
  have hok' := hok
  unfold badL at hok
  rw [hsn] at h1 k1 ⊢
  rw [hnn] at h2 k2 hok ⊢
  rw [hun] at h3 k3 hok ⊢
  have e1 := Lib.hid (stc_s k.hd (Value.slice sa sn sc) (Value.slice na nn nc))
  have e2 := Lib.hid (stc_n k.hd (Value.slice sa sn sc) (Value.slice na nn nc))
  have e3 := Lib.hid (updc_n ku.hd p.mask (Value.slice ua un uc))
  have e4 := Lib.hid (updc_m ku.hd p.mask (Value.slice ua un uc))
  have e5 := Lib.hid (hdcs_num' k.hd [Value.slice sa sn sc, Value.slice na nn nc])
  have e6 := Lib.hid (hdcs_num' ku.hd [u64v p.mask, Value.slice ua un uc])
  have e7 := Lib.hid (updc_hd ku.hd p.mask (Value.slice ua un uc))
  have e8 := Lib.hid (hdcs_nex' ku.hd [u64v p.mask, Value.slice ua un uc])
  have hlC := stc_len k.hd (Value.slice sa sn sc) (Value.slice na nn nc)
  have hlH := hdcs_len ku.hd
  have hlN : (by8 p.hd.nex).length = 32 := by rw [by8_len, ku.hd.nex]
  have hnum := ku.hd.num
  have hold := k.hd.num
  have hmask := ku.mask
  obtain ⟨C, hC⟩ : ∃ C, hdcs t.hd ++ [Value.slice sa sn sc, Value.slice na nn nc] = C := ⟨_, rfl⟩
  change Hid ((updc p.hd p.mask (Value.slice ua un uc))[32]? = _) at e6
  change Hid (((updc p.hd p.mask (Value.slice ua un uc)).drop 172).take 32 = _) at e8
  rw [hC] at e1 e2 e5 hlC ⊢
  generalize updc p.hd p.mask (Value.slice ua un uc) = D at *
  obtain ⟨w4, hw4, F, hbel, hsz⟩ := ltR_new w C D
  unfold u64v at e4 e5 e6
  have cs := blk_cell F.z1 e1
  have cn := blk_cell F.z1 e2
  have dn := blk_cell F.z2 e3
  have hg4 : w.heap.size + 3 < w4.heap.size := by omega
  have Hw4 := Lib.hid hw4
  have Hbel := Lib.hid hbel
  have H1 := Lib.hid h1
  have H2 := Lib.hid h2
  have H3 := Lib.hid h3
  have Hv := Lib.hid hv
  have K := Lib.hid k
  have Ku := Lib.hid ku
  have Hsn := Lib.hid hsn
  have Hnn := Lib.hid hnn
  have Hun := Lib.hid hun
  have Hvs := Lib.hid hvs
  have K1 := Lib.hid k1
  have K2 := Lib.hid k2
  have K3 := Lib.hid k3
  have Hok := Lib.hid hok
  have hgd : (rightB t.s = true) ∧ (nn = 0 ∨ rightB t.n = true) ∧ (un = 0 ∨ rightB p.n = true) := by
    simp only [Bool.or_eq_false_iff, Bool.not_eq_false', Bool.and_eq_false_iff, decide_eq_true_eq] at hok
    exact ⟨hok.1.1, hok.1.2, hok.2⟩
  have hgd0 : Hid (rightB t.s = true ∨ ((0 : Nat) ≠ 0 ∧ sn = 0)) := Lib.hid (.inl hgd.1)
  have hgd1 : Hid (rightB t.n = true ∨ ((1 : Nat) ≠ 0 ∧ nn = 0)) := Lib.hid (by rcases hgd.2.1 with h | h; exact .inr ⟨by omega, h⟩; exact .inl h)
  have hgd2 : Hid (rightB p.n = true ∨ ((2 : Nat) ≠ 0 ∧ un = 0)) := Lib.hid (by rcases hgd.2.2 with h | h; exact .inr ⟨by omega, h⟩; exact .inl h)
  have Hgd := Lib.hid hgd
  obtain ⟨oa, hoa⟩ : ∃ x, t.hd.num = x := ⟨_, rfl⟩
  obtain ⟨ob, hob⟩ : ∃ x, p.hd.num = x := ⟨_, rfl⟩
  rw [hoa] at e5 hold
  rw [hob] at e6 hnum
  rw [hoa, hob] at hlt hq1
  have d1 : decide ((ob : Int) ≤ (oa : Int)) = false := decide_eq_false (by omega)
  have d1' : decide (ob ≤ oa) = false := decide_eq_false (by omega)
  have qa := u64_quo oa hold
  have qb := u64_quo ob hnum
  obtain ⟨Q1, hQ1⟩ : ∃ q, oa / 8 = q := ⟨_, rfl⟩
  obtain ⟨Q2, hQ2⟩ : ∃ q, ob / 8 = q := ⟨_, rfl⟩
  have hmono : Q1 ≤ Q2 := by omega
  have za : ((oa : Int) / 8) = (Q1 : Int) := by omega
  have zb : ((ob : Int) / 8) = (Q2 : Int) := by omega
  have hQ264 : Q2 < 18446744073709551616 := by omega
  rw [hQ1] at qa hq1
  rw [hQ2] at qb hq1
  have d2 : ((Q2 : Int) == (Q1 : Int)) = false := by rw [beq_eq_false_iff_ne]; omega
  have d2' : (Q2 == Q1) = false := by rw [beq_eq_false_iff_ne]; omega
  have hsub : IntKind.u64.wrap ((Q2 : Int) - 1) = ((Q2 - 1 : Nat) : Int) := by
    rw [show (Q2 : Int) - 1 = ((Q2 - 1 : Nat) : Int) by omega]
    exact IntWalk.u64_in _ (by omega)
  rw [hnn] at hn0
  have d3 : (((Q2 - 1 : Nat) : Int) == (Q1 : Int)) = true := by rw [beq_iff_eq]; omega
  have d3' : ((Q2 - 1 : Nat) == Q1) = true := by rw [beq_iff_eq]; omega
  have d4 : decide ((0 : Int) < (nn : Int)) = false := decide_eq_false (by omega)
  have d4' : decide (0 < nn) = false := decide_eq_false (by omega)
  generalize Q2 - 1 = Q3 at *
  clear hn0
  clear hlt hgd hQ1 hQ2 hmono hQ264 hq1
  clear hw4 hsn hnn hun h1 h2 h3 hv hok k ku hvs hC k1 k2 k3 hbel hok'
  go_enter Try.func16, Try.ntmps16
  go_wp2_with (rw [← Hw4.out])
  have Z : Blk 29 (w4.alloc (.cells [Value.slice sa sn sc, Value.slice na nn nc, Value.slice ua un uc].toArray 29)) w4.heap.size [Value.slice sa sn sc, Value.slice na nn nc, Value.slice ua un uc] := Blk.new w4 _ _
  have F := F.kept ((Below.refl w4.heap.size w4).alloc (Nat.le_refl _) (.cells [Value.slice sa sn sc, Value.slice na nn nc, Value.slice ua un uc].toArray 29))
  clear cs cn dn
  try simp only [Act.put]
  go_loopw [22] (fun ix wr => ∃ k : Nat, k ≤ 3 ∧ ix = .int .i64 (k : Int) ∧ LtR w4 w.heap.size C D wr ∧ Blk 29 wr w4.heap.size [Value.slice sa sn sc, Value.slice na nn nc, Value.slice ua un uc]) (fun ix _ => 3 - (intOf ix).toNat)
  case atStart => exact ⟨0, by omega, rfl, F, Z⟩
  case round =>
    clear F Z
    obtain ⟨k, hk, rfl, F, Z⟩ := hrel
    by_cases hlt : k < 3
    · have hki : (k : Int) < (3 : Int) := by omega
      obtain ⟨xa, xn, xc, lx, r, hx1, hx2, hx3, hx4, hx5, hx6⟩ : ∃ xa xn xc, ∃ lx : List Nat, ∃ r : Bool, [Value.slice sa sn sc, Value.slice na nn nc, Value.slice ua un uc][k]? = some (.slice xa xn xc) ∧ RowOf u64c 1 w (.slice xa xn xc) lx ∧ lx.length = xn ∧ xn ≤ 17592186044416 ∧ r = rightB lx ∧ (r = true ∨ (k ≠ 0 ∧ xn = 0)) := by
        rcases (by omega : k = 0 ∨ k = 1 ∨ k = 2) with rfl | rfl | rfl
        · exact ⟨sa, sn, sc, t.s, _, rfl, H1.out, Hsn.out, K1.out, rfl, hgd0.out⟩
        · exact ⟨na, nn, nc, t.n, _, rfl, H2.out, Hnn.out, K2.out, rfl, hgd1.out⟩
        · exact ⟨ua, un, uc, p.n, _, rfl, H3.out, Hun.out, K3.out, rfl, hgd2.out⟩
      have hc : wr.cell? ⟨w.heap.size + 4, k, none⟩ = some (.slice xa xn xc) := by rw [← hsz]; exact (Z.cell k).trans hx1
      have A := vright_any xa xn xc lx hx3 hx4 wr (RowOf.below (RowOf.below hx2 Hbel.out) F.hb)
      rw [← hx5] at A
      have AA := Lib.hid A
      clear hx1 hx2 hx3 hx4 hx5 A
      cases r with
      | true =>
        go_wp2_with (go_at_call 20; (with_reducible refine AA.out.mono ?_); rintro e w5 ⟨rfl, b5⟩; have F5 := F.kept b5; have Z5 := Z.kept b5)
        go_roundw
        case rel => exact ⟨k + 1, by omega, by go_num, F5, Z5⟩
        case measure => simp [intOf]; omega
      | false =>
        obtain ⟨h0, rfl⟩ := hx6.resolve_left (by simp)
        have h0' : ((k : Int) == 0) = false := by rw [beq_eq_false_iff_ne]; omega
        go_wp2_with (go_at_call 20; (with_reducible refine AA.out.mono ?_); rintro e w5 ⟨rfl, b5⟩; have F5 := F.kept b5; have Z5 := Z.kept b5)
        go_roundw
        case rel => exact ⟨k + 1, by omega, by go_num, F5, Z5⟩
        case measure => simp [intOf]; omega
    · obtain rfl : k = 3 := by omega
      go_wp2_with fail
      have ch := blk_cell F.z1 e5
      have dh := blk_cell F.z2 e6
      have kh := fun u : Ext wr => u.cell ch
      have kd := fun u : Ext wr => u.cell dh
      refine wp_region_typed wr 8 (by kernel_rfl) (by kernel_rfl) (Below.refl _ _) ?_; simp only [List.take_succ_cons, List.take_zero, List.take_nil]
      iterate 8 (refine wpX_step (by rfl) (fun K hK => ?_); go_simp; first | (refine hK _ ?_; clear hK K) | (apply Exists.intro; refine ⟨fun _ => ?_, hK _ ?_⟩; fail; clear hK K))
      refine wpX_nil ?_
      intro u1 hb1
      change forallRel u1 [] _ _
      simp only [forallRel, List.drop_succ_cons, List.drop_zero, List.drop_nil]
      have F := F.kept hb1
      clear kh kd ch dh Z
      have RD := rng F.z2 e7
      have dn := blk_cell F.z2 e3
      have hlT := stc_len Ku.out.hd (.slice none 0 0) (.slice ua un uc)
      go_wp2_with (first
        | ((refine wpList_loadW (o := ⟨some 52, _, _, _, _, _⟩) 28 (.tmp 51) (by rfl) (w.heap.size + 1) 0 (by rfl) aggHd hlH RD (by rfl) ?_))
        | (refine wpList_buildB (o := ⟨some 55, _, _, _, _, _⟩) (by rfl) 31 [(0, .tmp 52), (2, .tmp 54)] (by rfl) _ (by rfl) _ (built_st2 Ku.out.hd ua un uc) ?_)
        | ((with_reducible show wpList _ _ _ (⟨none, Op.store _ _ (Operand.tmp 55), _, _, _, _⟩ :: _) _ _); refine wpList_storeA (o := ⟨none, _, _, _, _, _⟩) (by rfl) 31 (.tmp 13) (.tmp 55) (by rfl) u1.heap.size (hdcs p.hd ++ [.slice none 0 0, .slice ua un uc]) (by rfl) (by rfl) aggSt (old := zst) (by rw [zcSt]; exact Blk.new u1 _ _) hlT zst_len (stc_one _ _ _ _ _ _ _) ((Below.refl u1.heap.size u1).alloc (Nat.le_refl _) _) (Nat.le_refl _) ?_; intro w8 y8 b8 _; have F8 := F.kept b8; have cn := blk_cell F8.z1 e2)
        | (refine wpList_loadA (o := ⟨some 56, _, _, _, _, _⟩) (by rfl) 31 (.tmp 8) (by rfl) (w.heap.size + 3) (by rfl) aggSt F8.z4 zst_len ?_)
        | ((with_reducible show wpList _ _ _ (⟨none, Op.store _ _ (Operand.tmp 56), _, _, _, _⟩ :: _) _ _); refine wpList_storeA (o := ⟨none, _, _, _, _, _⟩) (by rfl) 31 (.tmp 6) (.tmp 56) (by rfl) (w.heap.size + 2) zst (by rfl) (by rfl) aggSt F8.z3 zst_len zst_len zst_one (Below.then Hbel.out F8.hb) (by omega) ?_; intro w9 hh9 hbel9 _))
      exact bodyPost_ret (v := .tuple #[.agg zst.toArray, .int .i64 25]) (results_blk_tmp rfl _ _ (w.heap.size + 2) aggSt hh9 zst_len rfl rfl) rfl (StoG.zero 25 hbel9)
end Go.Proofs.Ytgjgokcpampljaa
