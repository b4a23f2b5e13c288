/- word.divide. -/
import Derived.Test.YtgmdbleeagfhpaaWord19
set_option linter.unusedSimpArgs false
set_option linter.unusedVariables false
namespace Go.Proofs.Ytgmdbleeagfhpaa
open Go.RowKit
def n64 (d : Nat) : List Value := [.int .u64 (d : Int)]
abbrev Nums (w : World) (v : Value) (D : List Nat) : Prop := RowOf n64 1 w v D
theorem Nums.later {w w' : World} {a : Option Addr} {n c : Nat} {l : List Nat} (h : Nums w (.slice a n c) l) (hb : Below w.heap.size w w') (k : Nat) (hk : k < l.length) :
    ∃ b off, a = some ⟨b, off, none⟩ ∧ w'.cell? ⟨b, off + k, none⟩ = some (.int .u64 (l[k] : Int)) := by
  obtain ⟨b, off, ha, hc⟩ := RowOf.cells (f := n64) (size := 1) (fun _ => rfl) h k hk
  have hc0 : w.cell? ⟨b, off + k, none⟩ = some (.int .u64 (l[k] : Int)) := by simpa using hc 0 _ rfl
  have hlt := World.block_lt_of_cell? w _ hc0
  exact ⟨b, off, ha, by rw [hb.cell hlt]; exact hc0⟩
structure FrD (w : World) (M Q R : Nat) (u : World) : Prop where
  b : Blk 24 u w.heap.size (wcs M)
  q : Blk 24 u (w.heap.size + 1) (wcs Q)
  r : Blk 24 u (w.heap.size + 2) (wcs R)
  bel : Below w.heap.size w u
theorem FrD.kept {w u u' : World} {M Q R : Nat} (h : FrD w M Q R u) (hb : Below u.heap.size u u') : FrD w M Q R u' :=
  ⟨h.b.kept hb, h.q.kept hb, h.r.kept hb, h.bel.trans (hb.mono h.bel.size)⟩
theorem FrD.putR {w u u' : World} {M Q R R' : Nat} (h : FrD w M Q R u) (ho : Blk 24 u' (w.heap.size + 2) (wcs R')) (hb : Below (w.heap.size + 2) u u') (hr : u.grownBy u' (some (w.heap.size + 2))) : FrD w M Q R' u' :=
  ⟨h.b.grown hr (by simp), h.q.grown hr (by simp), ho, h.bel.trans (hb.mono (by omega))⟩
/-- .. while the rest is being doubled. -/
structure FrE (w : World) (M Q : Nat) (cs : List Value) (u : World) : Prop where
  b : Blk 24 u w.heap.size (wcs M)
  q : Blk 24 u (w.heap.size + 1) (wcs Q)
  r : Blk 24 u (w.heap.size + 2) cs
  bel : Below w.heap.size w u
theorem FrE.kept {w u u' : World} {M Q : Nat} {cs : List Value} (h : FrE w M Q cs u) (hb : Below u.heap.size u u') : FrE w M Q cs u' :=
  ⟨h.b.kept hb, h.q.kept hb, h.r.kept hb, h.bel.trans (hb.mono h.bel.size)⟩
theorem FrE.set {w u : World} {M Q : Nat} {cs : List Value} (h : FrE w M Q cs u) (k : Nat) (x : Value) : FrE w M Q (cs.set k x) (u.setCell ⟨w.heap.size + 2, k, none⟩ x) :=
  ⟨h.b.other _ (by simp) _, h.q.other _ (by simp) _, h.r.set k x, h.bel.setCell (by simp) _⟩
theorem FrD.setQ {w u : World} {M Q R Q' : Nat} (h : FrD w M Q R u) (k : Nat) (x : Value) (hq : (wcs Q).set k x = wcs Q') : FrD w M Q' R (u.setCell ⟨w.heap.size + 1, k, none⟩ x) :=
  ⟨h.b.other _ (by simp) _, hq ▸ h.q.set k x, h.r.other _ (by simp) _, h.bel.setCell (by simp) _⟩
theorem sub_l (N M : Nat) (hM : M < W256) (w : World) : Calls Try.prog 80 #[.agg (wcs N).toArray, .agg (wcs M).toArray] w fun e w' => e = .returned (.agg (wcs (subN N M)).toArray) ∧ Below w.heap.size w w' := sub_any N M hM w
theorem cmp_l (N M : Nat) (hN : N < W256) (hM : M < W256) (w : World) : Calls Try.prog 69 #[.agg (wcs N).toArray, .agg (wcs M).toArray] w fun e w' => e = .returned (.int .i64 (cmpI N M)) ∧ Below w.heap.size w w' := cmp_any N M hN hM w
theorem valL_lt (D : List Nat) (h : ∀ d ∈ D, d < B64) : valL D < 2 ^ (64 * D.length) := by
  induction D with
  | nil => simp [valL]
  | cons d D ih =>
    have h1 := h d (by simp)
    have h2 := ih (fun x hx => h x (List.mem_cons_of_mem _ hx))
    rw [valL, List.length_cons, show 64 * (D.length + 1) = 64 + 64 * D.length from by omega, Nat.pow_add]
    show d + B64 * valL D < B64 * 2 ^ (64 * D.length)
    have h3 : B64 * (valL D + 1) ≤ B64 * 2 ^ (64 * D.length) := Nat.mul_le_mul_left _ h2
    rw [Nat.mul_add, Nat.mul_one] at h3
    omega
theorem valL_bit (D : List Nat) (h : ∀ d ∈ D, d < B64) (i : Nat) (hi : i / 64 < D.length) : (D[i / 64] / 2 ^ (i % 64) % 2 == 1) = (valL D).testBit i := by
  rw [← lim_valL D (i / 64) h hi]; exact lim_bit _ _
theorem tlen (R S q : Nat) : (turned (wcs R) (wcs S) q).length = 4 := turned_len (A := wcs R) (B := wcs S) rfl q
set_option maxHeartbeats 2000000 in
set_option maxRecDepth 100000 in
theorem divide_any (an : Option Addr) (cn : Nat) (D : List Nat) (hD8 : D.length ≤ 8) (hDB : ∀ d ∈ D, d < B64) (M : Nat) (hM : M < W256) (hM0 : 0 < M) (w : World) (hn : Nums w (.slice an D.length cn) D) :
    Calls Try.prog 72 #[.slice an D.length cn, wv M] w fun e w' => e = .returned (.tuple #[wv (valL D / M % W256), wv (valL D % M)]) ∧ Below w.heap.size w w' := by
  obtain ⟨w1, hw1⟩ : ∃ w1, w1 = ((w.alloc (.cells (wcs M).toArray 24)).alloc (.cells z4.toArray 24)).alloc (.cells z4.toArray 24) := ⟨_, rfl⟩
  have hF0 : FrD w M 0 0 w1 := by
    rw [hw1]
    refine ⟨((boxW w M).alloc _).alloc _, ?_, ?_, (((Below.refl _ _).alloc (Nat.le_refl _) _).alloc (by simp) _).alloc (by simp; omega) _⟩
    · have := Blk.new (w.alloc (.cells (wcs M).toArray 24)) 24 z4
      rw [z4_zero]; simpa using (this.alloc (.cells z4.toArray 24))
    · have := Blk.new ((w.alloc (.cells (wcs M).toArray 24)).alloc (.cells z4.toArray 24)) 24 z4
      rw [z4_zero]; simpa using this
  show Calls Try.prog 72 #[.slice an D.length cn, .agg (wcs M).toArray] w _
  have hVlt := valL_lt D hDB
  obtain ⟨V, hV⟩ : ∃ V, V = valL D := ⟨_, rfl⟩
  have hbitV := fun i hi => valL_bit D hDB i hi
  rw [← hV] at hVlt hbitV ⊢
  obtain ⟨L, hL⟩ : ∃ L, L = D.length := ⟨_, rfl⟩
  rw [← hL] at hD8 hVlt hn ⊢
  have Hw1 := Lib.hid hw1
  have HL := Lib.hid hL
  have HbV := Lib.hid hbitV
  have HVlt := Lib.hid hVlt
  have HDB := Lib.hid hDB
  clear hw1 hL hbitV hVlt hV hDB
  go_enter Try.func72, Try.ntmps72
  go_wp2
  rw [show ((w.alloc (.cells (wcs M).toArray 24)).alloc (.cells #[.int .u64 0, .int .u64 0, .int .u64 0, .int .u64 0] 24)).alloc (.cells #[.int .u64 0, .int .u64 0, .int .u64 0, .int .u64 0] 24) = w1 from by rw [Hw1.out]; rfl]
  clear Hw1
  go_loopw [6] (fun i wr => ∃ p : Nat, p ≤ 64 * L ∧ i = .int .i64 ((p : Int) - 1) ∧ FrD w M (dq V M p) (dr V M p) wr) (fun i _ => ((intOf i) + 1).toNat)
  case atStart => exact ⟨64 * L, by omega, by apply val_int; omega, by rw [dq_start V M _ HVlt.out, dr_start V M _ HVlt.out]; exact hF0⟩
  case round =>
    clear hF0
    obtain ⟨p, hp, rfl, hF⟩ := hrel
    by_cases hlt : 1 ≤ p
    · obtain ⟨j, rfl⟩ : ∃ j, p = j + 1 := ⟨p - 1, by omega⟩
      have hj : ((j + 1 : Nat) : Int) - 1 = (j : Int) := by omega
      rw [hj]
      clear hj hlt
      have hR1 := dr_lt V M (j + 1) hM0
      have hT2 := dt_lt V M j hM0
      have hds := dr_step V M j hM0
      have hqs := dq_step V M j hM0
      have hqm := dq_mod V M (j + 1)
      have hT : dt V M j = 2 * dr V M (j + 1) + (if V.testBit j then 1 else 0) := rfl
      obtain ⟨R, hR⟩ : ∃ R, R = dr V M (j + 1) := ⟨_, rfl⟩
      obtain ⟨Q, hQ⟩ : ∃ Q, Q = dq V M (j + 1) := ⟨_, rfl⟩
      obtain ⟨T, hTT⟩ : ∃ T, T = dt V M j := ⟨_, rfl⟩
      rw [← hR] at hF hR1 hT
      rw [← hQ] at hF hqs hqm
      rw [← hTT] at hT2 hds hqs hT
      have hRW : R < W256 := by omega
      have htop := lim_top R hRW
      have hc3 := hF.r.wat 3 (by omega)
      obtain ⟨tp, htp⟩ : ∃ tp, tp = lim R 3 / 9223372036854775808 := ⟨_, rfl⟩
      have etp : (lim R 3 : Int) / 9223372036854775808 = (tp : Int) := by omega
      rw [← htp] at htop
      obtain ⟨S, hS⟩ : ∃ S, S = T % W256 := ⟨_, rfl⟩
      have hSl : S < W256 := by rw [hS]; exact Nat.mod_lt _ (by unfold W256; omega)
      have Hds := Lib.hid hds
      have Hqs := Lib.hid hqs
      have Hqm := Lib.hid hqm
      have HT := Lib.hid hT
      have HS := Lib.hid hS
      have Htop := Lib.hid htop
      clear hds hqs hqm hT hS htop hR hQ hTT htp
      go_wp2
      have hb1 : (if V.testBit j then 1 else 0) ≤ 1 := by split <;> omega
      obtain ⟨b, hb⟩ : ∃ b, b = (if V.testBit j then 1 else 0) := ⟨_, rfl⟩
      have hT := HT.out
      rw [← hb] at hT hb1
      have hlS : ∀ k, k < 4 → lim S k = lim (2 * R + b) k := fun k hk => by rw [HS.out, lim_wrap T k hk, hT]
      have HlS := Lib.hid hlS
      have Hb := Lib.hid hb
      have HT2 := Lib.hid hT
      clear HT hb hlS hc3 hT
      go_loopw [8] (fun kx wr => ∃ k : Nat, k ≤ 3 ∧ kx = .int .i64 (k : Int) ∧ FrE w M Q (turned (wcs R) (wcs S) (k + 1)) wr) (fun k _ => (intOf k).toNat)
      case atStart => exact ⟨3, by omega, rfl, by rw [turned_all (A := wcs R) (B := wcs S) rfl (3 + 1) (by rw [wcs_len]; omega)]; exact ⟨hF.b, hF.q, hF.r, hF.bel⟩⟩
      case round =>
        clear hF
        obtain ⟨k, hk, rfl, hE⟩ := hrel
        by_cases hk0 : 1 ≤ k
        · obtain ⟨k1, hk1⟩ : ∃ k1, k1 = k - 1 := ⟨_, rfl⟩
          have ek : (k : Int) - 1 = (k1 : Int) := by omega
          have ew : IntKind.i64.wrap (k1 : Int) = (k1 : Int) := IntWalk.i64_in _ (by omega)
          have hk4 : (k : Int) < 4 := by omega
          have hk14 : (k1 : Int) < 4 := by omega
          have c1 := hE.r.cell k
          have c2 := hE.r.cell k1
          rw [turned_at (k + 1) k (by omega) (by rw [wcs_len]; omega), wcs_at R k (by omega)] at c1
          rw [turned_at (k + 1) k1 (by omega) (by rw [wcs_len]; omega), wcs_at R k1 (by omega)] at c2
          have hor := or_dbl R b k1 hb1
          rw [show k1 + 1 = k from by omega, ← HlS.out k (by omega)] at hor
          have hset := turned_set (A := wcs R) (B := wcs S) rfl k (by rw [wcs_len]; omega) _ (wcs_at S k (by omega))
          have hkk : k1 + 1 = k := by omega
          have h0 : (0 : Int) < (k : Int) := by omega
          have k0 := fun u : Ext wr => u.cell c1
          have k2 := fun u : Ext wr => u.cell c2
          have Hset := Lib.hid hset
          have Hkk := Lib.hid hkk
          have hl1 := lim_lt R k
          have hl2 := lim_lt R k1
          have hkn : k < 4 := by omega
          clear hset hkk hk1 c1 c2 hk0 hk
          go_wp2
          refine wp_region_typed wr 12 (by kernel_rfl) (by kernel_rfl) (Below.refl _ _) ?_; simp only [List.take_succ_cons, List.take_zero, List.take_nil]
          iterate 12 (refine wpX_step (by rfl) (fun K hK => ?_); go_simp; first | (refine hK _ ?_; clear hK K) | (apply Exists.intro; refine ⟨fun _ => ?_, hK _ ?_⟩; fail; clear hK K))
          refine wpX_nil ?_
          intro w5 hw5
          change wpList _ _ _ [_] _ _
          have hE5 := hE.kept hw5
          obtain ⟨y2, hy2⟩ := hE5.r.has k (by rw [tlen]; exact hkn)
          have hf2 := hE5.r.free k
          have hnew := hE5.set k (.int .u64 (lim S k : Int))
          rw [Hset.out] at hnew
          clear hE hE5 k0 k2
          go_wp2
          go_roundw
          case rel => exact ⟨k1, by have := Hkk.out; omega, rfl, by rw [Hkk.out]; exact hnew⟩
          case measure => simp [intOf]; omega
        · obtain rfl : k = 0 := by omega
          obtain ⟨q, hq⟩ : ∃ q, q = j / 64 := ⟨_, rfl⟩
          obtain ⟨r, hr⟩ : ∃ r, r = j % 64 := ⟨_, rfl⟩
          have hqL : q < D.length := by have := HL.out; omega
          have e1 : (j : Int) / 64 = (q : Int) := by omega
          have e2 : (j : Int) % 64 = (r : Int) := by omega
          have ew : IntKind.i64.wrap (q : Int) = (q : Int) := IntWalk.i64_in _ (by omega)
          have e2t : (j : Int).tmod 64 = (r : Int) := by rw [Int.tmod_eq_emod_of_nonneg (by omega)]; exact e2
          have hqi : (q : Int) < (L : Int) := by have := HL.out; omega
          have hr64 : (r : Int) < 64 := by omega
          obtain ⟨bl, off, ha, hcn⟩ := Nums.later hn hE.bel q (by rw [← HL.out]; have := HL.out; omega)
          subst ha
          have hbit := HbV.out j (by rw [← hq]; exact hqL)
          obtain ⟨d, hd⟩ : ∃ d, d = D[q] := ⟨_, rfl⟩
          have hdB : d < 18446744073709551616 := by rw [hd]; exact HDB.out _ (List.getElem_mem _)
          have hbit2 : (d / 2 ^ r % 2 == 1) = V.testBit j := by rw [← hbit, hd]; simp only [hq, hr]
          rw [← hd] at hcn
          have hdiv : d / 2 ^ r < 18446744073709551616 := Nat.lt_of_le_of_lt (Nat.div_le_self _ _) hdB
          obtain ⟨y, hy⟩ : ∃ y, y = d / 2 ^ r := ⟨_, rfl⟩
          have e4 : (d : Int) / 2 ^ r = (y : Int) := by rw [hy]; simp
          rw [← hy] at hbit2 hdiv
          have e6 := and_one y hdiv
          have e7 : (y : Int) % 2 = (b : Int) := by
            have h2 := Hb.out
            rw [← hbit2] at h2
            rcases Nat.mod_two_eq_zero_or_one y with h | h
            · rw [h] at h2; simp at h2; omega
            · rw [h] at h2; simp at h2; omega
          rw [e7] at e6
          have c1 := hE.r.cell 0
          rw [turned_at 1 0 (by omega) (by rw [wcs_len]; omega), wcs_at R 0 (by omega)] at c1
          have hor := or_dbl0 R b hb1
          rw [← HlS.out 0 (by omega)] at hor
          have hset := turned_set (A := wcs R) (B := wcs S) rfl 0 (by rw [wcs_len]; omega) _ (wcs_at S 0 (by omega))
          rw [turned_zero] at hset
          have k0 := fun u : Ext wr => u.cell c1
          have k2 := fun u : Ext wr => u.cell hcn
          have Hset := Lib.hid hset
          have hl1 := lim_lt R 0
          have HHq := Lib.hid hq
          have HHr := Lib.hid hr
          clear hset c1 hcn hbit hbit2 hy hd hq hr hqL e7
          go_wp2
          refine wp_region_typed wr 14 (by kernel_rfl) (by kernel_rfl) (Below.refl _ _) ?_; simp only [List.take_succ_cons, List.take_zero, List.take_nil]
          iterate 14 (refine wpX_step (by rfl) (fun K hK => ?_); go_simp; first | (refine hK _ ?_; clear hK K) | (apply Exists.intro; refine ⟨fun _ => ?_, hK _ ?_⟩; fail; clear hK K))
          refine wpX_nil ?_
          intro w5 hw5
          change wpList _ _ _ [_] _ _
          have hE5 := hE.kept hw5
          obtain ⟨y2, hy2⟩ := hE5.r.has 0 (by rw [tlen]; omega)
          have hf2 := hE5.r.free 0
          have hnew := hE5.set 0 (.int .u64 (lim S 0 : Int))
          rw [Hset.out] at hnew
          have hF : FrD w M Q S (w5.setCell ⟨w.heap.size + 2, 0, none⟩ (.int .u64 (lim S 0 : Int))) := ⟨hnew.b, hnew.q, hnew.r, hnew.bel⟩
          have hcb := hnew.b
          clear hE hE5 k0 k2 hnew hn
          by_cases hTM : T < M
          · have htp0 : tp = 0 := by
              have := Htop.out; have h2 := HT2.out
              rw [this]; exact Nat.div_eq_of_lt (by omega)
            have ht1 : ((tp : Int) == 0) = true := by rw [htp0]; rfl
            have hST : S = T := by rw [HS.out]; exact Nat.mod_eq_of_lt (by omega)
            have hcmp : cmpI S M = -1 := by rw [hST]; exact cmp_lt hTM
            have hdsj := Hds.out
            rw [if_pos hTM] at hdsj
            have hqsj := Hqs.out
            rw [if_pos hTM] at hqsj
            have Hcmp := Lib.hid hcmp
            have Hdsj := Lib.hid (hdsj.trans hST.symm)
            have Hqsj := Lib.hid hqsj
            clear htp0 hST hcmp hdsj hqsj hTM
            have a0 := hF.r.wat 0 (by omega)
            have a1 := hF.r.wat 1 (by omega)
            have a2 := hF.r.wat 2 (by omega)
            have a3 := hF.r.wat 3 (by omega)
            have b0 := hF.b.wat 0 (by omega)
            have b1 := hF.b.wat 1 (by omega)
            have b2 := hF.b.wat 2 (by omega)
            have b3 := hF.b.wat 3 (by omega)
            go_wp2_with (go_at_call 69; refine (cmp_any S M hSl hM _).mono ?_; rw [Hcmp.out]; rintro e w6 ⟨rfl, b6⟩; have hF6 := hF.kept b6)
            go_roundw
            case rel => exact ⟨j, by omega, rfl, by rw [Hdsj.out, Hqsj.out]; exact hF6⟩
            case measure => simp [intOf]
          · have hdsj := Hds.out
            rw [if_neg hTM] at hdsj
            have hqsj := Hqs.out
            rw [if_neg hTM] at hqsj
            have hdlt := dr_lt V M j hM0
            have hsub : subN S M = dr V M j := by
              rw [hdsj, HS.out]
              unfold subN
              have := HT2.out
              rcases Nat.lt_or_ge T W256 with h | h
              · rw [Nat.mod_eq_of_lt h, show T + W256 - M = (T - M) + W256 from by omega, Nat.add_mod_right, Nat.mod_eq_of_lt (by omega)]
              · rw [Nat.mod_eq_sub_mod h, Nat.mod_eq_of_lt (show T - W256 < W256 by omega), show T - W256 + W256 - M = T - M from by omega, Nat.mod_eq_of_lt (by omega)]
            have hcmp : ((tp : Int) == 0) = true → cmpI S M = 0 ∨ cmpI S M = 1 := by
              intro h
              have h0 : tp = 0 := by simpa using h
              have h1 := Htop.out
              have h2 := HT2.out
              rw [h0] at h1
              have h3 : 2 * R < W256 := by
                by_cases h : 2 * R < W256
                · exact h
                · have : 1 ≤ 2 * R / W256 := by rw [Nat.le_div_iff_mul_le (by unfold W256; omega)]; omega
                  omega
              have hST : S = T := by rw [HS.out]; exact Nat.mod_eq_of_lt (by unfold W256 at h3 ⊢; omega)
              rw [hST]
              unfold cmpI
              rw [if_neg hTM]
              split <;> simp
            have Hsub := Lib.hid hsub
            have Hqsj := Lib.hid hqsj
            clear hdsj hqsj hsub hTM hdlt
            have hj8 : j < 256 ∨ ¬ j < 256 := by omega
            have a0 := hF.r.wat 0 (by omega)
            have a1 := hF.r.wat 1 (by omega)
            have a2 := hF.r.wat 2 (by omega)
            have a3 := hF.r.wat 3 (by omega)
            have b0 := hF.b.wat 0 (by omega)
            have b1 := hF.b.wat 1 (by omega)
            have b2 := hF.b.wat 2 (by omega)
            have b3 := hF.b.wat 3 (by omega)
            have Hcmp := Lib.hid hcmp
            clear hcmp
            rcases Nat.eq_zero_or_pos tp with htp0 | htp0
            · have ht1 : ((tp : Int) == 0) = true := by rw [htp0]; rfl
              have hc0 := Hcmp.out ht1
              obtain ⟨c, hc⟩ : ∃ c, c = cmpI S M := ⟨_, rfl⟩
              have hcn : decide (c < 0) = false := by rw [decide_eq_false_iff_not]; omega
              have HC := Lib.hid hc.symm
              clear hc hc0 htp0
              rcases hj8 with hj8 | hj8
              · skip
                have hq' := Hqsj.out
                rw [if_pos hj8] at hq'
                have Hqsj' := Lib.hid hq'
                clear hq'
                have hji : decide ((j : Int) < 256) = true := by rw [decide_eq_true_eq]; omega
                have hq4 : q < 4 := by have := HHq.out; omega
                have hqi4 : (q : Int) < 4 := by omega
                go_wp2_with (first
                  | (go_at_call 69; refine ((cmp_any S M hSl hM _).mono ?_); rw [HC.out]; rintro e w6 ⟨rfl, b6⟩; have hF6 := hF.kept b6)
                  | (refine wpList_loadA (o := ⟨some 58, _, _, _, _, _⟩) (by rfl) 24 (.tmp 5) (by rfl) (w.heap.size + 2) (by rfl) aggWord hF6.r (wcs_len _) ?_)
                  | (refine wpList_loadA (o := ⟨some 59, _, _, _, _, _⟩) (by rfl) 24 (.tmp 3) (by rfl) (w.heap.size) (by rfl) aggWord hF6.b (wcs_len _) ?_)
                  | (go_at_call 80; (with_reducible refine (sub_l S M hM _).mono ?_); rintro e w7 ⟨rfl, b7⟩; rw [Hsub.out]; have hF7 := hF6.kept b7)
                  | (refine wpList_storeA (by rfl) 24 (.tmp 5) (.tmp 60) (by rfl) (w.heap.size + 2) (wcs (dr V M j)) (by rfl) (by rfl) aggWord hF7.r (wcs_len _) (by first | exact wcs_len _ | rfl) (wcs_one _) (Below.refl _ _) (Nat.le_refl _) ?_; intro w8 ho8 b8 g8; have hF8 := hF7.putR ho8 b8 g8))
                clear a0 a1 a2 a3 b0 b1 b2 b3
                have c1 := hF8.q.wat q hq4
                have k0 := fun u : Ext w8 => u.cell c1
                have hjq : j = 64 * q + r := by have := HHq.out; have := HHr.out; omega
                have hrn : r < 64 := by omega
                have hQm : Q % 2 ^ (j + 1) = 0 := by have := Hqm.out; rw [Nat.min_eq_left (by omega)] at this; exact this
                have hor2 : bits .or .u64 (lim Q q : Int) (IntKind.u64.wrap ((2 : Int) ^ r)) = ((lim Q q + 2 ^ r : Nat) : Int) := by rw [show IntKind.u64.wrap ((2 : Int) ^ r) = ((2 ^ r : Nat) : Int) from wrap_two r hrn]; exact or_bit Q j q r hjq hrn hQm
                have hput := wcs_put Q j q r hjq hrn hq4 hQm
                obtain ⟨X, hX⟩ : ∃ X, X = lim Q q + 2 ^ r := ⟨_, rfl⟩
                rw [← hX] at hor2 hput
                clear hX
                have hl3 := lim_lt Q q
                have Hput := Lib.hid hput
                clear hjq hrn hQm hput c1
                refine wp_region_typed w8 9 (by kernel_rfl) (by kernel_rfl) (Below.refl _ _) ?_; simp only [List.take_succ_cons, List.take_zero, List.take_nil]
                iterate 9 (refine wpX_step (by rfl) (fun K hK => ?_); go_simp; first | (refine hK _ ?_; clear hK K) | (apply Exists.intro; refine ⟨fun _ => ?_, hK _ ?_⟩; fail; clear hK K))
                refine wpX_nil ?_
                intro w9 hw9
                change wpList _ _ _ [_] _ _
                have hF9 := hF8.kept hw9
                obtain ⟨y3, hy3⟩ := hF9.q.has q hq4
                have hf3 := hF9.q.free q
                have hnew2 := hF9.setQ q _ Hput.out
                clear hF9 hF8 k0
                go_wp2
                go_roundw
                case rel => exact ⟨j, by omega, rfl, by rw [Hqsj'.out]; exact hnew2⟩
                case measure => simp [intOf]
              · skip
                have hq' := Hqsj.out
                rw [if_neg hj8] at hq'
                have Hqsj' := Lib.hid hq'
                clear hq'
                have hji : decide ((j : Int) < 256) = false := by rw [decide_eq_false_iff_not]; omega
                go_wp2_with (first
                  | (go_at_call 69; refine ((cmp_any S M hSl hM _).mono ?_); rw [HC.out]; rintro e w6 ⟨rfl, b6⟩; have hF6 := hF.kept b6)
                  | (refine wpList_loadA (o := ⟨some 58, _, _, _, _, _⟩) (by rfl) 24 (.tmp 5) (by rfl) (w.heap.size + 2) (by rfl) aggWord hF6.r (wcs_len _) ?_)
                  | (refine wpList_loadA (o := ⟨some 59, _, _, _, _, _⟩) (by rfl) 24 (.tmp 3) (by rfl) (w.heap.size) (by rfl) aggWord hF6.b (wcs_len _) ?_)
                  | (go_at_call 80; (with_reducible refine (sub_l S M hM _).mono ?_); rintro e w7 ⟨rfl, b7⟩; rw [Hsub.out]; have hF7 := hF6.kept b7)
                  | (refine wpList_storeA (by rfl) 24 (.tmp 5) (.tmp 60) (by rfl) (w.heap.size + 2) (wcs (dr V M j)) (by rfl) (by rfl) aggWord hF7.r (wcs_len _) (by first | exact wcs_len _ | rfl) (wcs_one _) (Below.refl _ _) (Nat.le_refl _) ?_; intro w8 ho8 b8 g8; have hF8 := hF7.putR ho8 b8 g8))
                go_roundw
                case rel => exact ⟨j, by omega, rfl, by rw [Hqsj'.out]; exact hF8⟩
                case measure => simp [intOf]
            · have ht1 : ((tp : Int) == 0) = false := by rw [beq_eq_false_iff_ne]; omega
              clear htp0
              rcases hj8 with hj8 | hj8
              · skip
                have hq' := Hqsj.out
                rw [if_pos hj8] at hq'
                have Hqsj' := Lib.hid hq'
                clear hq'
                have hji : decide ((j : Int) < 256) = true := by rw [decide_eq_true_eq]; omega
                have hq4 : q < 4 := by have := HHq.out; omega
                have hqi4 : (q : Int) < 4 := by omega
                go_wp2_with (first
                  | (refine wpList_loadA (o := ⟨some 58, _, _, _, _, _⟩) (by rfl) 24 (.tmp 5) (by rfl) (w.heap.size + 2) (by rfl) aggWord hF.r (wcs_len _) ?_)
                  | (refine wpList_loadA (o := ⟨some 59, _, _, _, _, _⟩) (by rfl) 24 (.tmp 3) (by rfl) (w.heap.size) (by rfl) aggWord hF.b (wcs_len _) ?_)
                  | (go_at_call 80; (with_reducible refine (sub_l S M hM _).mono ?_); rintro e w7 ⟨rfl, b7⟩; rw [Hsub.out]; have hF7 := hF.kept b7)
                  | (refine wpList_storeA (by rfl) 24 (.tmp 5) (.tmp 60) (by rfl) (w.heap.size + 2) (wcs (dr V M j)) (by rfl) (by rfl) aggWord hF7.r (wcs_len _) (by first | exact wcs_len _ | rfl) (wcs_one _) (Below.refl _ _) (Nat.le_refl _) ?_; intro w8 ho8 b8 g8; have hF8 := hF7.putR ho8 b8 g8))
                clear a0 a1 a2 a3 b0 b1 b2 b3
                have c1 := hF8.q.wat q hq4
                have k0 := fun u : Ext w8 => u.cell c1
                have hjq : j = 64 * q + r := by have := HHq.out; have := HHr.out; omega
                have hrn : r < 64 := by omega
                have hQm : Q % 2 ^ (j + 1) = 0 := by have := Hqm.out; rw [Nat.min_eq_left (by omega)] at this; exact this
                have hor2 : bits .or .u64 (lim Q q : Int) (IntKind.u64.wrap ((2 : Int) ^ r)) = ((lim Q q + 2 ^ r : Nat) : Int) := by rw [show IntKind.u64.wrap ((2 : Int) ^ r) = ((2 ^ r : Nat) : Int) from wrap_two r hrn]; exact or_bit Q j q r hjq hrn hQm
                have hput := wcs_put Q j q r hjq hrn hq4 hQm
                obtain ⟨X, hX⟩ : ∃ X, X = lim Q q + 2 ^ r := ⟨_, rfl⟩
                rw [← hX] at hor2 hput
                clear hX
                have hl3 := lim_lt Q q
                have Hput := Lib.hid hput
                clear hjq hrn hQm hput c1
                refine wp_region_typed w8 9 (by kernel_rfl) (by kernel_rfl) (Below.refl _ _) ?_; simp only [List.take_succ_cons, List.take_zero, List.take_nil]
                iterate 9 (refine wpX_step (by rfl) (fun K hK => ?_); go_simp; first | (refine hK _ ?_; clear hK K) | (apply Exists.intro; refine ⟨fun _ => ?_, hK _ ?_⟩; fail; clear hK K))
                refine wpX_nil ?_
                intro w9 hw9
                change wpList _ _ _ [_] _ _
                have hF9 := hF8.kept hw9
                obtain ⟨y3, hy3⟩ := hF9.q.has q hq4
                have hf3 := hF9.q.free q
                have hnew2 := hF9.setQ q _ Hput.out
                clear hF9 hF8 k0
                go_wp2
                go_roundw
                case rel => exact ⟨j, by omega, rfl, by rw [Hqsj'.out]; exact hnew2⟩
                case measure => simp [intOf]
              · skip
                have hq' := Hqsj.out
                rw [if_neg hj8] at hq'
                have Hqsj' := Lib.hid hq'
                clear hq'
                have hji : decide ((j : Int) < 256) = false := by rw [decide_eq_false_iff_not]; omega
                go_wp2_with (first
                  | (refine wpList_loadA (o := ⟨some 58, _, _, _, _, _⟩) (by rfl) 24 (.tmp 5) (by rfl) (w.heap.size + 2) (by rfl) aggWord hF.r (wcs_len _) ?_)
                  | (refine wpList_loadA (o := ⟨some 59, _, _, _, _, _⟩) (by rfl) 24 (.tmp 3) (by rfl) (w.heap.size) (by rfl) aggWord hF.b (wcs_len _) ?_)
                  | (go_at_call 80; (with_reducible refine (sub_l S M hM _).mono ?_); rintro e w7 ⟨rfl, b7⟩; rw [Hsub.out]; have hF7 := hF.kept b7)
                  | (refine wpList_storeA (by rfl) 24 (.tmp 5) (.tmp 60) (by rfl) (w.heap.size + 2) (wcs (dr V M j)) (by rfl) (by rfl) aggWord hF7.r (wcs_len _) (by first | exact wcs_len _ | rfl) (wcs_one _) (Below.refl _ _) (Nat.le_refl _) ?_; intro w8 ho8 b8 g8; have hF8 := hF7.putR ho8 b8 g8))
                go_roundw
                case rel => exact ⟨j, by omega, rfl, by rw [Hqsj'.out]; exact hF8⟩
                case measure => simp [intOf]
    · obtain rfl : p = 0 := by omega
      rw [dq_end, dr_end] at hF
      have hS0 : FrD w M (V / M % W256) (V % M) wr.drew := ⟨hF.b.drew, hF.q.drew, hF.r.drew, hF.bel.drew⟩
      obtain ⟨Qf, hQf⟩ : ∃ Qf, Qf = V / M % W256 := ⟨_, rfl⟩
      obtain ⟨Rf, hRf⟩ : ∃ Rf, Rf = V % M := ⟨_, rfl⟩
      rw [← hQf, ← hRf] at hS0
      have HQf := Lib.hid hQf
      have HRf := Lib.hid hRf
      clear hQf hRf
      clear hF
      go_wp2
      refine wp_region_h (FrD w M Qf Rf) (by kernel_rfl) ?_; intro u0 hu0; simp only [List.length_cons, List.length_nil, Nat.reduceAdd, List.replicate_succ, List.replicate_zero]
      have hS : FrD w M Qf Rf u0 := by rw [hu0]; exact hS0
      clear hu0 hS0
      (refine wpH_take 0 (by rfl) (by kernel_rfl) (by intro _ _ _ h; first | exact h | (cases h.1)) (by intro _ _ _ _ h; first | exact h | (cases h.1)) (by assumption) (fun K hK => ?_); simp only [List.setIfInBounds_toArray, List.set_cons_zero, List.set_cons_succ] at hK; refine take_loadA (by rfl) 24 (.tmp 4) (by rfl) (w.heap.size + 1) (by rfl) aggWord (fun u hu => FrD.q hu) (wcs_len _) (hK _ ?_); clear hK K; simp only [Act.put, List.getElem_toArray, List.getElem_cons_zero, List.getElem_cons_succ, List.setIfInBounds_toArray, List.set_cons_zero, List.set_cons_succ])
      (refine wpH_take 1 (by rfl) (by kernel_rfl) (by intro _ _ _ h; first | exact h | (cases h.1)) (by intro _ _ _ _ h; first | exact h | (cases h.1)) (by assumption) (fun K hK => ?_); simp only [List.setIfInBounds_toArray, List.set_cons_zero, List.set_cons_succ] at hK; refine take_loadA (by rfl) 24 (.tmp 5) (by rfl) (w.heap.size + 2) (by rfl) aggWord (fun u hu => FrD.r hu) (wcs_len _) (hK _ ?_); clear hK K; simp only [Act.put, List.getElem_toArray, List.getElem_cons_zero, List.getElem_cons_succ, List.setIfInBounds_toArray, List.set_cons_zero, List.set_cons_succ])
      (refine wpH_only 2 (by rfl) (by kernel_rfl) (fun K hK => ?_); simp only [List.setIfInBounds_toArray, List.set_cons_zero, List.set_cons_succ] at hK; refine step_storeA (by rfl) 24 (.tmp 4) (.tmp 72) (by rfl) (w.heap.size + 1) (wcs (Qf)) (by rfl) (by rfl) aggWord hS.q (wcs_len _) (by first | exact wcs_len _ | rfl) (wcs_one _) ?_; intro u1 o1 b1 g1; simp only [Act.put, List.getElem_toArray, List.getElem_cons_zero, List.getElem_cons_succ, List.setIfInBounds_toArray, List.set_cons_zero, List.set_cons_succ])
      have hS1 : FrD w M Qf Rf u1 := ⟨hS.b.grown g1 (by simp), o1, hS.r.grown g1 (by simp), hS.bel.trans (b1.mono (by omega))⟩
      refine hK _ _ hS1 ?_; clear hK K
      (refine wpH_only 3 (by rfl) (by kernel_rfl) (fun K hK => ?_); simp only [List.setIfInBounds_toArray, List.set_cons_zero, List.set_cons_succ] at hK; refine step_storeA (by rfl) 24 (.tmp 5) (.tmp 73) (by rfl) (w.heap.size + 2) (wcs (Rf)) (by rfl) (by rfl) aggWord hS1.r (wcs_len _) (by first | exact wcs_len _ | rfl) (wcs_one _) ?_; intro u2 o2 b2 g2; simp only [Act.put, List.getElem_toArray, List.getElem_cons_zero, List.getElem_cons_succ, List.setIfInBounds_toArray, List.set_cons_zero, List.set_cons_succ])
      have hS2 : FrD w M Qf Rf u2 := ⟨hS1.b.grown g2 (by simp), hS1.q.grown g2 (by simp), o2, hS1.bel.trans (b2.mono (by omega))⟩
      refine hK _ _ hS2 ?_; clear hK K
      refine wpH_done (by kernel_rfl) ?_
      go_wp2
      exact bodyPost_ret (results_blk2 rfl _ _ aggWord aggWord hS2.q hS2.r (wcs_len _) (wcs_len _) (by first | rfl | kernel_rfl | simp) (by first | rfl | kernel_rfl | simp)) rfl ⟨by rw [HQf.out, HRf.out]; rfl, hS2.bel⟩
end Go.Proofs.Ytgmdbleeagfhpaa
