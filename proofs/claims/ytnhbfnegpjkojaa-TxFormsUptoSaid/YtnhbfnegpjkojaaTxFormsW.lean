/- The walk of the law TxForms. -/
import Derived.Test.YtnhbfnegpjkojaaTx7
import Derived.Test.YtnhbfnegpjkojaaTx8
import Derived.Test.YtnhbfnegpjkojaaTx9
import Derived.Test.YtnhbfnegpjkojaaTx15
import Derived.Test.YtnhbfnegpjkojaaTx16
import Derived.Test.YtnhbfnegpjkojaaRRead2
set_option linter.unusedSimpArgs false
set_option linter.unusedVariables false
namespace Go.Proofs.Ytnhbfnegpjkojaa
open Go.RowKit
set_option maxHeartbeats 8000000 in
set_option maxRecDepth 100000 in
theorem txForms_walk (t : Txd × Option Addr × Nat × Nat) (k : t.1.Ok) (a : Option Addr) (n c : Nat) (b : List UInt8) (hb : b.length = n) (hbs : n ≤ 1048576) (r : Rcv) (hr : (r.ls.map lgM).sum ≤ 1048576) (w : World) (ht : Bytes w (.slice t.2.1 t.2.2.1 t.2.2.2) t.1.dat) (h : Bytes w (.slice a n c) b) (hl : Logs w r.lv r.ls) :
    Calls Try.prog 8 #[.agg (txcs t.1 (.slice t.2.1 t.2.2.1 t.2.2.2)).toArray, .slice a n c, .agg (rcc r).toArray] w fun e w' => e = .returned (.bool true) ∧ Below w.heap.size w w' := by
  obtain ⟨t, da, dn, dc⟩ := t
  dsimp only at *
  have hXl := txcs_len k (.slice da dn dc)
  have hRl := rcc_len r
  have hr34 := rcc_logs r
  have c1 := fun u (hu : Bytes u (.slice da dn dc) t.dat) => xwrite_any t k da dn dc u hu
  have c2 := fun u (hu : Bytes u (.slice da dn dc) t.dat) => rwrite_any t k da dn dc u hu
  have c3 := fun u (hu : Bytes u (.slice da dn dc) t.dat) => xsum_any t k da dn dc u hu
  have c4 := fun u (hu : Logs u r.lv r.ls) => wreceipt_any r hr u hu
  have c5 := fun u (hu : Logs u r.lv r.ls) => rwreceipt_any r hr u hu
  have hWl := wX_len k
  obtain ⟨WX, hWX⟩ : ∃ X, X = wX t := ⟨_, rfl⟩
  obtain ⟨WR, hWR⟩ : ∃ X, X = wR r := ⟨_, rfl⟩
  rw [← hWX] at c1 c2 c3 hWl
  rw [← hWR] at c4 c5
  obtain ⟨S, hS⟩ : ∃ S, S = (sumB WX).map u8v := ⟨_, rfl⟩
  have g1 : ∀ o1 o2 w1, (eqGuard .eql 31 o1 o2 (.agg S.toArray) (.agg S.toArray)).run Try.prog w1 = .ok () w1 := fun o1 o2 w1 => by rw [hS]; exact guard_eq_h (sumB WX) (sumB WX) o1 o2 w1
  have q1 : ∀ w1 : World, (binOp .eql 31 (.agg S.toArray) (.agg S.toArray)).run Try.prog w1 = .ok (.bool true) w1 := fun w1 => by rw [hS]; have := run_eq_h (sumB WX) (sumB WX) (sumB_len WX) (sumB_len WX) w1; rw [beq_self_eq_true] at this; exact this
  have c6 : ∀ (a : Option Addr) (m c : Nat) u, Bytes u (.slice a m c) WX → Calls Try.prog 42 #[.slice a m c] u (fun e w' => e = .returned (.agg S.toArray) ∧ Below u.heap.size u w') := fun a m c u hu => by
    have hm : WX.length = m := hu.fits.1.symm
    rw [hS]; exact ssum_any a m c WX hm u hu (by omega)
  simp only [← hS] at c3
  obtain ⟨X, hX⟩ : ∃ X, X = txcs t (.slice da dn dc) := ⟨_, rfl⟩
  obtain ⟨R, hR⟩ : ∃ R, R = rcc r := ⟨_, rfl⟩
  simp only [← hX] at c1 c2 c3 hXl ⊢
  simp only [← hR] at c4 c5 hRl hr34 ⊢
  obtain ⟨la, ln, lc, hlv⟩ : ∃ a n c, r.lv = .slice a n c := by obtain ⟨_, a, c, hv, _⟩ := hl.1; exact ⟨_, _, _, hv⟩
  rw [hlv] at hl hr34 c4 c5
  obtain ⟨ls, hls⟩ : ∃ ls, ls = r.ls := ⟨_, rfl⟩
  rw [← hls] at hl hr c4 c5
  have hln : ls.length = ln := hl.1.fits.1.symm
  have c7 : ∀ u, Logs u (.slice la ln lc) ls → Calls Try.prog 43 #[.slice la ln lc] u (TextsP (ls.flatMap lgTs) u) := fun u hu => texts_any la ln lc ls hln hr u hu
  have c8 : ∀ u, Logs u (.slice la ln lc) ls → Calls Try.prog 44 #[.slice la ln lc] u (TextsP (ls.flatMap lgTs) u) := fun u hu => rtexts_any la ln lc ls hln hr u hu
  have hTl : (ls.flatMap lgTs).length ≤ 1048576 := Nat.le_trans (lgTs_len ls) hr
  obtain ⟨TT, hTT⟩ : ∃ T, T = ls.flatMap lgTs := ⟨_, rfl⟩
  rw [← hTT] at c7 c8 hTl
  obtain ⟨m, hm⟩ : ∃ m, m = TT.length := ⟨_, rfl⟩
  rw [← hm] at hTl
  have c9 : ∀ (a a' : Option Addr) (c c' : Nat) (ps qs : List (Value × List UInt8)) u, Texts u (.slice a m c) ps → Texts u (.slice a' m c') qs → ps.map (·.2) = TT → qs.map (·.2) = TT → Calls Try.prog 15 #[.slice a m c, .slice a' m c'] u (TruePost u) := fun a a' c c' ps qs u hp hq h1 h2 => sameTexts_any a a' m c c' ps qs (by rw [hm, ← h1, List.length_map]) (by rw [hm, ← h2, List.length_map]) hTl u hp hq (h1.trans h2.symm)
  obtain ⟨w1, hw1⟩ : ∃ w1, w1 = (w.alloc (.cells X.toArray 77)).alloc (.cells R.toArray 80) := ⟨_, rfl⟩
  have zX1 : Blk 77 w1 w.heap.size X := by rw [hw1]; exact (Blk.new w _ _).alloc _
  have zR1 : Blk 80 w1 (w.heap.size + 1) R := by
    rw [hw1]
    have := Blk.new (w.alloc (.cells X.toArray 77)) 80 R
    simpa using this
  have hbel : Below w.heap.size w w1 := by rw [hw1]; exact ((Below.refl _ _).alloc (Nat.le_refl _) _).alloc (by simp) _
  have cr := fun u (hu : Bytes u (.slice a n c) b) => xread_any a n c b hb hbs u hu
  have cs := fun u (hu : Bytes u (.slice a n c) b) => rread_any a n c b hb hbs u hu
  have h1 := h.kept hbel
  have Hw1 := Lib.hid hw1
  have C1 := Lib.hid c1
  have C2 := Lib.hid c2
  have C3 := Lib.hid c3
  have C4 := Lib.hid c4
  have C5 := Lib.hid c5
  have C6 := Lib.hid c6
  have C7 := Lib.hid c7
  have C8 := Lib.hid c8
  have C9 := Lib.hid c9
  have Cr := Lib.hid cr
  have Cs := Lib.hid cs
  have Ht := Lib.hid ht
  have Hl := Lib.hid hl
  have H1 := Lib.hid h1
  have HXl := Lib.hid hXl
  have HRl := Lib.hid hRl
  have H34 := Lib.hid hr34
  have G1 := Lib.hid g1
  have Q1 := Lib.hid q1
  have Hm := Lib.hid hm
  have hwx : (WX == WX) = true := beq_self_eq_true _
  have hwr : (WR == WR) = true := beq_self_eq_true _
  clear hw1 c1 c2 c3 c4 c5 c6 c7 c8 c9 cr cs ht hl h h1 hXl hRl hr34 g1 q1 hX hR hS hWX hWR hls hlv hTT k hWl hr hln hb hm
  go_enter Try.func8, Try.ntmps8
  go_upto_region 3 with (first
    | (go_at_call 36; rw [← Hw1.out]; (with_reducible refine (Cr.out _ H1.out).mono ?_); rintro e w2 ⟨H, E, ra, rn, rc, rfl, hOk, hRd, hD, b2⟩; have bb2 := Below.then hbel b2; have zX2 := zX1.kept b2; have zR2 := zR1.kept b2; have hHl := txcs_len hOk (.slice ra rn rc); have HRd := Lib.hid hRd; have HOk := Lib.hid hOk; clear hRd hOk; have yn := Blk.newA w2 77 (txcs zX (.slice none 0 0)).toArray)
    | ((with_reducible show wpList _ _ _ (⟨none, Op.store _ _ (Operand.tmp 14), _, _, _, _⟩ :: _) _ _); refine wpList_storeA (o := ⟨none, _, _, _, _, _⟩) (by rfl) 77 (.tmp 7) (.tmp 14) (by rfl) w2.heap.size (txcs H (.slice ra rn rc)) (by rfl) (by rfl) aggTx yn hHl (by rfl) (txcs_one _ _ _ _) ((Below.refl w2.heap.size w2).alloc (Nat.le_refl _) _) (Nat.le_refl _) ?_; intro w3 y3 b3 _; have bb3 := Below.then bb2 b3; have zX3 := zX2.kept b3; have zR3 := zR2.kept b3; have hD3 := hD.kept b3; have h3 := H1.out.kept (Below.then b2 b3))
    | (go_at_call 37; (with_reducible refine (Cs.out _ h3).mono ?_); rintro e w4 ⟨H', E', sa, sn, sc, rfl, hOk', hRd', hD', b4⟩; obtain ⟨rfl, rfl⟩ := RdX.one HOk.out hOk' HRd.out hRd'; obtain rfl : sn = rn := hD'.fits.1.trans hD.fits.1.symm; have bb4 := Below.then bb3 b4; have zX4 := zX3.kept b4; have zR4 := zR3.kept b4; have hD4 := hD3.kept b4; have y4 := y3.kept b4; have hHl' := txcs_len HOk.out (.slice sa sn sc); clear hOk' hRd'; have yn4 := Blk.newA w4 77 (txcs zX (.slice none 0 0)).toArray)
    | ((with_reducible show wpList _ _ _ (⟨none, Op.store _ _ (Operand.tmp 19), _, _, _, _⟩ :: _) _ _); refine wpList_storeA (o := ⟨none, _, _, _, _, _⟩) (by rfl) 77 (.tmp 9) (.tmp 19) (by rfl) w4.heap.size (txcs H (.slice sa sn sc)) (by rfl) (by rfl) aggTx yn4 hHl' (by rfl) (txcs_one _ _ _ _) ((Below.refl w4.heap.size w4).alloc (Nat.le_refl _) _) (Nat.le_refl _) ?_; intro w5 y5 b5 _; have bb5 := Below.then bb4 b5; have zX5 := zX4.kept b5; have zR5 := zR4.kept b5; have hD5 := hD4.kept b5; have hE5 := hD'.kept b5; have y45 := y4.kept b5))
  have tX := Lib.hid (Blk.all0 zX5)
  have tR := Lib.hid (Blk.all0 zR5)
  have tH := Lib.hid (Blk.all0 y45)
  have tH' := Lib.hid (Blk.all0 y5)
  have e34 := fun u : Ext w5 => u.cell ((zR5.cell 34).trans H34.out)
  have Sm : Hid (∀ u, Below w5.heap.size w5 u → Calls Try.prog 40 #[.agg (txcs H (.slice ra _ rc)).toArray, .agg (txcs H (.slice sa _ sc)).toArray] u (fun e w' => e = .returned (.bool true) ∧ Below u.heap.size u w')) := Lib.hid fun u hu => sametx_any H HOk.out ra sa _ rc sc u (hD5.kept hu) (hE5.kept hu)
  have Ht5 : Hid (∀ u, Below w5.heap.size w5 u → Bytes u (.slice da dn dc) t.dat) := Lib.hid fun u hu => Ht.out.kept (Below.then bb5 hu)
  have Hl5 : Hid (∀ u, Below w5.heap.size w5 u → Logs u (.slice la ln lc) ls) := Lib.hid fun u hu => Hl.out.kept (Below.then bb5 hu)
  have hEE : (E == E) = true := beq_self_eq_true E
  clear zX1 zR1 zX2 zR2 zX3 zR3 zX4 zR4 zX5 zR5 y3 y4 y45 y5 hD hD3 hD4 hD5 hD' hE5 h3 yn yn4 b2 b3 b4 b5 bb2 bb3 bb4 hbel
  refine wp_region_typed w5 43 (by kernel_rfl) (by kernel_rfl) (Below.refl _ _) ?_; simp only [List.take_succ_cons, List.take_zero, List.take_nil]
  (refine wpX_step (by rfl) (fun K hK => ?_); rw [if_pos (by rfl)]; refine ⟨_, fun u => const_loadm _ (.tmp 3) (by rfl) _ _ (by rfl) aggTx HXl.out (rangeAt.ext tX.out u), hK _ ?_⟩; clear hK K; simp only [Act.put, List.setIfInBounds_toArray, List.set_cons_zero, List.set_cons_succ])
  refine wpX_rel 22 (BytT WX) rfl (of_decide_eq_true rfl) (BytT.mono _) (fun w2 hw2 => ?_) ?_
  · change forallRel w2 [] _ _
    simp only [forallRel]
    refine ⟨rfl, ?_⟩
    go_simp
    refine (C1.out w2 (Ht5.out w2 hw2)).mono ?_
    rintro e w3 ⟨v, rfl, o3, b3⟩
    exact ⟨v, rfl, o3.row, b3⟩
  refine wpX_eq (str WX) (fun w2 hw2 => ?_) ?_
  · change forallRel w2 [(22, _)] _ _
    intro v22 h22
    simp only [forallRel]
    refine ⟨rfl, ?_⟩
    have c22 := run_str (P := Try.prog) (src := 22) (dst := 9) elU8.ht (by kernel_rfl) (by kernel_rfl) h22
    go_simp
    exact Below.refl _ _
  (refine wpX_step (by rfl) (fun K hK => ?_); rw [if_pos (by rfl)]; refine ⟨_, fun u => const_loadm _ (.tmp 3) (by rfl) _ _ (by rfl) aggTx HXl.out (rangeAt.ext tX.out u), hK _ ?_⟩; clear hK K; simp only [Act.put, List.setIfInBounds_toArray, List.set_cons_zero, List.set_cons_succ])
  refine wpX_rel 25 (BytT WX) rfl (of_decide_eq_true rfl) (BytT.mono _) (fun w2 hw2 => ?_) ?_
  · change forallRel w2 [] _ _
    simp only [forallRel]
    refine ⟨rfl, ?_⟩
    go_simp
    refine (C2.out w2 (Ht5.out w2 hw2)).mono ?_
    rintro e w3 ⟨v, rfl, o3, b3⟩
    exact ⟨v, rfl, o3, b3⟩
  refine wpX_eq (str WX) (fun w2 hw2 => ?_) ?_
  · change forallRel w2 [(25, _)] _ _
    intro v25 h25
    simp only [forallRel]
    refine ⟨rfl, ?_⟩
    have c25 := run_str (P := Try.prog) (src := 22) (dst := 9) elU8.ht (by kernel_rfl) (by kernel_rfl) h25
    go_simp
    exact Below.refl _ _
  iterate 7 (refine wpX_step (by rfl) (fun K hK => ?_); go_simp; first | (refine hK _ ?_; clear hK K) | (apply Exists.intro; refine ⟨fun _ => ?_, hK _ ?_⟩; fail; clear hK K))
  (refine wpX_step (by rfl) (fun K hK => ?_); rw [if_pos (by rfl)]; refine ⟨_, fun u => const_loadm _ (.tmp 7) (by rfl) _ _ (by rfl) aggTx hHl (rangeAt.ext tH.out u), hK _ ?_⟩; clear hK K; simp only [Act.put, List.setIfInBounds_toArray, List.set_cons_zero, List.set_cons_succ])
  (refine wpX_step (by rfl) (fun K hK => ?_); rw [if_pos (by rfl)]; refine ⟨_, fun u => const_loadm _ (.tmp 9) (by rfl) _ _ (by rfl) aggTx hHl' (rangeAt.ext tH'.out u), hK _ ?_⟩; clear hK K; simp only [Act.put, List.setIfInBounds_toArray, List.set_cons_zero, List.set_cons_succ])
  (refine wpX_step (by rfl) (fun K hK => ?_); go_simp; first | (refine hK _ ?_; clear hK K) | (apply Exists.intro; refine ⟨fun _ => ?_, hK _ ?_⟩; exact Sm.out _ (Subtype.property _); clear hK K))
  iterate 2 (refine wpX_step (by rfl) (fun K hK => ?_); go_simp; first | (refine hK _ ?_; clear hK K) | (apply Exists.intro; refine ⟨fun _ => ?_, hK _ ?_⟩; fail; clear hK K))
  (refine wpX_step (by rfl) (fun K hK => ?_); rw [if_pos (by rfl)]; refine ⟨_, fun u => const_loadm _ (.tmp 3) (by rfl) _ _ (by rfl) aggTx HXl.out (rangeAt.ext tX.out u), hK _ ?_⟩; clear hK K; simp only [Act.put, List.setIfInBounds_toArray, List.set_cons_zero, List.set_cons_succ])
  (refine wpX_step (by rfl) (fun K hK => ?_); go_simp; first | (refine hK _ ?_; clear hK K) | (apply Exists.intro; refine ⟨fun _ => ?_, hK _ ?_⟩; exact C3.out _ (Ht5.out _ (Subtype.property _)); clear hK K))
  (refine wpX_step (by rfl) (fun K hK => ?_); rw [if_pos (by rfl)]; refine ⟨_, fun u => const_loadm _ (.tmp 3) (by rfl) _ _ (by rfl) aggTx HXl.out (rangeAt.ext tX.out u), hK _ ?_⟩; clear hK K; simp only [Act.put, List.setIfInBounds_toArray, List.set_cons_zero, List.set_cons_succ])
  refine wpX_rel 42 (BytT WX) rfl (of_decide_eq_true rfl) (BytT.mono _) (fun w2 hw2 => ?_) ?_
  · change forallRel w2 [] _ _
    simp only [forallRel]
    refine ⟨rfl, ?_⟩
    go_simp
    refine (C2.out w2 (Ht5.out w2 hw2)).mono ?_
    rintro e w3 ⟨v, rfl, o3, b3⟩
    exact ⟨v, rfl, o3, b3⟩
  refine wpX_eq (.agg S.toArray) (fun w2 hw2 => ?_) ?_
  · change forallRel w2 [(42, _)] _ _
    intro v42 h42
    simp only [forallRel]
    refine ⟨rfl, ?_⟩
    obtain ⟨a42, c42, rfl, _, _⟩ := RowOf.form h42
    go_simp
    refine (C6.out _ _ _ w2 h42).mono ?_
    rintro e w3 ⟨rfl, b3⟩
    exact ⟨_, rfl, rfl, b3⟩
  (refine wpX_step (by rfl) (fun K hK => ?_); rw [if_pos (by rfl)]; refine ⟨_, fun u => const_eql _ _ _ _ (by rfl) (by rfl) (by rfl) (fun o1 o2 w1 => G1.out o1 o2 w1) (fun w1 => Q1.out w1), hK _ ?_⟩; clear hK K; simp only [Act.put, List.setIfInBounds_toArray, List.set_cons_zero, List.set_cons_succ])
  iterate 4 (refine wpX_step (by rfl) (fun K hK => ?_); go_simp; first | (refine hK _ ?_; clear hK K) | (apply Exists.intro; refine ⟨fun _ => ?_, hK _ ?_⟩; fail; clear hK K))
  refine wpX_rel 49 (TxsN m TT) rfl (of_decide_eq_true rfl) (TxsN.mono _ _) (fun w2 hw2 => ?_) ?_
  · change forallRel w2 [] _ _
    simp only [forallRel]
    refine ⟨rfl, ?_⟩
    go_simp
    refine (C7.out w2 (Hl5.out w2 hw2)).mono ?_
    rintro e w3 ⟨a3, n3, c3, ps3, rfl, T3, m3⟩
    obtain rfl : n3 = m := by rw [Hm.out, ← m3, List.length_map]; exact T3.oo.row.fits.1
    exact ⟨_, rfl, ⟨a3, c3, ps3, rfl, T3.texts, m3⟩, T3.hb⟩
  iterate 2 (refine wpX_step (by rfl) (fun K hK => ?_); go_simp; first | (refine hK _ ?_; clear hK K) | (apply Exists.intro; refine ⟨fun _ => ?_, hK _ ?_⟩; fail; clear hK K))
  refine wpX_rel 52 (TxsN m TT) rfl (of_decide_eq_true rfl) (TxsN.mono _ _) (fun w2 hw2 => ?_) ?_
  · change forallRel w2 [] _ _
    simp only [forallRel]
    refine ⟨rfl, ?_⟩
    go_simp
    refine (C8.out w2 (Hl5.out w2 hw2)).mono ?_
    rintro e w3 ⟨a3, n3, c3, ps3, rfl, T3, m3⟩
    obtain rfl : n3 = m := by rw [Hm.out, ← m3, List.length_map]; exact T3.oo.row.fits.1
    exact ⟨_, rfl, ⟨a3, c3, ps3, rfl, T3.texts, m3⟩, T3.hb⟩
  refine wpX_eq (.bool true) (fun w2 hw2 => ?_) ?_
  · change forallRel w2 [(52, _), (49, _)] _ _
    rintro v52 ⟨a52, c52, ps52, rfl, T52, m52⟩ v49 ⟨a49, c49, ps49, rfl, T49, m49⟩
    simp only [forallRel, List.drop_succ_cons, List.drop_zero, List.drop_nil]
    refine ⟨rfl, ?_⟩
    go_simp
    refine (C9.out _ _ _ _ _ _ w2 T49 T52 m49 m52).mono ?_
    rintro e w3 ⟨rfl, b3⟩
    exact ⟨_, rfl, rfl, b3⟩
  iterate 2 (refine wpX_step (by rfl) (fun K hK => ?_); go_simp; first | (refine hK _ ?_; clear hK K) | (apply Exists.intro; refine ⟨fun _ => ?_, hK _ ?_⟩; fail; clear hK K))
  (refine wpX_step (by rfl) (fun K hK => ?_); rw [if_pos (by rfl)]; refine ⟨_, fun u => const_loadm _ (.tmp 5) (by rfl) _ _ (by rfl) aggRc HRl.out (rangeAt.ext tR.out u), hK _ ?_⟩; clear hK K; simp only [Act.put, List.setIfInBounds_toArray, List.set_cons_zero, List.set_cons_succ])
  refine wpX_rel 57 (BytT WR) rfl (of_decide_eq_true rfl) (BytT.mono _) (fun w2 hw2 => ?_) ?_
  · change forallRel w2 [] _ _
    simp only [forallRel]
    refine ⟨rfl, ?_⟩
    go_simp
    refine (C4.out w2 (Hl5.out w2 hw2)).mono ?_
    rintro e w3 ⟨v, rfl, o3, b3⟩
    exact ⟨v, rfl, o3, b3⟩
  refine wpX_eq (str WR) (fun w2 hw2 => ?_) ?_
  · change forallRel w2 [(57, _)] _ _
    intro v57 h57
    simp only [forallRel]
    refine ⟨rfl, ?_⟩
    have c57 := run_str (P := Try.prog) (src := 22) (dst := 9) elU8.ht (by kernel_rfl) (by kernel_rfl) h57
    go_simp
    exact Below.refl _ _
  (refine wpX_step (by rfl) (fun K hK => ?_); rw [if_pos (by rfl)]; refine ⟨_, fun u => const_loadm _ (.tmp 5) (by rfl) _ _ (by rfl) aggRc HRl.out (rangeAt.ext tR.out u), hK _ ?_⟩; clear hK K; simp only [Act.put, List.setIfInBounds_toArray, List.set_cons_zero, List.set_cons_succ])
  refine wpX_rel 60 (BytT WR) rfl (of_decide_eq_true rfl) (BytT.mono _) (fun w2 hw2 => ?_) ?_
  · change forallRel w2 [] _ _
    simp only [forallRel]
    refine ⟨rfl, ?_⟩
    go_simp
    refine (C5.out w2 (Hl5.out w2 hw2)).mono ?_
    rintro e w3 ⟨v, rfl, o3, b3⟩
    exact ⟨v, rfl, o3, b3⟩
  refine wpX_eq (str WR) (fun w2 hw2 => ?_) ?_
  · change forallRel w2 [(60, _)] _ _
    intro v60 h60
    simp only [forallRel]
    refine ⟨rfl, ?_⟩
    have c60 := run_str (P := Try.prog) (src := 22) (dst := 9) elU8.ht (by kernel_rfl) (by kernel_rfl) h60
    go_simp
    exact Below.refl _ _
  iterate 2 (refine wpX_step (by rfl) (fun K hK => ?_); go_simp; first | (refine hK _ ?_; clear hK K) | (apply Exists.intro; refine ⟨fun _ => ?_, hK _ ?_⟩; fail; clear hK K))
  refine wpX_nil ?_
  intro u2 hb2 v22 _ v25 _ v42 _ v49 _ v52 _ v57 _ v60 _
  change wpList _ _ _ [_] _ _
  try simp only [Act.put, List.setIfInBounds_toArray, List.set_cons_zero, List.set_cons_succ]
  go_wp2_with fail
  go_ret
  exact ⟨rfl, Below.then bb5 hb2⟩
end Go.Proofs.Ytnhbfnegpjkojaa
