/- The reference's RWrite. -/
import Derived.Test.YtnhbfnegpjkojaaTx2
import Derived.Test.YtnhbfnegpjkojaaEncO
import Derived.Deep.Cut
set_option linter.unusedSimpArgs false
set_option linter.unusedVariables false
namespace Go.Proofs.Ytnhbfnegpjkojaa
open Go.RowKit
def SlI (B n : Nat) (cs : List Value) : Ty := fun v w => ∃ g, v = .slice (some ⟨g, 0, none⟩) n n ∧ B ≤ g ∧ Blk 156 w g cs
theorem SlI.mono (B n : Nat) (cs : List Value) : Mono (SlI B n cs) := fun _ _ _ ⟨g, h1, h2, h3⟩ hb => ⟨g, h1, h2, h3.kept hb⟩
def AgI (B n : Nat) (cs : List Value) : Ty := fun v w => ∃ g, v = .agg #[.bool true, .slice none 0 0, .slice (some ⟨g, 0, none⟩) n n] ∧ B ≤ g ∧ Blk 156 w g cs
theorem AgI.mono (B n : Nat) (cs : List Value) : Mono (AgI B n cs) := fun _ _ _ ⟨g, h1, h2, h3⟩ hb => ⟨g, h1, h2, h3.kept hb⟩
def PtI (B : Nat) : Ty := fun v w => ∃ g, v = .pointer (some ⟨g, 0, none⟩) ∧ B ≤ g ∧ Blk 156 w g [.bool false, .slice none 0 0, .slice none 0 0]
theorem PtI.mono (B : Nat) : Mono (PtI B) := fun _ _ _ ⟨g, h1, h2, h3⟩ hb => ⟨g, h1, h2, h3.kept hb⟩
/-- a list of two texts, the first one made since -/
def TwoO (B : Nat) (T : List UInt8) (dv : Value) (D : List UInt8) : Ty := fun u w => ∃ g a n c, u = .slice (some ⟨g, 0, none⟩) 2 2 ∧ RowOf icells 3 w u [txt (.slice a n c) T, txt dv D] ∧ TxB B T (.slice a n c) w
theorem TwoO.mono (B : Nat) (T : List UInt8) (dv : Value) (D : List UInt8) : Mono (TwoO B T dv D) := fun _ _ _ ⟨g, a, n, c, h1, h2, h3⟩ hb => ⟨g, a, n, c, h1, RowOf.kept h2 hb, TxB.mono _ _ _ _ _ h3 hb⟩
theorem txts_two (ps : List (Value × List UInt8)) (p q : Value × List UInt8) : txts (ps ++ [p, q]) = txts ps ++ [txt p.1 p.2, txt q.1 q.2] := by unfold txts; rw [List.map_append]; rfl
theorem xTs_short {t : Txd} (k : t.Ok) : ((xTs t).map fun x => 1 + x.length).sum ≤ 1048999 := by
  have h2 := numB_32 (mkN t.mkb)
  have h3 := numB_32 t.non
  have h4 := numB_32 t.gas
  have h5 := numB_32 t.pri
  have h6 := numB_32 t.val
  have h7 := k.dat
  simp only [xTs, List.map_cons, List.map_nil, List.sum_cons, List.sum_nil, k.frm, k.to]
  omega
def xNs (t : Txd) : List Nat := [mkN t.mkb, t.non, t.gas, t.pri]
theorem xTs_ns (t : Txd) (i : Nat) (hi : i < 4) : (xTs t).take (i + 1 + 2) = (xTs t).take (i + 2) ++ [numB ((xNs t)[i]?.getD 0)] := by
  rcases (by omega : i = 0 ∨ i = 1 ∨ i = 2 ∨ i = 3) with rfl | rfl | rfl | rfl <;> rfl
theorem xNs_lt {t : Txd} (k : t.Ok) (i : Nat) (hi : i < 4) : (xNs t)[i]?.getD 0 < 18446744073709551616 := by
  rcases (by omega : i = 0 ∨ i = 1 ∨ i = 2 ∨ i = 3) with rfl | rfl | rfl | rfl
  · exact mkN_lt _
  · exact k.non
  · exact k.gas
  · exact k.pri
set_option maxHeartbeats 4000000 in
set_option maxRecDepth 100000 in
theorem rwrite_any (t : Txd) (k : t.Ok) (da : Option Addr) (dn dc : Nat) (w : World) (hd : Bytes w (.slice da dn dc) t.dat) : Calls Try.prog 39 #[.agg (txcs t (.slice da dn dc)).toArray] w fun e w' => ∃ v, e = .returned v ∧ Bytes w' v (wX t) ∧ Below w.heap.size w w' := by
  obtain ⟨X, hX⟩ : ∃ X, X = txcs t (.slice da dn dc) := ⟨_, rfl⟩
  obtain ⟨w1, hw1⟩ : ∃ w1, w1 = w.alloc (.cells (txcs t (.slice da dn dc)).toArray 77) := ⟨_, rfl⟩
  have hz : Blk 77 w1 w.heap.size (txcs t (.slice da dn dc)) := by rw [hw1]; exact Blk.new w _ _
  have hbel : Below w.heap.size w w1 := by rw [hw1]; exact (Below.refl _ _).alloc (Nat.le_refl _) _
  have Hf : Hid (∀ u, Below w1.heap.size w1 u → Bytes u (.slice (some ⟨w.heap.size, 0, none⟩) 8 8) t.frm) := Lib.hid fun u hu => (hz.kept hu).bytesAt 0 8 _ (txcs_frm k _) k.frm (by unfold maxLen; omega)
  have Ht : Hid (∀ u, Below w1.heap.size w1 u → Bytes u (.slice (some ⟨w.heap.size, 8, none⟩) 8 8) t.to) := Lib.hid fun u hu => (hz.kept hu).bytesAt 8 8 _ (txcs_to k _) k.to (by unfold maxLen; omega)
  have Hd := Lib.hid hd
  have c16 : w1.cell? ⟨w.heap.size, 16, none⟩ = some (.bool t.mkb) := (hz.cell 16).trans (txcs_mk k _)
  have C17 : Hid (∀ u, Blk 77 u w.heap.size X → u.cell? ⟨w.heap.size, 17, none⟩ = some (.int .u64 (t.non : Int)) ∧ u.cell? ⟨w.heap.size, 18, none⟩ = some (.int .u64 (t.gas : Int)) ∧ u.cell? ⟨w.heap.size, 19, none⟩ = some (.int .u64 (t.pri : Int)) ∧ u.cell? ⟨w.heap.size, 24, none⟩ = some (.slice da dn dc) ∧ u.rangeAt w.heap.size 20 (wcs t.val)) := Lib.hid fun u hu => by
    rw [hX] at hu
    refine ⟨(hu.cell 17).trans (txcs_non k _), (hu.cell 18).trans (txcs_gas k _), (hu.cell 19).trans (txcs_pri k _), (hu.cell 24).trans (txcs_dat k _), ?_⟩
    have := hu.range 20 4; rw [txcs_val k] at this; exact this
  have s8 := fun off u => sl8 w.heap.size off u
  have Hw1 : Hid (w1 = w.alloc (.cells X.toArray 77)) := Lib.hid (by rw [hX]; exact hw1)
  have K := Lib.hid k
  rw [← hX]
  rw [← hX] at hz
  have HX := Lib.hid hX
  have hone : Hid (∀ k' : Nat, k' < 4 → (xNs t)[k']?.getD 0 < 18446744073709551616) := Lib.hid (xNs_lt k)
  clear hw1 hX hd k
  obtain ⟨b, hb⟩ : ∃ b, b = t.mkb := ⟨_, rfl⟩
  rw [← hb] at c16
  have Hb := Lib.hid hb
  clear hb
  cases b
  all_goals
    go_enter Try.func39, Try.ntmps39
    go_upto_region 4 with (rw [← Hw1.out])
    refine wp_region_typed w1 9 (by kernel_rfl) (by kernel_rfl) (Below.refl _ _) ?_; simp only [List.take_succ_cons, List.take_zero, List.take_nil]
    iterate 2 (refine wpX_step (by rfl) (fun K hK => ?_); go_simp; first | (refine hK _ ?_; clear hK K) | (apply Exists.intro; refine ⟨fun _ => ?_, hK _ ?_⟩; fail; clear hK K))
    (refine wpX_step (by rfl) (fun K hK => ?_); go_simp; first | (refine hK _ ?_; clear hK K) | (apply Exists.intro; refine ⟨fun _ => ?_, hK _ ?_⟩; exact ptext_any _ _ _ _; clear hK K))
    iterate 2 (refine wpX_step (by rfl) (fun K hK => ?_); go_simp; first | (refine hK _ ?_; clear hK K) | (apply Exists.intro; refine ⟨fun _ => ?_, hK _ ?_⟩; fail; clear hK K))
    (refine wpX_step (by rfl) (fun K hK => ?_); go_simp; first | (refine hK _ ?_; clear hK K) | (apply Exists.intro; refine ⟨fun _ => ?_, hK _ ?_⟩; exact ptext_any _ _ _ _; clear hK K))
    refine wpX_rel 15 (SlI w1.heap.size 2 [.bool false, .slice (some ⟨w.heap.size, 0, none⟩) 8 8, .slice none 0 0, .bool false, .slice (some ⟨w.heap.size, 8, none⟩) 8 8, .slice none 0 0]) rfl (of_decide_eq_true rfl) (SlI.mono _ _ _) (fun w2 hw2 => ?_) ?_
    · simp only [relOf, List.filter_nil, forallRel]
      refine ⟨rfl, ?_⟩
      go_simp
      exact ⟨(Below.refl _ _).alloc (Nat.le_refl _) _, w2.heap.size, rfl, hw2.size, Blk.new w2 _ _⟩
    refine wpX_rel 16 (AgI w1.heap.size 2 [.bool false, .slice (some ⟨w.heap.size, 0, none⟩) 8 8, .slice none 0 0, .bool false, .slice (some ⟨w.heap.size, 8, none⟩) 8 8, .slice none 0 0]) rfl (of_decide_eq_true rfl) (AgI.mono _ _ _) (fun w2 hw2 => ?_) ?_
    · change forallRel w2 [(15, _)] _ _
      rintro v15 ⟨g, rfl, hgB, hgb⟩
      simp only [forallRel, List.drop_succ_cons, List.drop_zero, List.drop_nil]
      refine ⟨rfl, ?_⟩
      go_simp
      refine (plist_any _ _ _ _).mono ?_
      rintro e w3 ⟨rfl, b3⟩
      exact ⟨_, rfl, ⟨g, rfl, hgB, hgb.kept b3⟩, b3⟩
    refine wpX_rel 4 (PtI w1.heap.size) rfl (of_decide_eq_true rfl) (PtI.mono _) (fun w2 hw2 => ?_) ?_
    · simp only [relOf, List.filter_nil, List.filter_cons, forallRel]
      try simp only [forallRel]
      refine ⟨rfl, ?_⟩
      go_simp
      exact ⟨(Below.refl _ _).alloc (Nat.le_refl _) _, w2.heap.size, rfl, hw2.size, Blk.new w2 _ _⟩
    refine wpX_nil ?_
    intro u2 hb2 v15 _ v16 h16 v4 h4
    change wpList _ _ _ [_] _ _
    obtain ⟨g16, rfl, hB16, z16⟩ := h16
    obtain ⟨g9, rfl, hB9, z9⟩ := h4
    have hz2 := hz.kept hb2
    have hne : g16 ≠ g9 := by
      intro e
      subst e
      have h1 : u2.heap[g16]? = _ := z16
      have h2 : u2.heap[g16]? = _ := z9
      rw [h1] at h2
      simp at h2
    have hwl := hz.lt
    clear hz
    go_upto_region 5 with (refine wpList_storeA (o := ⟨none, _, _, _, _, _⟩) (by rfl) 156 (.tmp 4) (.tmp 16) (by rfl) g9 [.bool true, .slice none 0 0, .slice (some ⟨g16, 0, none⟩) 2 2] (by rfl) (by rfl) aggItem z9 (by rfl) (by rfl) (by intro u hu; simp at hu; rcases hu with rfl | rfl | rfl <;> rfl) (Below.refl _ _) (Nat.le_refl _) ?_; intro w3 z3 _ g3)
    have hz3 := hz2.grown g3 (by simp; omega)
    have bb3 : Below w1.heap.size w1 w3 := hb2.grown g3 hb2.size (fun k hk => by cases hk; exact hB9)
    have F8 : LkV w [(77, w.heap.size, X)] w1.heap.size g9 (.slice (some ⟨g16, 0, none⟩) 2 2) (txts [(.slice (some ⟨w.heap.size, 0, none⟩) 8 8, t.frm), (.slice (some ⟨w.heap.size, 8, none⟩) 8 8, t.to)]) w3 := by
      refine ⟨Below.then hbel bb3, fun p hp => ?_, z3, Blk.own (f := icells) (size := 3) (z16.grown g3 (by simpa using fun e => hne e.symm)) 2 icells_len rfl hB16 (by unfold maxLen; omega), by simpa [Value.ownBlock] using hne, fun x hx => ?_, hbel.size, hB9⟩
      · rw [List.mem_singleton] at hp; subst hp; exact ⟨hz3, hwl⟩
      · simp only [txts, List.map_cons, List.map_nil, List.mem_cons, List.not_mem_nil, or_false] at hx
        rcases hx with rfl | rfl
        · refine fp_at (Hf.out w3 bb3) (fun b hb => ?_)
          simp only [Value.ownBlock, Option.some.injEq] at hb
          subst hb
          exact ⟨by omega, fun e => by simp only [Value.ownBlock, Option.some.injEq] at e; omega⟩
        · refine fp_at (Ht.out w3 bb3) (fun b hb => ?_)
          simp only [Value.ownBlock, Option.some.injEq] at hb
          subst hb
          exact ⟨by omega, fun e => by simp only [Value.ownBlock, Option.some.injEq] at e; omega⟩
    obtain ⟨d17, d18, d19, _, _⟩ := C17.out w3 hz3
    obtain ⟨kv0, hkv0⟩ : ∃ x : Value, x = .slice (some ⟨g16, 0, none⟩) 2 2 := ⟨_, rfl⟩
    obtain ⟨ps0, hps0⟩ : ∃ x, x = [((.slice (some ⟨w.heap.size, 0, none⟩) 8 8 : Value), t.frm), (.slice (some ⟨w.heap.size, 8, none⟩) 8 8, t.to)] := ⟨_, rfl⟩
    rw [← hkv0, ← hps0] at F8
    have Hps0 : Hid (ps0.map (·.2) = (xTs t).take (0 + 2)) := Lib.hid (by rw [hps0]; rfl)
    clear hkv0 hps0 hz2 hz3 z3 g3 z9 z16 hne hb2 s8 c16
    go_wp2_with fail
    obtain ⟨g24, hg24⟩ : ∃ g, g = w3.heap.size := ⟨_, rfl⟩
    have Hg24 := Lib.hid hg24
    try rw [← hg24]
    clear hg24 d17 d18 d19
    go_loopw [26] (fun ix wr => ∃ (k : Nat) (kv : Value) (ps : List (Value × List UInt8)), k ≤ 4 ∧ ix = .int .i64 (k : Int) ∧ LkV w [(77, w.heap.size, X)] w1.heap.size g9 kv (txts ps) wr ∧ Blk 44 wr g24 ((xNs t).map u64v) ∧ Hid (ps.map (·.2) = (xTs t).take (k + 2))) (fun ix _ => 4 - (intOf ix).toNat)
    case atStart =>
      refine ⟨0, _, ps0, by omega, rfl, F8.kept ((Below.refl _ _).alloc (Nat.le_refl _) _), ?_, Hps0⟩
      have h := Blk.new w3 44 ((xNs t).map u64v)
      rw [Hg24.out]
      unfold xNs at h ⊢
      rw [← Hb.out] at h ⊢
      exact h
    case round =>
      clear F8 Hps0
      obtain ⟨k, kv, ps, hk, rfl, F, zN, Hps⟩ := hrel
      have hpl : (txts ps).length = k + 2 := by
        have h1 := congrArg List.length Hps.out
        have h2 : (xTs t).length = 8 := rfl
        simp only [List.length_map, List.length_take, h2] at h1
        unfold txts
        rw [List.length_map]; omega
      obtain ⟨ka, kc, rfl, _⟩ := F.hO.form' (k + 2) hpl
      have Hpl := Lib.hid hpl
      clear hpl
      by_cases hlt : k < 4
      · have hki : (k : Int) < (4 : Int) := by omega
        obtain ⟨x, hx⟩ : ∃ x, x = (xNs t)[k]?.getD 0 := ⟨_, rfl⟩
        have hx64 := hone.out k hlt
        have hnext := xTs_ns t k hlt
        have hcell : wr.cell? ⟨g24, k, none⟩ = some (.int .u64 (x : Int)) := by
          rw [zN.cell, List.getElem?_map, hx]
          have : (xNs t).length = 4 := rfl
          rw [List.getElem?_eq_getElem (by omega)]; rfl
        rw [← hx] at hnext hx64
        have Hnext := Lib.hid hnext
        obtain ⟨T, hT⟩ : ∃ T, T = numB x := ⟨_, rfl⟩
        have ci : ∀ u : World, Calls Try.prog 97 #[.int .u64 (x : Int)] u _ := fun u => wint_any x hx64 u
        change ∀ u : World, Calls Try.prog 97 #[.int .u64 (x : Int)] u (fun e w' => e = .returned (.agg (wcs x).toArray) ∧ Below u.heap.size u w') at ci
        have cn : ∀ u : World, Calls Try.prog 96 #[.agg (wcs x).toArray] u _ := fun u => pnum_fr x u
        rw [← hT] at cn
        rw [← hT] at Hnext
        have k1 := fun u : Ext wr => u.cell ((F.hm.cell 2).trans (show _ = some (Value.slice ka (k + 2) kc) from rfl))
        have Ci := Lib.hid ci
        have Cn := Lib.hid cn
        clear hx hnext hT ci cn hx64
        go_wp2_with fail
        refine wp_region_typed wr 7 (by kernel_rfl) (by kernel_rfl) (Below.refl _ _) ?_; simp only [List.take_succ_cons, List.take_zero, List.take_nil]
        iterate 3 (refine wpX_step (by rfl) (fun K hK => ?_); go_simp; first | (refine hK _ ?_; clear hK K) | (apply Exists.intro; refine ⟨fun _ => ?_, hK _ ?_⟩; fail; clear hK K))
        (refine wpX_step (by rfl) (fun K hK => ?_); go_simp; first | (refine hK _ ?_; clear hK K) | (apply Exists.intro; refine ⟨fun _ => ?_, hK _ ?_⟩; exact Ci.out _; clear hK K))
        refine wpX_rel 34 (TxB wr.heap.size T) rfl (of_decide_eq_true rfl) (TxB.mono _ _) (fun w2 hw2 => ?_) ?_
        · simp only [relOf, List.filter_nil, forallRel]
          refine ⟨rfl, ?_⟩
          go_simp
          refine (Cn.out w2).mono ?_
          rintro e w3 ⟨v, rfl, o3, b3⟩
          exact ⟨v, rfl, TxB.lower o3 hw2.size, b3⟩
        refine wpX_rel 35 (TxtO wr.heap.size T) rfl (of_decide_eq_true rfl) (TxtO.mono _ _) (fun w2 hw2 => ?_) ?_
        · change forallRel w2 [(34, _)] _ _
          intro v17 h17
          obtain ⟨a17, c17, rfl, _⟩ := h17.1.form
          simp only [forallRel, List.drop_succ_cons, List.drop_zero, List.drop_nil]
          refine ⟨rfl, ?_⟩
          go_simp
          refine (ptext_any _ _ _ _).mono ?_
          rintro e w3 ⟨rfl, b3⟩
          exact ⟨_, rfl, ⟨a17, _, c17, rfl, TxB.mono _ _ _ _ _ h17 b3⟩, b3⟩
        refine wpX_rel 36 (OneO wr.heap.size T) rfl (of_decide_eq_true rfl) (OneO.mono _ _) (fun w2 hw2 => ?_) ?_
        · change forallRel w2 [(35, _)] _ _
          rintro v18 ⟨a18, n18, c18, rfl, h18⟩
          simp only [forallRel, List.drop_succ_cons, List.drop_zero, List.drop_nil]
          refine ⟨rfl, ?_⟩
          go_simp
          have hb18 : Below w2.heap.size w2 (w2.alloc (.cells #[.bool false, .slice a18 n18 c18, .slice none 0 0] 156)) := (Below.refl _ _).alloc (Nat.le_refl _) _
          exact ⟨hb18, w2.heap.size, a18, n18, c18, rfl, Row.built icells_len w2 156 [txt (.slice a18 n18 c18) T] 1 rfl (by unfold maxLen; omega), TxB.mono _ _ _ _ _ h18 hb18⟩
        refine wpX_nil ?_
        intro u2 hb2 v17 h17 v18 h18 v19 h19
        change wpList _ _ _ [_, _, _] _ _
        obtain ⟨g19, a19, n19, c19, rfl, r19, f19⟩ := h19
        have F2 := F.kept hb2
        have zN2 := zN.kept hb2
        have Fp2 := F.text (Nat.le_refl _) f19
        clear k1 h17 h18 F zN hcell
        simp only [Act.put, List.setIfInBounds_toArray, List.set_cons_zero, List.set_cons_succ]
        go_wp2_with (refine wpList_appB (o := ⟨some 37, _, _, _, _, _⟩) (by rfl) (.tmp 31) (.tmp 36) 154 (by rfl) elItem (by intro u hu; simp [txt, icells] at hu; rcases hu with rfl | rfl | rfl <;> rfl) (by rfl) F2.hO (by rfl) r19 (Nat.le_trans F2.h2 (Nat.le_of_lt F2.hm.lt)) (by rw [Hpl.out]; simp; omega) (by rw [Hpl.out]; unfold maxLen; simp; omega) ?_; intro v5 w5 hO5 gg5 pp5; obtain ⟨a5, c5, rfl, _⟩ := hO5.form' (k + 3) (by rw [List.length_append, Hpl.out]; rfl); have F5 := F2.grew Fp2 gg5 hO5 pp5; have zN5 := (zN2.grown gg5 (F2.hO.notT zN2 (by decide))).other ⟨g9, 2, none⟩ (fun e => by have h1 : u2.heap[g9]? = _ := F2.hm; have h2 : u2.heap[g24]? = _ := zN2; rw [← e] at h2; rw [h1] at h2; simp at h2) (.slice a5 (k + 3) c5); have hc5 := (F2.hm.grown gg5 F2.hn).has 2 (by simp); have hf5 := (F2.hm.grown gg5 F2.hn).free 2; obtain ⟨y5, hy5⟩ := hc5)
        rw [← txts_snoc' ps (.slice a19 n19 c19, T)] at F5
        go_roundw
        case rel => exact ⟨k + 1, .slice a5 (k + 3) c5, ps ++ [(.slice a19 n19 c19, T)], by omega, by go_num, F5, zN5, Lib.hid (by rw [List.map_append, Hps.out, Hnext.out]; rfl)⟩
        case measure => simp [intOf]; omega
      · obtain rfl : k = 4 := by omega
        have hzX := (F.hz _ List.mem_cons_self).1
        obtain ⟨_, _, _, d24, RV⟩ := C17.out wr hzX
        obtain ⟨T, hT⟩ : ∃ T, T = numB t.val := ⟨_, rfl⟩
        have cn : ∀ u : World, Calls Try.prog 96 #[.agg (wcs t.val).toArray] u _ := fun u => pnum_fr t.val u
        rw [← hT] at cn
        have hnext : xTs t = (xTs t).take (4 + 2) ++ [T, t.dat] := by rw [hT]; rfl
        have hwv := wcs_len t.val
        obtain ⟨WV, hWV⟩ : ∃ W, W = wcs t.val := ⟨_, rfl⟩
        rw [← hWV] at cn RV hwv
        have Cn := Lib.hid cn
        have Hnext := Lib.hid hnext
        have k1 := fun u : Ext wr => u.cell ((F.hm.cell 2).trans (show _ = some (Value.slice ka (4 + 2) kc) from rfl))
        have k24 := fun u : Ext wr => u.cell d24
        have HRV := Lib.hid RV
        have Hwv := Lib.hid hwv
        clear hT cn hnext hWV RV hwv d24 hzX zN
        go_wp2_with fail
        refine wp_region_typed wr 10 (by kernel_rfl) (by kernel_rfl) (Below.refl _ _) ?_; simp only [List.take_succ_cons, List.take_zero, List.take_nil]
        iterate 3 (refine wpX_step (by rfl) (fun K hK => ?_); go_simp; first | (refine hK _ ?_; clear hK K) | (apply Exists.intro; refine ⟨fun _ => ?_, hK _ ?_⟩; fail; clear hK K))
        (refine wpX_step (by rfl) (fun K hK => ?_); rw [if_pos (by rfl)]; refine ⟨_, fun u => const_loadm _ (.tmp 42) (by rfl) _ _ (by rfl) aggWord Hwv.out (rangeAt.ext HRV.out u), hK _ ?_⟩; clear hK K; simp only [Act.put, List.setIfInBounds_toArray, List.set_cons_zero, List.set_cons_succ])
        refine wpX_rel 44 (TxB wr.heap.size T) rfl (of_decide_eq_true rfl) (TxB.mono _ _) (fun w2 hw2 => ?_) ?_
        · simp only [relOf, List.filter_nil, forallRel]
          refine ⟨rfl, ?_⟩
          go_simp
          refine (Cn.out w2).mono ?_
          rintro e w3 ⟨v, rfl, o3, b3⟩
          exact ⟨v, rfl, TxB.lower o3 hw2.size, b3⟩
        refine wpX_rel 45 (TxtO wr.heap.size T) rfl (of_decide_eq_true rfl) (TxtO.mono _ _) (fun w2 hw2 => ?_) ?_
        · change forallRel w2 [(44, _)] _ _
          intro v17 h17
          obtain ⟨a17, c17, rfl, _⟩ := h17.1.form
          simp only [forallRel, List.drop_succ_cons, List.drop_zero, List.drop_nil]
          refine ⟨rfl, ?_⟩
          go_simp
          refine (ptext_any _ _ _ _).mono ?_
          rintro e w3 ⟨rfl, b3⟩
          exact ⟨_, rfl, ⟨a17, _, c17, rfl, TxB.mono _ _ _ _ _ h17 b3⟩, b3⟩
        iterate 2 (refine wpX_step (by rfl) (fun K hK => ?_); go_simp; first | (refine hK _ ?_; clear hK K) | (apply Exists.intro; refine ⟨fun _ => ?_, hK _ ?_⟩; fail; clear hK K))
        (refine wpX_step (by rfl) (fun K hK => ?_); go_simp; first | (refine hK _ ?_; clear hK K) | (apply Exists.intro; refine ⟨fun _ => ?_, hK _ ?_⟩; exact ptext_any _ _ _ _; clear hK K))
        refine wpX_rel 49 (TwoO wr.heap.size T (.slice da dn dc) t.dat) rfl (of_decide_eq_true rfl) (TwoO.mono _ _ _ _) (fun w2 hw2 => ?_) ?_
        · change forallRel w2 [(45, _)] _ _
          rintro v18 ⟨a18, n18, c18, rfl, h18⟩
          simp only [forallRel, List.drop_succ_cons, List.drop_zero, List.drop_nil]
          refine ⟨rfl, ?_⟩
          go_simp
          have hb18 : Below w2.heap.size w2 (w2.alloc (.cells #[.bool false, .slice a18 n18 c18, .slice none 0 0, .bool false, .slice da dn dc, .slice none 0 0] 156)) := (Below.refl _ _).alloc (Nat.le_refl _) _
          exact ⟨hb18, w2.heap.size, a18, n18, c18, rfl, Row.built icells_len w2 156 [txt (.slice a18 n18 c18) T, txt (.slice da dn dc) t.dat] 2 rfl (by unfold maxLen; omega), TxB.mono _ _ _ _ _ h18 hb18⟩
        refine wpX_nil ?_
        intro u3 hb2 v17 h17 v18 h18 v19 h19
        change wpList _ _ _ [_, _, _] _ _
        obtain ⟨g19, a19, n19, c19, rfl, r19, f19⟩ := h19
        have F2 := F.kept hb2
        have Fp1 := F.text (Nat.le_refl _) f19
        have Fp2 := F2.low' Hd.out F2.h1 F2.hb
        have Fp3 : ∀ it ∈ [txt (.slice a19 n19 c19) T, txt (.slice da dn dc) t.dat], Fp (fun x => x ≠ g9 ∧ (Value.slice ka (4 + 2) kc).ownBlock ≠ some x) u3 it := fun it hit => by
          simp only [List.mem_cons, List.not_mem_nil, or_false] at hit
          rcases hit with rfl | rfl
          · exact Fp1
          · exact Fp2
        clear k1 k24 h17 h18 F Fp1 Fp2
        simp only [Act.put, List.setIfInBounds_toArray, List.set_cons_zero, List.set_cons_succ]
        go_upto_region 11 with (refine wpList_appB (o := ⟨some 50, _, _, _, _, _⟩) (by rfl) (.tmp 41) (.tmp 49) 154 (by rfl) elItem (by intro u hu; simp [txt, icells] at hu; rcases hu with rfl | rfl | rfl | rfl | rfl | rfl <;> rfl) (by rfl) F2.hO (by rfl) r19 (Nat.le_trans F2.h2 (Nat.le_of_lt F2.hm.lt)) (by rw [Hpl.out]; simp) (by rw [Hpl.out]; unfold maxLen; simp) ?_; intro v5 w5 hO5 gg5 pp5; obtain ⟨a5, c5, rfl, _⟩ := hO5.form' 8 (by rw [List.length_append, Hpl.out]; rfl); have F5 := F2.growL Fp3 gg5 hO5 pp5; have hne5 := F2.hn; obtain ⟨y5, hy5⟩ := (F2.hm.grown gg5 hne5).has 2 (by simp); have hf5 := (F2.hm.grown gg5 hne5).free 2)
        have e5 := txts_two ps (.slice a19 n19 c19, T) (.slice da dn dc, t.dat)
        dsimp only at e5
        rw [← e5] at F5
        have hps : (ps ++ [(Value.slice a19 n19 c19, T), (Value.slice da dn dc, t.dat)]).map (·.2) = xTs t := by
          rw [List.map_append, Hps.out, Hnext.out]; rfl
        obtain ⟨PS, hPS⟩ : ∃ P, P = ps ++ [(Value.slice a19 n19 c19, T), (Value.slice da dn dc, t.dat)] := ⟨_, rfl⟩
        rw [← hPS] at F5 hps
        obtain ⟨w6, hw6⟩ : ∃ x, x = w5.setCell ⟨g9, 2, none⟩ (.slice a5 8 c5) := ⟨_, rfl⟩
        rw [← hw6] at F5
        try rw [← hw6]
        have hI := F5.is
        have hbk : bulkI (lst (.slice a5 8 c5) (txts PS)) ≤ 1049000 := by
          rw [bulk_lst, bulkL_txts]
          have e1 : PS.map (fun p => 1 + p.2.length) = (xTs t).map (fun x => 1 + x.length) := by
            have := congrArg (List.map (fun t : List UInt8 => 1 + t.length)) hps
            simp only [List.map_map] at this
            exact this
          rw [e1]
          have := xTs_short K.out
          omega
        have hE : encI (lst (.slice a5 8 c5) (txts PS)) = wX t := by rw [encI_lst_txts, hps]; rfl
        have Enc : Hid (Calls Try.prog 98 #[.agg #[.bool true, .slice none 0 0, .slice a5 8 c5]] w6 (PEncPost (lst (.slice a5 8 c5) (txts PS)) w6)) := Lib.hid (pencode_any 1049000 (lst (.slice a5 8 c5) (txts PS)) w6 hbk (by omega) hI)
        have HE := Lib.hid hE
        have z9 := F5.hm
        have bb6 := F5.hb
        clear hI hbk hE hps hPS e5 Fp3 F2 hy5 hf5 hw6 F5
        go_wp2_with (first
          | ((with_reducible show wpList _ _ _ (⟨some 52, _, _, _, _, _⟩ :: _) _ _); refine wpList_loadA (o := ⟨some 52, _, _, _, _, _⟩) (by rfl) 156 (.tmp 4) (by rfl) g9 (by rfl) aggItem z9 (by rfl) ?_)
          | (go_at_call 98; refine Enc.out.mono ?_; rintro e w7 ⟨v7, rfl, o7, b7⟩))
        go_ret
        exact ⟨v7, rfl, by rw [← HE.out]; exact o7, Below.then bb6 b7⟩
end Go.Proofs.Ytnhbfnegpjkojaa
