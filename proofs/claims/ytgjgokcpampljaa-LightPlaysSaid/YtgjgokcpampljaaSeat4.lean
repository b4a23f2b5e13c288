/- seats.Sum and the text that the reference makes of seats. -/
import Derived.Test.YtgjgokcpampljaaKids
import Derived.Test.YtgjgokcpampljaaSeatA
import Derived.Test.YtgjgokcpampljaaSumA
set_option linter.unusedSimpArgs false
set_option linter.unusedVariables false
namespace Go.Proofs.Ytgjgokcpampljaa
open Go.RowKit
/-- the text of a list of numbers -/
def seatB (l : List Nat) : List UInt8 := lsB (l.map numB)
theorem bulk_nums (ps : List (Value × List UInt8)) (l : List Nat) (h : ps.map (·.2) = l.map numB) (hl : ∀ x ∈ l, x < 18446744073709551616) : bulkL (txts ps) ≤ 9 * l.length := by
  rw [bulkL_txts]
  have e : ps.map (fun p => 1 + p.2.length) = l.map (fun x => 1 + (numB x).length) := by
    have := congrArg (List.map (fun t : List UInt8 => 1 + t.length)) h
    simp only [List.map_map] at this
    exact this
  rw [e]
  clear e h
  induction l with
  | nil => simp
  | cons x l ih =>
    have h1 := numB_8 x (hl x List.mem_cons_self)
    have h2 := ih (fun y hy => hl y (List.mem_cons_of_mem _ hy))
    simp only [List.map_cons, List.sum_cons, List.length_cons]
    omega
theorem txts_snoc (ps : List (Value × List UInt8)) (p : Value × List UInt8) : txts (ps ++ [p]) = txts ps ++ [txt p.1 p.2] := by unfold txts; rw [List.map_append]; rfl
set_option maxHeartbeats 2000000 in
set_option maxRecDepth 100000 in
theorem seatSum_any (a : Option Addr) (n c : Nat) (l : List Nat) (hn : l.length = n) (hs : n ≤ 1048576) (hl : ∀ x ∈ l, x < 18446744073709551616) (w : World) (h : RowOf u64c 1 w (.slice a n c) l) : Calls Try.prog 78 #[.slice a n c] w fun e w' => e = .returned (.agg ((sumB (seatB l)).map u8v).toArray) ∧ Below w.heap.size w w' := by
  have Hn := Lib.hid hn
  have Hlt8 := Lib.hid hl
  obtain ⟨Bs, hBs⟩ : ∃ Bs, Bs = seatB l := ⟨_, rfl⟩
  rw [← hBs]
  have HBs := Lib.hid hBs
  clear hBs
  have hz0 : Blk 23 (w.alloc (.cells z32.toArray 23)) w.heap.size z32 := Blk.new w _ _
  have hbel0 : Below w.heap.size w (w.alloc (.cells z32.toArray 23)) := (Below.refl _ _).alloc (Nat.le_refl _) _
  have hlt0 := hz0.lt
  clear hn hl
  go_enter Try.func78, Try.ntmps78
  go_wp2_with (first
    | (go_at_call 95; refine (list_any none 0 0 _).mono ?_; rintro e w2 ⟨rfl, b2⟩; have hz2 := hz0.kept b2; have hbel2 := Below.then hbel0 b2; have hs2 := b2.size; have hs2' : w.heap.size < w2.heap.size := Nat.lt_of_lt_of_le hlt0 hs2)
    | ((with_reducible show wpList _ _ _ (⟨none, Op.store _ _ (Operand.tmp 6), _, _, _, _⟩ :: _) _ _); refine wpList_storeA (o := ⟨none, _, _, _, _, _⟩) (by rfl) 155 (.tmp 3) (.tmp 6) (by rfl) w2.heap.size [.bool true, .slice none 0 0, .slice none 0 0] (by rfl) (by rfl) aggItem (Blk.new w2 155 [.bool false, .slice none 0 0, .slice none 0 0]) (by rfl) (by rfl) (by intro u hu; simp at hu; rcases hu with rfl | rfl <;> rfl) (hbel2.alloc (by omega) (.cells #[.bool false, .slice none 0 0, .slice none 0 0] 155)) (by omega) ?_; intro w8 hm8 hbel8 g8; have hz8 := (hz2.alloc (.cells #[.bool false, .slice none 0 0, .slice none 0 0] 155)).grown g8 (by simp <;> omega)))
  have F8 : LkW w [(23, w.heap.size, z32)] w2.heap.size (.slice none 0 0) (txts []) w8 := ⟨hbel8, fun p hp => by rw [List.mem_singleton] at hp; subst hp; exact ⟨hz8, by show w.heap.size < w2.heap.size; omega⟩, hm8, OwnOf.nil icells 3 _ _ _, by simp [txts], by omega⟩
  obtain ⟨g9, hg9⟩ : ∃ g9, g9 = w2.heap.size := ⟨_, rfl⟩
  rw [← hg9] at F8
  rw [← hg9]
  clear hz0 hbel0 hlt0 b2 hz2 hbel2 hs2 hs2' hm8 hbel8 g8 hz8 hg9
  try simp only [Act.put]
  go_loopw [9] (fun ix wr => ∃ (k : Nat) (kv : Value) (ps : List (Value × List UInt8)), k ≤ n ∧ ix = .int .i64 (k : Int) ∧ LkW w [(23, w.heap.size, z32)] g9 kv (txts ps) wr ∧ Hid (ps.map (·.2) = (l.take k).map numB)) (fun ix _ => n - (intOf ix).toNat)
  case atStart => exact ⟨0, .slice none 0 0, [], by omega, rfl, F8, Lib.hid rfl⟩
  case round =>
    clear F8
    obtain ⟨k, kv, ps, hk, rfl, F, Hps⟩ := hrel
    have hpl : (txts ps).length = k := by
      have := congrArg List.length Hps.out
      simpa [txts, List.length_take, Nat.min_eq_left (show k ≤ l.length by rw [Hn.out]; exact hk)] using this
    obtain ⟨ka, kc, rfl, _⟩ := F.hO.form' k hpl
    have Hpl := Lib.hid hpl
    clear hpl
    by_cases hlt : k < n
    · have hki : (k : Int) < (n : Int) := by omega
      obtain ⟨b, off, rfl, hc⟩ := u64_at (h.below F.hb) k (by rw [Hn.out]; exact hlt)
      obtain ⟨x, hx⟩ : ∃ x, x = gv l k := ⟨_, rfl⟩
      rw [← hx] at hc
      have hx64 : x < 18446744073709551616 := by
        rw [hx]; unfold gv; rw [List.getElem?_eq_getElem (by rw [Hn.out]; exact hlt)]; exact Hlt8.out _ (List.getElem_mem _)
      have hnext : (l.take (k + 1)).map numB = (l.take k).map numB ++ [numB x] := by
        rw [List.take_succ_eq_append_getElem (by rw [Hn.out]; exact hlt), List.map_append, hx]
        unfold gv
        rw [List.getElem?_eq_getElem (by rw [Hn.out]; exact hlt)]; rfl
      have Hnext := Lib.hid hnext
      obtain ⟨T, hT⟩ : ∃ T, T = numB x := ⟨_, rfl⟩
      have ci : ∀ u : World, Calls Try.prog 159 #[.int .u64 (x : Int)] u _ := fun u => int_any x hx64 u
      change ∀ u : World, Calls Try.prog 159 #[.int .u64 (x : Int)] u (fun e w' => e = .returned (.agg (wcs x).toArray) ∧ Below u.heap.size u w') at ci
      have cn : ∀ u : World, Calls Try.prog 99 #[.agg (wcs x).toArray] u _ := fun u => num_any x u
      rw [← hT] at cn
      rw [← hT] at Hnext
      have k1 := fun u : Ext wr => u.cell ((F.hm.cell 2).trans (show _ = some (Value.slice ka k kc) from rfl))
      have Ci := Lib.hid ci
      have Cn := Lib.hid cn
      clear hx hnext hT ci cn hx64
      go_wp2_with fail
      refine wp_region_typed wr 7 (by kernel_rfl) (by kernel_rfl) (Below.refl _ _) ?_; simp only [List.take_succ_cons, List.take_zero, List.take_nil]
      iterate 3 (refine wpX_step (by rfl) (fun K hK => ?_); go_simp; first | (refine hK _ ?_; clear hK K) | (apply Exists.intro; refine ⟨fun _ => ?_, hK _ ?_⟩; fail; clear hK K))
      (refine wpX_step (by rfl) (fun K hK => ?_); go_simp; first | (refine hK _ ?_; clear hK K) | (apply Exists.intro; refine ⟨fun _ => ?_, hK _ ?_⟩; exact Ci.out _; clear hK K))
      refine wpX_rel 17 (TxB wr.heap.size T) rfl (of_decide_eq_true rfl) (TxB.mono _ _) (fun w2 hw2 => ?_) ?_
      · simp only [relOf, List.filter_nil, forallRel]
        refine ⟨rfl, ?_⟩
        go_simp
        refine (Cn.out w2).mono ?_
        rintro e w3 ⟨v, rfl, o3, b3⟩
        exact ⟨v, rfl, TxB.own (o3.lower hw2.size), b3⟩
      refine wpX_rel 18 (TxtO wr.heap.size T) rfl (of_decide_eq_true rfl) (TxtO.mono _ _) (fun w2 hw2 => ?_) ?_
      · change forallRel w2 [(17, _)] _ _
        intro v17 h17
        obtain ⟨a17, c17, rfl, _⟩ := h17.1.form
        simp only [forallRel]
        refine ⟨rfl, ?_⟩
        go_simp
        refine (text_any _ _ _ _).mono ?_
        rintro e w3 ⟨rfl, b3⟩
        exact ⟨_, rfl, ⟨a17, _, c17, rfl, TxB.mono _ _ _ _ _ h17 b3⟩, b3⟩
      refine wpX_rel 19 (OneO wr.heap.size T) rfl (of_decide_eq_true rfl) (OneO.mono _ _) (fun w2 hw2 => ?_) ?_
      · change forallRel w2 [(18, _)] _ _
        rintro v18 ⟨a18, n18, c18, rfl, h18⟩
        simp only [forallRel]
        refine ⟨rfl, ?_⟩
        go_simp
        have hb18 : Below w2.heap.size w2 (w2.alloc (.cells #[.bool false, .slice a18 n18 c18, .slice none 0 0] 155)) := (Below.refl _ _).alloc (Nat.le_refl _) _
        exact ⟨hb18, w2.heap.size, a18, n18, c18, rfl, Row.built icells_len w2 155 [txt (.slice a18 n18 c18) T] 1 rfl (by unfold maxLen; omega), TxB.mono _ _ _ _ _ h18 hb18⟩
      refine wpX_nil ?_
      intro u2 hb2 v17 h17 v18 h18 v19 h19
      change wpList _ _ _ [_, _, _] _ _
      obtain ⟨g19, a19, n19, c19, rfl, r19, f19⟩ := h19
      have F2 := F.kept hb2
      have Fp2 := F.text (Nat.le_refl _) f19
      have Fp2' : Fp (fun x => g9 + 1 ≤ x ∧ (Value.slice ka k kc).ownBlock ≠ some x) u2 (txt (.slice a19 n19 c19) T) := Fp2
      clear k1 h17 h18 F
      go_wp2_with (refine wpList_appB (o := ⟨some 20, _, _, _, _, _⟩) (by rfl) (.tmp 14) (.tmp 19) 153 (by rfl) elItem (by intro u hu; simp [txt, icells] at hu; rcases hu with rfl | rfl | rfl <;> rfl) (by rfl) F2.hO (by rfl) r19 F2.hm.lt (by rw [Hpl.out]; simp; omega) (by rw [Hpl.out]; unfold maxLen; simp; omega) ?_; intro v5 w5 hO5 gg5 pp5; obtain ⟨a5, c5, rfl, _⟩ := hO5.form' (k + 1) (by rw [List.length_append, Hpl.out]; rfl); have F5 := F2.grew Fp2' gg5 hO5 pp5; have hne5 : (Value.slice ka k kc).ownBlock ≠ some g9 := fun e => (by have := F2.hO.lt g9 e; omega); obtain ⟨y5, hy5⟩ := (F2.hm.grown gg5 hne5).has 2 (by simp); have hf5 := (F2.hm.grown gg5 hne5).free 2)
      rw [← txts_snoc ps (.slice a19 n19 c19, T)] at F5
      go_roundw
      case rel => exact ⟨k + 1, .slice a5 (k + 1) c5, ps ++ [(.slice a19 n19 c19, T)], by omega, by go_num, F5, Lib.hid (by rw [List.map_append, Hps.out, Hnext.out]; rfl)⟩
      case measure => simp [intOf]; omega
    · obtain rfl : k = n := by omega
      have hps : ps.map (·.2) = l.map numB := by rw [Hps.out, List.take_of_length_le (by rw [Hn.out]; exact Nat.le_refl _)]
      have hI := F.is
      have hbk := bulk_nums ps l hps Hlt8.out
      rw [Hn.out] at hbk
      have hE : encI (lst (.slice ka k kc) (txts ps)) = seatB l := by rw [encI_lst_txts, hps]; rfl
      have hz := (F.hz _ List.mem_cons_self).1
      have enc := fun u hb => encode_any (9 * k + 1) (lst (.slice ka k kc) (txts ps)) u (by rw [bulk_lst]; omega) (by omega) (hI.kept hb)
      unfold EncPost at enc
      rw [hE] at enc
      have enc' : ∀ u, Below wr.heap.size wr u → Calls Try.prog 94 #[.agg #[.bool true, .slice none 0 0, .slice ka k kc]] u _ := enc
      rw [← HBs.out] at enc'
      have hS32 := scs_len Bs
      have Enc := Lib.hid enc'
      clear enc enc' hE hI hbk hps
      go_wp2_with (first
        | (refine wpList_loadA (o := ⟨some 23, _, _, _, _, _⟩) (by rfl) 155 (.tmp 3) (by rfl) g9 (by rfl) aggItem F.hm (by rfl) ?_)
        | (go_at_call 94; refine (Enc.out _ (Below.refl _ _)).mono ?_; rintro e w3 ⟨v3, rfl, o3, b3⟩; obtain ⟨a3, c3, rfl, _⟩ := o3.form; have hz3 := hz.kept b3; have hbel3 := Below.then F.hb b3)
        | (go_at_call 105; refine (sum_any a3 _ c3 Bs rfl _ o3.row).mono ?_; rintro e w4 ⟨rfl, b4⟩; have hz4 := hz3.kept b4; have hbel4 := Below.then hbel3 b4)
        | ((with_reducible show wpList _ _ _ (⟨none, Op.store _ _ (Operand.tmp 25), _, _, _, _⟩ :: _) _ _); refine wpList_storeA (o := ⟨none, _, _, _, _, _⟩) (by rfl) 23 (.tmp 2) (.tmp 25) (by rfl) w.heap.size (scs Bs) (by rfl) (by rfl) aggHash hz4 hS32 (by rfl) (scs_one _) hbel4 (Nat.le_refl _) ?_; intro w5 hh5 hbel5 _))
      exact bodyPost_ret (results_blk rfl _ _ w.heap.size aggHash hh5 hS32 rfl) rfl ⟨rfl, hbel5⟩
set_option maxHeartbeats 2000000 in
set_option maxRecDepth 100000 in
theorem vtext_any (a : Option Addr) (n c : Nat) (l : List Nat) (hn : l.length = n) (hs : n ≤ 1048576) (hl : ∀ x ∈ l, x < 18446744073709551616) (w : World) (h : RowOf u64c 1 w (.slice a n c) l) : Calls Try.prog 83 #[.slice a n c] w fun e w' => ∃ v, e = .returned v ∧ Bytes w' v (seatB l) ∧ Below w.heap.size w w' := by
  have Hn := Lib.hid hn
  have Hlt8 := Lib.hid hl
  clear hn hl
  go_enter Try.func83, Try.ntmps83
  go_wp2_with (first
    | (go_at_call 100; refine (plist_any none 0 0 _).mono ?_; rintro e w2 ⟨rfl, b2⟩; have hs2 := b2.size)
    | ((with_reducible show wpList _ _ _ (⟨none, Op.store _ _ (Operand.tmp 6), _, _, _, _⟩ :: _) _ _); refine wpList_storeA (o := ⟨none, _, _, _, _, _⟩) (by rfl) 155 (.tmp 3) (.tmp 6) (by rfl) w2.heap.size [.bool true, .slice none 0 0, .slice none 0 0] (by rfl) (by rfl) aggItem (Blk.new w2 155 [.bool false, .slice none 0 0, .slice none 0 0]) (by rfl) (by rfl) (by intro u hu; simp at hu; rcases hu with rfl | rfl <;> rfl) (b2.alloc (by omega) (.cells #[.bool false, .slice none 0 0, .slice none 0 0] 155)) (by omega) ?_; intro w8 hm8 hbel8 g8))
  have F8 : LkW w [] w2.heap.size (.slice none 0 0) (txts []) w8 := ⟨hbel8, by simp, hm8, OwnOf.nil icells 3 _ _ _, by simp [txts], by omega⟩
  obtain ⟨g9, hg9⟩ : ∃ g9, g9 = w2.heap.size := ⟨_, rfl⟩
  rw [← hg9] at F8
  rw [← hg9]
  clear b2 hs2 hm8 hbel8 g8 hg9
  try simp only [Act.put]
  go_loopw [9] (fun ix wr => ∃ (k : Nat) (kv : Value) (ps : List (Value × List UInt8)), k ≤ n ∧ ix = .int .i64 (k : Int) ∧ LkW w [] g9 kv (txts ps) wr ∧ Hid (ps.map (·.2) = (l.take k).map numB)) (fun ix _ => n - (intOf ix).toNat)
  case atStart => exact ⟨0, .slice none 0 0, [], by omega, rfl, F8, Lib.hid rfl⟩
  case round =>
    clear F8
    obtain ⟨k, kv, ps, hk, rfl, F, Hps⟩ := hrel
    have hpl : (txts ps).length = k := by
      have := congrArg List.length Hps.out
      simpa [txts, List.length_take, Nat.min_eq_left (show k ≤ l.length by rw [Hn.out]; exact hk)] using this
    obtain ⟨ka, kc, rfl, _⟩ := F.hO.form' k hpl
    have Hpl := Lib.hid hpl
    clear hpl
    by_cases hlt : k < n
    · have hki : (k : Int) < (n : Int) := by omega
      obtain ⟨b, off, rfl, hc⟩ := u64_at (h.below F.hb) k (by rw [Hn.out]; exact hlt)
      obtain ⟨x, hx⟩ : ∃ x, x = gv l k := ⟨_, rfl⟩
      rw [← hx] at hc
      have hx64 : x < 18446744073709551616 := by
        rw [hx]; unfold gv; rw [List.getElem?_eq_getElem (by rw [Hn.out]; exact hlt)]; exact Hlt8.out _ (List.getElem_mem _)
      have hnext : (l.take (k + 1)).map numB = (l.take k).map numB ++ [numB x] := by
        rw [List.take_succ_eq_append_getElem (by rw [Hn.out]; exact hlt), List.map_append, hx]
        unfold gv
        rw [List.getElem?_eq_getElem (by rw [Hn.out]; exact hlt)]; rfl
      have Hnext := Lib.hid hnext
      obtain ⟨T, hT⟩ : ∃ T, T = numB x := ⟨_, rfl⟩
      have ci : ∀ u : World, Calls Try.prog 103 #[.int .u64 (x : Int)] u _ := fun u => wint_any x hx64 u
      change ∀ u : World, Calls Try.prog 103 #[.int .u64 (x : Int)] u (fun e w' => e = .returned (.agg (wcs x).toArray) ∧ Below u.heap.size u w') at ci
      have cn : ∀ u : World, Calls Try.prog 102 #[.agg (wcs x).toArray] u _ := fun u => pnum_fr x u
      rw [← hT] at cn
      rw [← hT] at Hnext
      have k1 := fun u : Ext wr => u.cell ((F.hm.cell 2).trans (show _ = some (Value.slice ka k kc) from rfl))
      have Ci := Lib.hid ci
      have Cn := Lib.hid cn
      clear hx hnext hT ci cn hx64
      go_wp2_with fail
      refine wp_region_typed wr 7 (by kernel_rfl) (by kernel_rfl) (Below.refl _ _) ?_; simp only [List.take_succ_cons, List.take_zero, List.take_nil]
      iterate 3 (refine wpX_step (by rfl) (fun K hK => ?_); go_simp; first | (refine hK _ ?_; clear hK K) | (apply Exists.intro; refine ⟨fun _ => ?_, hK _ ?_⟩; fail; clear hK K))
      (refine wpX_step (by rfl) (fun K hK => ?_); go_simp; first | (refine hK _ ?_; clear hK K) | (apply Exists.intro; refine ⟨fun _ => ?_, hK _ ?_⟩; exact Ci.out _; clear hK K))
      refine wpX_rel 17 (TxB wr.heap.size T) rfl (of_decide_eq_true rfl) (TxB.mono _ _) (fun w2 hw2 => ?_) ?_
      · simp only [relOf, List.filter_nil, forallRel]
        refine ⟨rfl, ?_⟩
        go_simp
        refine (Cn.out w2).mono ?_
        rintro e w3 ⟨v, rfl, o3, b3⟩
        exact ⟨v, rfl, o3.lower hw2.size, b3⟩
      refine wpX_rel 18 (TxtO wr.heap.size T) rfl (of_decide_eq_true rfl) (TxtO.mono _ _) (fun w2 hw2 => ?_) ?_
      · change forallRel w2 [(17, _)] _ _
        intro v17 h17
        obtain ⟨a17, c17, rfl, _⟩ := h17.1.form
        simp only [forallRel]
        refine ⟨rfl, ?_⟩
        go_simp
        refine (ptext_any _ _ _ _).mono ?_
        rintro e w3 ⟨rfl, b3⟩
        exact ⟨_, rfl, ⟨a17, _, c17, rfl, TxB.mono _ _ _ _ _ h17 b3⟩, b3⟩
      refine wpX_rel 19 (OneO wr.heap.size T) rfl (of_decide_eq_true rfl) (OneO.mono _ _) (fun w2 hw2 => ?_) ?_
      · change forallRel w2 [(18, _)] _ _
        rintro v18 ⟨a18, n18, c18, rfl, h18⟩
        simp only [forallRel]
        refine ⟨rfl, ?_⟩
        go_simp
        have hb18 : Below w2.heap.size w2 (w2.alloc (.cells #[.bool false, .slice a18 n18 c18, .slice none 0 0] 155)) := (Below.refl _ _).alloc (Nat.le_refl _) _
        exact ⟨hb18, w2.heap.size, a18, n18, c18, rfl, Row.built icells_len w2 155 [txt (.slice a18 n18 c18) T] 1 rfl (by unfold maxLen; omega), TxB.mono _ _ _ _ _ h18 hb18⟩
      refine wpX_nil ?_
      intro u2 hb2 v17 h17 v18 h18 v19 h19
      change wpList _ _ _ [_, _, _] _ _
      obtain ⟨g19, a19, n19, c19, rfl, r19, f19⟩ := h19
      have F2 := F.kept hb2
      have Fp2 := F.text (Nat.le_refl _) f19
      have Fp2' : Fp (fun x => g9 + 1 ≤ x ∧ (Value.slice ka k kc).ownBlock ≠ some x) u2 (txt (.slice a19 n19 c19) T) := Fp2
      clear k1 h17 h18 F
      go_wp2_with (refine wpList_appB (o := ⟨some 20, _, _, _, _, _⟩) (by rfl) (.tmp 14) (.tmp 19) 153 (by rfl) elItem (by intro u hu; simp [txt, icells] at hu; rcases hu with rfl | rfl | rfl <;> rfl) (by rfl) F2.hO (by rfl) r19 F2.hm.lt (by rw [Hpl.out]; simp; omega) (by rw [Hpl.out]; unfold maxLen; simp; omega) ?_; intro v5 w5 hO5 gg5 pp5; obtain ⟨a5, c5, rfl, _⟩ := hO5.form' (k + 1) (by rw [List.length_append, Hpl.out]; rfl); have F5 := F2.grew Fp2' gg5 hO5 pp5; have hne5 : (Value.slice ka k kc).ownBlock ≠ some g9 := fun e => (by have := F2.hO.lt g9 e; omega); obtain ⟨y5, hy5⟩ := (F2.hm.grown gg5 hne5).has 2 (by simp); have hf5 := (F2.hm.grown gg5 hne5).free 2)
      rw [← txts_snoc ps (.slice a19 n19 c19, T)] at F5
      go_roundw
      case rel => exact ⟨k + 1, .slice a5 (k + 1) c5, ps ++ [(.slice a19 n19 c19, T)], by omega, by go_num, F5, Lib.hid (by rw [List.map_append, Hps.out, Hnext.out]; rfl)⟩
      case measure => simp [intOf]; omega
    · obtain rfl : k = n := by omega
      have hps : ps.map (·.2) = l.map numB := by rw [Hps.out, List.take_of_length_le (by rw [Hn.out]; exact Nat.le_refl _)]
      have hI := F.is
      have hbk := bulk_nums ps l hps Hlt8.out
      rw [Hn.out] at hbk
      have hE : encI (lst (.slice ka k kc) (txts ps)) = seatB l := by rw [encI_lst_txts, hps]; rfl
      have enc := fun u hb => pencode_any (9 * k + 1) (lst (.slice ka k kc) (txts ps)) u (by rw [bulk_lst]; omega) (by omega) (hI.kept hb)
      unfold PEncPost at enc
      rw [hE] at enc
      have enc' : ∀ u, Below wr.heap.size wr u → Calls Try.prog 104 #[.agg #[.bool true, .slice none 0 0, .slice ka k kc]] u _ := enc
      have Enc := Lib.hid enc'
      clear enc enc' hE hI hbk hps
      go_wp2_with (first
        | (refine wpList_loadA (o := ⟨some 23, _, _, _, _, _⟩) (by rfl) 155 (.tmp 3) (by rfl) g9 (by rfl) aggItem F.hm (by rfl) ?_)
        | (go_at_call 104; refine (Enc.out _ (Below.refl _ _)).mono ?_; rintro e w3 ⟨v3, rfl, o3, b3⟩; have hbel3 := Below.then F.hb b3))
      go_ret
      exact ⟨_, rfl, o3, hbel3⟩
end Go.Proofs.Ytgjgokcpampljaa
