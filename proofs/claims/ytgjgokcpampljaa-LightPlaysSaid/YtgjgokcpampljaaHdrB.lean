/- block.Write: the walk. | The reference's BWrite. | block.Sum and the reference's BSum. -/
import Derived.Test.YtgjgokcpampljaaHdrA
import Derived.Test.YtgjgokcpampljaaHash
import Derived.Test.YtgjgokcpampljaaSeatA
/- (Hdr4) block.Write: the walk. -/
set_option linter.unusedSimpArgs false
set_option linter.unusedVariables false
namespace Go.Proofs.Ytgjgokcpampljaa
open Go.RowKit
theorem hTs_one (h : Hd) : (hTs h).take 1 = [h.par] := rfl
theorem hTs_all (h : Hd) : (hTs h).take 11 = hTs h := rfl
theorem bulk_hTs {h : Hd} (k : h.Ok) (ps : List (Value × List UInt8)) (e : ps.map (·.2) = hTs h) : bulkL (txts ps) ≤ 363 := by
  rw [bulkL_txts]
  have e1 : ps.map (fun p => 1 + p.2.length) = (hTs h).map (fun x => 1 + x.length) := by
    have := congrArg (List.map (fun t : List UInt8 => 1 + t.length)) e
    simp only [List.map_map] at this
    exact this
  rw [e1]
  have h1 := hTs_short k
  have : ∀ l : List (List UInt8), (∀ t ∈ l, t.length ≤ 32) → (l.map fun x => 1 + x.length).sum ≤ 33 * l.length := by
    intro l
    induction l with
    | nil => simp
    | cons x l ih =>
      intro hl
      have a1 := hl x List.mem_cons_self
      have a2 := ih (fun y hy => hl y (List.mem_cons_of_mem _ hy))
      simp only [List.map_cons, List.sum_cons, List.length_cons]
      omega
  exact this _ h1
theorem txts_snoc' (ps : List (Value × List UInt8)) (p : Value × List UInt8) : txts (ps ++ [p]) = txts ps ++ [txt p.1 p.2] := by unfold txts; rw [List.map_append]; rfl
/-- a list of one item -/
def OneC (v : Value) (t : List UInt8) : Ty := fun u w => ∃ g, u = .slice (some ⟨g, 0, none⟩) 1 1 ∧ RowOf icells 3 w u [txt v t]
theorem OneC.mono (v : Value) (t : List UInt8) : Mono (OneC v t) := fun _ _ _ ⟨g, h1, h2⟩ hb => ⟨g, h1, RowOf.kept h2 hb⟩
set_option maxHeartbeats 2000000 in
set_option maxRecDepth 100000 in
theorem hwrite_any (h : Hd) (k : h.Ok) (w : World) : Calls Try.prog 158 #[.agg (hdcs h).toArray] w fun e w' => ∃ v, e = .returned v ∧ OwnOf b8 1 5 w' w.heap.size v (wH h) ∧ Below w.heap.size w w' := by
  have K := Lib.hid k
  have hlen := hdcs_len k
  have hz0 : Blk 28 (w.alloc (.cells (hdcs h).toArray 28)) w.heap.size (hdcs h) := Blk.new w _ _
  have hbel0 : Below w.heap.size w (w.alloc (.cells (hdcs h).toArray 28)) := (Below.refl _ _).alloc (Nat.le_refl _) _
  have hlt0 := hz0.lt
  have s32 := fun off u => sl32 w.heap.size off u
  have s8 := fun off u => sl8 w.heap.size off u
  clear k
  go_enter Try.func158, Try.ntmps158
  go_wp2_with (first
    | (go_at_call 96; refine (text_any _ _ _ _).mono ?_; rintro e w1 ⟨rfl, b1⟩; have hz1 := hz0.kept b1; have hbel1 := Below.then hbel0 b1; have hl1 := Nat.lt_of_lt_of_le hlt0 b1.size)
    | (go_at_call 95; refine (list_any _ _ _ _).mono ?_; rintro e w2 ⟨rfl, b2⟩; have hz2 := (hz1.alloc _).kept b2; have hone := (Row.built icells_len w1 155 [txt (.slice (some ⟨w.heap.size, 0, none⟩) 32 32) h.par] 1 rfl (by unfold maxLen; omega)).below b2; have hown := (Blk.own (f := icells) (size := 3) (l := [txt (.slice (some ⟨w.heap.size, 0, none⟩) 32 32) h.par]) ((Blk.new w1 155 _).kept b2) 1 icells_len rfl (Nat.le_refl _) (by unfold maxLen; omega)); have hbel2 := Below.then (hbel1.alloc (Nat.le_of_lt hl1) _) b2; have hl2 : w1.heap.size < w2.heap.size := Nat.lt_of_lt_of_le (by simp) b2.size)
    | ((with_reducible show wpList _ _ _ (⟨none, Op.store _ _ (Operand.tmp 12), _, _, _, _⟩ :: _) _ _); refine wpList_storeA (o := ⟨none, _, _, _, _, _⟩) (by rfl) 155 (.tmp 3) (.tmp 12) (by rfl) w2.heap.size [.bool true, .slice none 0 0, .slice (some ⟨w1.heap.size, 0, none⟩) 1 1] (by rfl) (by rfl) aggItem (Blk.new w2 155 [.bool false, .slice none 0 0, .slice none 0 0]) (by rfl) (by rfl) (by intro u hu; simp at hu; rcases hu with rfl | rfl | rfl <;> rfl) (hbel2.alloc (by omega) (.cells #[.bool false, .slice none 0 0, .slice none 0 0] 155)) (by omega) ?_; intro w8 hm8 hbel8 g8; have hz8 := (hz2.alloc (.cells #[.bool false, .slice none 0 0, .slice none 0 0] 155)).grown g8 (by intro e; injection e; omega); have hown8 := (hown.alloc (.cells #[.bool false, .slice none 0 0, .slice none 0 0] 155)).grown g8 (fun k hk e => by cases hk; have e2 : some w1.heap.size = some _ := e; injection e2; omega); have i1 := (hz8.cell 32).trans (hdcs_num K.out); have i2 := (hz8.cell 33).trans (hdcs_tim K.out); have i3 := (hz8.cell 42).trans (hdcs_lim K.out); have i4 := (hz8.cell 43).trans (hdcs_use K.out); unfold u64v at i1 i2 i3 i4))
  have F8 : LkV w [(28, w.heap.size, hdcs h)] w1.heap.size w2.heap.size (.slice (some ⟨w1.heap.size, 0, none⟩) 1 1) (txts [(.slice (some ⟨w.heap.size, 0, none⟩) 32 32, h.par)]) w8 := by
    refine ⟨hbel8, fun p hp => ?_, hm8, hown8, by simp [Value.ownBlock]; omega, fun x hx => ?_, Nat.le_of_lt hl1, Nat.le_of_lt hl2⟩
    · rw [List.mem_singleton] at hp; subst hp; exact ⟨hz8, hl1⟩
    · simp only [txts, List.map_cons, List.map_nil, List.mem_singleton] at hx
      subst hx
      refine fp_at (hz8.bytesAt 0 32 _ (hdcs_par K.out) K.out.par (by unfold maxLen; omega)) (fun b hb => ?_)
      simp only [Value.ownBlock, Option.some.injEq] at hb
      subst hb
      exact ⟨by omega, by simp [Value.ownBlock]; omega⟩
  obtain ⟨kv0, hkv0⟩ : ∃ x : Value, x = .slice (some ⟨w1.heap.size, 0, none⟩) 1 1 := ⟨_, rfl⟩
  obtain ⟨ps0, hps0⟩ : ∃ x, x = [((.slice (some ⟨w.heap.size, 0, none⟩) 32 32 : Value), h.par)] := ⟨_, rfl⟩
  rw [← hkv0, ← hps0] at F8
  have Hps0 : Hid (ps0.map (·.2) = (hTs h).take (0 + 1)) := Lib.hid (by rw [hps0]; rfl)
  obtain ⟨B, hB⟩ : ∃ B, B = w1.heap.size := ⟨_, rfl⟩
  obtain ⟨g9, hg9⟩ : ∃ g9, g9 = w2.heap.size := ⟨_, rfl⟩
  rw [← hg9, ← hB] at F8
  rw [← hg9]
  clear hz0 hbel0 hlt0 b1 hz1 hbel1 hl1 b2 hz2 hone hown hbel2 hl2 hm8 hbel8 g8 hz8 hown8 i1 i2 i3 i4 hg9 hB hkv0 hps0
  try simp only [Act.put]
  go_loopw [22] (fun ix wr => ∃ (k : Nat) (kv : Value) (ps : List (Value × List UInt8)), k ≤ 4 ∧ ix = .int .i64 (k : Int) ∧ LkV w [(28, w.heap.size, hdcs h)] B g9 kv (txts ps) wr ∧ Hid (ps.map (·.2) = (hTs h).take (k + 1))) (fun ix _ => 4 - (intOf ix).toNat)
  case atStart => exact ⟨0, kv0, ps0, by omega, rfl, F8, Hps0⟩
  case round =>
    clear F8 Hps0
    obtain ⟨k, kv, ps, hk, rfl, F, Hps⟩ := hrel
    have hpl : (txts ps).length = k + 1 := by
      have h1 := congrArg List.length Hps.out
      have h2 : (hTs h).length = 11 := rfl
      simp only [List.length_map, List.length_take, h2] at h1
      unfold txts
      rw [List.length_map]; omega
    obtain ⟨ka, kc, rfl, _⟩ := F.hO.form' (k + 1) hpl
    have Hpl := Lib.hid hpl
    clear hpl
    by_cases hlt : k < 4
    · have hki : (k : Int) < (4 : Int) := by omega
      have hix := fun u => idx4 h.num h.tim h.lim h.use k hlt u
      obtain ⟨x, hx⟩ : ∃ x, x = (hNs h)[k]?.getD 0 := ⟨_, rfl⟩
      change ∀ u, (Instr.index 53 (.agg #[.int .u64 (h.num : Int), .int .u64 (h.tim : Int), .int .u64 (h.lim : Int), .int .u64 (h.use : Int)]) (.int .i64 (k : Int))).run Try.prog u = .ok (.int .u64 (((hNs h)[k]?.getD 0 : Nat) : Int)) u at hix
      have hnext := hTs_ns h k hlt
      have hx64 := hNs_lt K.out k hlt
      rw [← hx] at hix hnext hx64
      have Hnext := Lib.hid hnext
      obtain ⟨T, hT⟩ : ∃ T, T = numB x := ⟨_, rfl⟩
      have ci : ∀ u : World, Calls Try.prog 159 #[.int .u64 (x : Int)] u _ := fun u => int_any x hx64 u
      change ∀ u : World, Calls Try.prog 159 #[.int .u64 (x : Int)] u (fun e w' => e = .returned (.agg (wcs x).toArray) ∧ Below u.heap.size u w') at ci
      have cn : ∀ u : World, Calls Try.prog 99 #[.agg (wcs x).toArray] u _ := fun u => num_any x u
      rw [← hT] at cn
      rw [← hT] at Hnext
      have k1 := fun u : Ext wr => u.cell ((F.hm.cell 2).trans (show _ = some (Value.slice ka (k + 1) kc) from rfl))
      have Ci := Lib.hid ci
      have Cn := Lib.hid cn
      clear hx hnext hT ci cn hx64 s32 s8
      go_wp2_with fail
      refine wp_region_typed wr 7 (by kernel_rfl) (by kernel_rfl) (Below.refl _ _) ?_; simp only [List.take_succ_cons, List.take_zero, List.take_nil]
      iterate 3 (refine wpX_step (by rfl) (fun K hK => ?_); go_simp; first | (refine hK _ ?_; clear hK K) | (apply Exists.intro; refine ⟨fun _ => ?_, hK _ ?_⟩; fail; clear hK K))
      (refine wpX_step (by rfl) (fun K hK => ?_); go_simp; first | (refine hK _ ?_; clear hK K) | (apply Exists.intro; refine ⟨fun _ => ?_, hK _ ?_⟩; exact Ci.out _; clear hK K))
      refine wpX_rel 29 (TxB wr.heap.size T) rfl (of_decide_eq_true rfl) (TxB.mono _ _) (fun w2 hw2 => ?_) ?_
      · simp only [relOf, List.filter_nil, forallRel]
        refine ⟨rfl, ?_⟩
        go_simp
        refine (Cn.out w2).mono ?_
        rintro e w3 ⟨v, rfl, o3, b3⟩
        exact ⟨v, rfl, TxB.own (o3.lower hw2.size), b3⟩
      refine wpX_rel 30 (TxtO wr.heap.size T) rfl (of_decide_eq_true rfl) (TxtO.mono _ _) (fun w2 hw2 => ?_) ?_
      · change forallRel w2 [(29, _)] _ _
        intro v17 h17
        obtain ⟨a17, c17, rfl, _⟩ := h17.1.form
        simp only [forallRel, List.drop_succ_cons, List.drop_zero, List.drop_nil]
        refine ⟨rfl, ?_⟩
        go_simp
        refine (text_any _ _ _ _).mono ?_
        rintro e w3 ⟨rfl, b3⟩
        exact ⟨_, rfl, ⟨a17, _, c17, rfl, TxB.mono _ _ _ _ _ h17 b3⟩, b3⟩
      refine wpX_rel 31 (OneO wr.heap.size T) rfl (of_decide_eq_true rfl) (OneO.mono _ _) (fun w2 hw2 => ?_) ?_
      · change forallRel w2 [(30, _)] _ _
        rintro v18 ⟨a18, n18, c18, rfl, h18⟩
        simp only [forallRel, List.drop_succ_cons, List.drop_zero, List.drop_nil]
        refine ⟨rfl, ?_⟩
        go_simp
        have hb18 : Below w2.heap.size w2 (w2.alloc (.cells #[.bool false, .slice a18 n18 c18, .slice none 0 0] 155)) := (Below.refl _ _).alloc (Nat.le_refl _) _
        exact ⟨hb18, w2.heap.size, a18, n18, c18, rfl, Row.built icells_len w2 155 [txt (.slice a18 n18 c18) T] 1 rfl (by unfold maxLen; omega), TxB.mono _ _ _ _ _ h18 hb18⟩
      refine wpX_nil ?_
      intro u2 hb2 v17 h17 v18 h18 v19 h19
      change wpList _ _ _ [_, _, _] _ _
      obtain ⟨g19, a19, n19, c19, rfl, r19, f19⟩ := h19
      have F2 := F.kept hb2
      have Fp2 := F.text (Nat.le_refl _) f19
      clear k1 h17 h18 F hix
      simp only [Act.put, List.setIfInBounds_toArray, List.set_cons_zero, List.set_cons_succ]
      go_wp2_with (refine wpList_appB (o := ⟨some 32, _, _, _, _, _⟩) (by rfl) (.tmp 26) (.tmp 31) 153 (by rfl) elItem (by intro u hu; simp [txt, icells] at hu; rcases hu with rfl | rfl | rfl <;> rfl) (by rfl) F2.hO (by rfl) r19 (Nat.le_trans F2.h2 (Nat.le_of_lt F2.hm.lt)) (by rw [Hpl.out]; simp; omega) (by rw [Hpl.out]; unfold maxLen; simp; omega) ?_; intro v5 w5 hO5 gg5 pp5; obtain ⟨a5, c5, rfl, _⟩ := hO5.form' (k + 2) (by rw [List.length_append, Hpl.out]; rfl); have F5 := F2.grew Fp2 gg5 hO5 pp5; have hne5 := F2.hn; obtain ⟨y5, hy5⟩ := (F2.hm.grown gg5 hne5).has 2 (by simp); have hf5 := (F2.hm.grown gg5 hne5).free 2)
      rw [← txts_snoc' ps (.slice a19 n19 c19, T)] at F5
      go_roundw
      case rel => exact ⟨k + 1, .slice a5 (k + 2) c5, ps ++ [(.slice a19 n19 c19, T)], by omega, by go_num, F5, Lib.hid (by rw [List.map_append, Hps.out, Hnext.out]; rfl)⟩
      case measure => simp [intOf]; omega
    · obtain rfl : k = 4 := by omega
      go_wp2_with fail
      refine wp_region_typed wr 14 (by kernel_rfl) (by kernel_rfl) (Below.refl _ _) ?_; simp only [List.take_succ_cons, List.take_zero, List.take_nil]
      iterate 14 (refine wpX_step (by rfl) (fun K hK => ?_); go_simp; first | (refine hK _ ?_; clear hK K) | (apply Exists.intro; refine ⟨fun _ => ?_, hK _ ?_⟩; fail; clear hK K))
      refine wpX_nil ?_
      intro u2 hb2
      change forallRel u2 [] _ _
      simp only [forallRel, List.drop_succ_cons, List.drop_zero, List.drop_nil]
      have F2 := F.kept hb2
      clear F s32 s8 hb2
      go_wp2_with fail
      have Hps2 : Hid (ps.map (·.2) = (hTs h).take (0 + 5)) := Hps
      clear Hpl Hps
      go_loopw [48] (fun ix wr => ∃ (k : Nat) (kv : Value) (ps : List (Value × List UInt8)), k ≤ 6 ∧ ix = .int .i64 (k : Int) ∧ LkV w [(28, w.heap.size, hdcs h)] B g9 kv (txts ps) wr ∧ Hid (ps.map (·.2) = (hTs h).take (k + 5))) (fun ix _ => 6 - (intOf ix).toNat)
      case atStart => exact ⟨0, _, ps, by omega, rfl, F2, Hps2⟩
      case round =>
        clear F2 Hps2
        obtain ⟨k, kv, ps, hk, rfl, F, Hps⟩ := hrel
        have hpl : (txts ps).length = k + 5 := by
          have h1 := congrArg List.length Hps.out
          have h2 : (hTs h).length = 11 := rfl
          simp only [List.length_map, List.length_take, h2] at h1
          unfold txts
          rw [List.length_map]; omega
        obtain ⟨ka, kc, rfl, _⟩ := F.hO.form' (k + 5) hpl
        have Hpl := Lib.hid hpl
        clear hpl
        by_cases hlt : k < 6
        · have hki : (k : Int) < (6 : Int) := by omega
          have hix := fun u => idx6 w.heap.size h k hlt u
          have hnext := hTs_six h k hlt
          have hmem : ((hSix h)[k]?.getD (0, 0, [])) ∈ hSix h := by
            rw [List.getElem?_eq_getElem (by show k < 6; exact hlt)]
            exact List.getElem_mem _
          obtain ⟨hbt, hlen⟩ := hSix_bytes K.out (F.hz _ List.mem_cons_self).1 _ hmem
          obtain ⟨p, hp⟩ : ∃ p, p = (hSix h)[k]?.getD (0, 0, []) := ⟨_, rfl⟩
          rw [← hp] at hix hnext hbt hlen
          obtain ⟨off, n, T⟩ := p
          change ∀ u, (Instr.index 334 _ _).run Try.prog u = .ok (.slice (some ⟨w.heap.size, off, none⟩) n n) u at hix
          change Bytes wr (.slice (some ⟨w.heap.size, off, none⟩) n n) T at hbt
          have Hnext := Lib.hid hnext
          have Hbt := Lib.hid hbt
          have k1 := fun u : Ext wr => u.cell ((F.hm.cell 2).trans (show _ = some (Value.slice ka (k + 5) kc) from rfl))
          clear hnext hbt hlen hmem hp
          go_wp2_with fail
          refine wp_region_typed wr 5 (by kernel_rfl) (by kernel_rfl) (Below.refl _ _) ?_; simp only [List.take_succ_cons, List.take_zero, List.take_nil]
          iterate 3 (refine wpX_step (by rfl) (fun K hK => ?_); go_simp; first | (refine hK _ ?_; clear hK K) | (apply Exists.intro; refine ⟨fun _ => ?_, hK _ ?_⟩; fail; clear hK K))
          (refine wpX_step (by rfl) (fun K hK => ?_); go_simp; first | (refine hK _ ?_; clear hK K) | (apply Exists.intro; refine ⟨fun _ => ?_, hK _ ?_⟩; exact text_any _ _ _ _; clear hK K))
          refine wpX_rel 55 (OneC (.slice (some ⟨w.heap.size, off, none⟩) n n) T) rfl (of_decide_eq_true rfl) (OneC.mono _ _) (fun w2 hw2 => ?_) ?_
          · simp only [relOf, List.filter_nil, forallRel]
            refine ⟨rfl, ?_⟩
            go_simp
            have hb18 : Below w2.heap.size w2 (w2.alloc (.cells #[.bool false, .slice (some ⟨w.heap.size, off, none⟩) n n, .slice none 0 0] 155)) := (Below.refl _ _).alloc (Nat.le_refl _) _
            exact ⟨hb18, w2.heap.size, rfl, Row.built icells_len w2 155 [txt (.slice (some ⟨w.heap.size, off, none⟩) n n) T] 1 rfl (by unfold maxLen; omega)⟩
          refine wpX_nil ?_
          intro u2 hb2 v19 h19
          change wpList _ _ _ [_, _, _] _ _
          obtain ⟨g19, rfl, r19⟩ := h19
          have F2 := F.kept hb2
          have Fp2 := F2.low (RowOf.below (f := b8) (size := 1) Hbt.out hb2) (fun b hb => by simp only [Value.ownBlock, Option.some.injEq] at hb; subst hb; exact (F2.hz _ List.mem_cons_self).2)
          clear k1 F hix
          simp only [Act.put, List.setIfInBounds_toArray, List.set_cons_zero, List.set_cons_succ]
          go_wp2_with (refine wpList_appB (o := ⟨some 56, _, _, _, _, _⟩) (by rfl) (.tmp 52) (.tmp 55) 153 (by rfl) elItem (by intro u hu; simp [txt, icells] at hu; rcases hu with rfl | rfl | rfl <;> rfl) (by rfl) F2.hO (by rfl) r19 (Nat.le_trans F2.h2 (Nat.le_of_lt F2.hm.lt)) (by rw [Hpl.out]; simp; omega) (by rw [Hpl.out]; unfold maxLen; simp; omega) ?_; intro v5 w5 hO5 gg5 pp5; obtain ⟨a5, c5, rfl, _⟩ := hO5.form' (k + 6) (by rw [List.length_append, Hpl.out]; rfl); have F5 := F2.grew Fp2 gg5 hO5 pp5; have hne5 := F2.hn; obtain ⟨y5, hy5⟩ := (F2.hm.grown gg5 hne5).has 2 (by simp); have hf5 := (F2.hm.grown gg5 hne5).free 2)
          rw [← txts_snoc' ps (.slice (some ⟨w.heap.size, off, none⟩) n n, T)] at F5
          go_roundw
          case rel => exact ⟨k + 1, .slice a5 (k + 6) c5, ps ++ [(.slice (some ⟨w.heap.size, off, none⟩) n n, T)], by omega, by go_num, F5, Lib.hid (by rw [List.map_append, Hps.out, Hnext.out]; rfl)⟩
          case measure => simp [intOf]; omega
        · obtain rfl : k = 6 := by omega
          have hps : ps.map (·.2) = hTs h := Hps.out
          have hI := F.is
          have hbk := bulk_hTs K.out ps hps
          have hE : encI (lst (.slice ka 11 kc) (txts ps)) = wH h := by rw [encI_lst_txts, hps]; rfl
          have enc := fun u hb => encode_any 364 (lst (.slice ka 11 kc) (txts ps)) u (by rw [bulk_lst]; omega) (by omega) (hI.kept hb)
          unfold EncPost at enc
          rw [hE] at enc
          have enc' : ∀ u, Below wr.heap.size wr u → Calls Try.prog 94 #[.agg #[.bool true, .slice none 0 0, .slice ka 11 kc]] u _ := enc
          have Enc := Lib.hid enc'
          clear enc enc' hE hI hbk hps
          go_wp2_with (first
            | (refine wpList_loadA (o := ⟨some 59, _, _, _, _, _⟩) (by rfl) 155 (.tmp 3) (by rfl) g9 (by rfl) aggItem F.hm (by rfl) ?_)
            | (go_at_call 94; refine (Enc.out _ (Below.refl _ _)).mono ?_; rintro e w3 ⟨v3, rfl, o3, b3⟩; have hbel3 := Below.then F.hb b3; have o33 := o3.lower F.hb.size))
          go_ret
          exact ⟨_, rfl, o33, hbel3⟩
end Go.Proofs.Ytgjgokcpampljaa
/- (Hdr7) The reference's BWrite. -/
namespace Go.Proofs.Ytgjgokcpampljaa
open Go.RowKit
/-- a text that was there before -/
theorem LkV.low' {w : World} {zs : List (TypeId × Nat × List Value)} {B g9 : Nat} {kv : Value} {ks : List Itm} {u w0 : World} {v : Value} {t : List UInt8} (h : LkV w zs B g9 kv ks u) (h0 : Bytes w0 v t) (hB : w0.heap.size ≤ B) (hb : Below w0.heap.size w0 u) : Fp (fun x => x ≠ g9 ∧ kv.ownBlock ≠ some x) u (txt v t) := by
  have h2 := h.h2
  intro u' hu
  refine .mk false v t _ [] (Bytes.onto h0 (fun b h1 hlt => ?_)) (RowOf.nil icells 3 u') (by simp)
  rw [← hb.block b hlt]
  exact hu b ⟨by omega, fun e => by have := h.hO.lt b e; omega⟩ (Nat.lt_of_lt_of_le hlt hb.size)
/-- a list of n texts, one behind the other -/
def TxsN (n : Nat) (ts : List (List UInt8)) : Ty := fun u w => ∃ a c ps, u = .slice a n c ∧ Texts w u ps ∧ ps.map (·.2) = ts
theorem Texts.kept' {w w' : World} {v : Value} {ps : List (Value × List UInt8)} (h : Texts w v ps) (hb : Below w.heap.size w w') : Texts w' v ps := h.below hb
theorem TxsN.mono (n : Nat) (ts : List (List UInt8)) : Mono (TxsN n ts) := fun _ _ _ ⟨a, c, ps, h1, h2, h3⟩ hb => ⟨a, c, ps, h1, h2.below hb, h3⟩
theorem tcell_len : ∀ p : Value × List UInt8, (tcell p).length = 1 := fun _ => rfl
set_option maxHeartbeats 2000000 in
set_option maxRecDepth 100000 in
theorem bwrite_any (h : Hd) (k : h.Ok) (w : World) : Calls Try.prog 162 #[.agg (hdcs h).toArray] w fun e w' => ∃ v, e = .returned v ∧ Bytes w' v (wH h) ∧ Below w.heap.size w w' := by
  have K := Lib.hid k
  obtain ⟨w1, hw1⟩ : ∃ w1, w1 = w.alloc (.cells (hdcs h).toArray 28) := ⟨_, rfl⟩
  have hz1 : Blk 28 w1 w.heap.size (hdcs h) := by rw [hw1]; exact Blk.new w _ _
  have hbel1 : Below w.heap.size w w1 := by rw [hw1]; exact (Below.refl _ _).alloc (Nat.le_refl _) _
  have Hw1 := Lib.hid hw1
  have s32 := fun off u => sl32 w.heap.size off u
  have s8 := fun off u => sl8 w.heap.size off u
  have i1 := fun u : Ext w1 => u.cell ((hz1.cell 32).trans (hdcs_num K.out))
  have i2 := fun u : Ext w1 => u.cell ((hz1.cell 33).trans (hdcs_tim K.out))
  have i3 := fun u : Ext w1 => u.cell ((hz1.cell 42).trans (hdcs_lim K.out))
  have i4 := fun u : Ext w1 => u.cell ((hz1.cell 43).trans (hdcs_use K.out))
  unfold u64v at i1 i2 i3 i4
  have hex : ∀ x : Nat, x < 18446744073709551616 → ∃ T, T = numB x ∧ Hid (∀ u : World, Calls Try.prog 103 #[.int .u64 (x : Int)] u (fun e w' => e = .returned (.agg (wcs x).toArray) ∧ Below u.heap.size u w')) ∧ Hid (∀ u : World, Calls Try.prog 102 #[.agg (wcs x).toArray] u fun e w' => ∃ v, e = .returned v ∧ TxB u.heap.size T v w' ∧ Below u.heap.size u w') := fun x hx =>
    ⟨numB x, rfl, Lib.hid (fun u => wint_any x hx u), Lib.hid (fun u => pnum_fr x u)⟩
  obtain ⟨Tnum, hTnum, Cnum, Nnum⟩ := hex h.num K.out.num
  obtain ⟨Ttim, hTtim, Ctim, Ntim⟩ := hex h.tim K.out.tim
  obtain ⟨Tlim, hTlim, Clim, Nlim⟩ := hex h.lim K.out.lim
  obtain ⟨Tuse, hTuse, Cuse, Nuse⟩ := hex h.use K.out.use
  have hT : Hid ([h.par, Tnum, Ttim, Tlim, Tuse, h.kee, h.blo, h.sta, h.txs, h.rcs, h.nex] = hTs h) := Lib.hid (by rw [hTnum, hTtim, hTlim, hTuse]; rfl)
  have hpart : ∀ u, Below w1.heap.size w1 u → Hid (Bytes u (.slice (some ⟨w.heap.size, 0, none⟩) 32 32) h.par ∧ ∀ p ∈ hSix h, Bytes u (sv6 w.heap.size p) p.2.2) := fun u hu => by
    have hz := hz1.kept hu
    exact Lib.hid ⟨hz.bytesAt 0 32 _ (hdcs_par K.out) K.out.par (by unfold maxLen; omega), fun p hp => (hSix_bytes K.out hz p hp).1⟩
  clear k hTnum hTtim hTlim hTuse hex hw1 hz1
  go_enter Try.func162, Try.ntmps162
  go_wp2_with fail
  rw [← Hw1.out]
  refine wp_region_typed w1 31 (by kernel_rfl) (by kernel_rfl) (Below.refl _ _) ?_; simp only [List.take_succ_cons, List.take_zero, List.take_nil]
  iterate 2 (refine wpX_step (by rfl) (fun K hK => ?_); go_simp; first | (refine hK _ ?_; clear hK K) | (apply Exists.intro; refine ⟨fun _ => ?_, hK _ ?_⟩; fail; clear hK K))
  iterate 2 (refine wpX_step (by rfl) (fun K hK => ?_); go_simp; first | (refine hK _ ?_; clear hK K) | (apply Exists.intro; refine ⟨fun _ => ?_, hK _ ?_⟩; fail; clear hK K))
  (refine wpX_step (by rfl) (fun K hK => ?_); go_simp; first | (refine hK _ ?_; clear hK K) | (apply Exists.intro; refine ⟨fun _ => ?_, hK _ ?_⟩; exact Cnum.out _; clear hK K))
  refine wpX_rel 12 (TxB w1.heap.size Tnum) rfl (of_decide_eq_true rfl) (TxB.mono _ _) (fun w2 hw2 => ?_) ?_
  · simp only [relOf, List.filter_nil, List.filter_cons, forallRel]
    try simp only [forallRel]
    refine ⟨rfl, ?_⟩
    go_simp
    refine (Nnum.out w2).mono ?_
    rintro e w3 ⟨v, rfl, o3, b3⟩
    exact ⟨v, rfl, TxB.lower o3 hw2.size, b3⟩
  iterate 2 (refine wpX_step (by rfl) (fun K hK => ?_); go_simp; first | (refine hK _ ?_; clear hK K) | (apply Exists.intro; refine ⟨fun _ => ?_, hK _ ?_⟩; fail; clear hK K))
  (refine wpX_step (by rfl) (fun K hK => ?_); go_simp; first | (refine hK _ ?_; clear hK K) | (apply Exists.intro; refine ⟨fun _ => ?_, hK _ ?_⟩; exact Ctim.out _; clear hK K))
  refine wpX_rel 16 (TxB w1.heap.size Ttim) rfl (of_decide_eq_true rfl) (TxB.mono _ _) (fun w2 hw2 => ?_) ?_
  · simp only [relOf, List.filter_nil, List.filter_cons, forallRel]
    try simp only [forallRel]
    refine ⟨rfl, ?_⟩
    go_simp
    refine (Ntim.out w2).mono ?_
    rintro e w3 ⟨v, rfl, o3, b3⟩
    exact ⟨v, rfl, TxB.lower o3 hw2.size, b3⟩
  iterate 2 (refine wpX_step (by rfl) (fun K hK => ?_); go_simp; first | (refine hK _ ?_; clear hK K) | (apply Exists.intro; refine ⟨fun _ => ?_, hK _ ?_⟩; fail; clear hK K))
  (refine wpX_step (by rfl) (fun K hK => ?_); go_simp; first | (refine hK _ ?_; clear hK K) | (apply Exists.intro; refine ⟨fun _ => ?_, hK _ ?_⟩; exact Clim.out _; clear hK K))
  refine wpX_rel 20 (TxB w1.heap.size Tlim) rfl (of_decide_eq_true rfl) (TxB.mono _ _) (fun w2 hw2 => ?_) ?_
  · simp only [relOf, List.filter_nil, List.filter_cons, forallRel]
    try simp only [forallRel]
    refine ⟨rfl, ?_⟩
    go_simp
    refine (Nlim.out w2).mono ?_
    rintro e w3 ⟨v, rfl, o3, b3⟩
    exact ⟨v, rfl, TxB.lower o3 hw2.size, b3⟩
  iterate 2 (refine wpX_step (by rfl) (fun K hK => ?_); go_simp; first | (refine hK _ ?_; clear hK K) | (apply Exists.intro; refine ⟨fun _ => ?_, hK _ ?_⟩; fail; clear hK K))
  (refine wpX_step (by rfl) (fun K hK => ?_); go_simp; first | (refine hK _ ?_; clear hK K) | (apply Exists.intro; refine ⟨fun _ => ?_, hK _ ?_⟩; exact Cuse.out _; clear hK K))
  refine wpX_rel 24 (TxB w1.heap.size Tuse) rfl (of_decide_eq_true rfl) (TxB.mono _ _) (fun w2 hw2 => ?_) ?_
  · simp only [relOf, List.filter_nil, List.filter_cons, forallRel]
    try simp only [forallRel]
    refine ⟨rfl, ?_⟩
    go_simp
    refine (Nuse.out w2).mono ?_
    rintro e w3 ⟨v, rfl, o3, b3⟩
    exact ⟨v, rfl, TxB.lower o3 hw2.size, b3⟩
  iterate 12 (refine wpX_step (by rfl) (fun K hK => ?_); go_simp; first | (refine hK _ ?_; clear hK K) | (apply Exists.intro; refine ⟨fun _ => ?_, hK _ ?_⟩; fail; clear hK K))
  refine wpX_rel 37 (TxsN 11 (hTs h)) rfl (of_decide_eq_true rfl) (TxsN.mono _ _) (fun w2 hw2 => ?_) ?_
  · change forallRel w2 [(24, _), (20, _), (16, _), (12, _)] _ _
    intro v24 h24 v20 h20 v16 h16 v12 h12
    obtain ⟨a24, c24, rfl, _⟩ := h24.1.form
    obtain ⟨a20, c20, rfl, _⟩ := h20.1.form
    obtain ⟨a16, c16, rfl, _⟩ := h16.1.form
    obtain ⟨a12, c12, rfl, _⟩ := h12.1.form
    simp only [forallRel]
    refine ⟨rfl, ?_⟩
    go_simp
    have hpt := hpart w2 hw2
    obtain ⟨pb, pq⟩ := hpt.out
    refine ⟨(Below.refl _ _).alloc (Nat.le_refl _) _, some ⟨w2.heap.size, 0, none⟩, 11, [(.slice (some ⟨w.heap.size, 0, none⟩) 32 32, h.par), (.slice a12 Tnum.length c12, Tnum), (.slice a16 Ttim.length c16, Ttim), (.slice a20 Tlim.length c20, Tlim), (.slice a24 Tuse.length c24, Tuse), (.slice (some ⟨w.heap.size, 34, none⟩) 8 8, h.kee), (.slice (some ⟨w.heap.size, 44, none⟩) 32 32, h.blo), (.slice (some ⟨w.heap.size, 76, none⟩) 32 32, h.sta), (.slice (some ⟨w.heap.size, 108, none⟩) 32 32, h.txs), (.slice (some ⟨w.heap.size, 140, none⟩) 32 32, h.rcs), (.slice (some ⟨w.heap.size, 172, none⟩) 32 32, h.nex)], rfl, ?_, ?_⟩
    · refine ⟨Row.built tcell_len w2 55 _ 11 rfl (by unfold maxLen; omega), ?_⟩
      have hb2 : Below w2.heap.size w2 (w2.alloc (.cells #[.slice (some ⟨w.heap.size, 0, none⟩) 32 32, .slice a12 Tnum.length c12, .slice a16 Ttim.length c16, .slice a20 Tlim.length c20, .slice a24 Tuse.length c24, .slice (some ⟨w.heap.size, 34, none⟩) 8 8, .slice (some ⟨w.heap.size, 44, none⟩) 32 32, .slice (some ⟨w.heap.size, 76, none⟩) 32 32, .slice (some ⟨w.heap.size, 108, none⟩) 32 32, .slice (some ⟨w.heap.size, 140, none⟩) 32 32, .slice (some ⟨w.heap.size, 172, none⟩) 32 32] 55)) := (Below.refl _ _).alloc (Nat.le_refl _) _
      intro p hp
      simp only [List.mem_cons, List.not_mem_nil, or_false] at hp
      rcases hp with rfl | rfl | rfl | rfl | rfl | rfl | rfl | rfl | rfl | rfl | rfl
      · exact RowOf.below (f := b8) (size := 1) pb hb2
      · exact RowOf.below (f := b8) (size := 1) h12.1 hb2
      · exact RowOf.below (f := b8) (size := 1) h16.1 hb2
      · exact RowOf.below (f := b8) (size := 1) h20.1 hb2
      · exact RowOf.below (f := b8) (size := 1) h24.1 hb2
      · exact RowOf.below (f := b8) (size := 1) (pq (34, 8, h.kee) (by simp [hSix])) hb2
      · exact RowOf.below (f := b8) (size := 1) (pq (44, 32, h.blo) (by simp [hSix])) hb2
      · exact RowOf.below (f := b8) (size := 1) (pq (76, 32, h.sta) (by simp [hSix])) hb2
      · exact RowOf.below (f := b8) (size := 1) (pq (108, 32, h.txs) (by simp [hSix])) hb2
      · exact RowOf.below (f := b8) (size := 1) (pq (140, 32, h.rcs) (by simp [hSix])) hb2
      · exact RowOf.below (f := b8) (size := 1) (pq (172, 32, h.nex) (by simp [hSix])) hb2
    · exact hT.out
  refine wpX_nil ?_
  intro u2 hb2 v12 h12 v16 h16 v20 h20 v24 h24 v37 h37
  change wpList _ _ _ [_] _ _
  obtain ⟨a3, c3, ps3, rfl, tx3, e3⟩ := h37
  have E3 := Lib.hid e3
  have hbel2 := Below.then hbel1 hb2
  clear e3 h12 h16 h20 h24 i1 i2 i3 i4 s32 s8 hpart Cnum Nnum Ctim Ntim Clim Nlim Cuse Nuse hT Hw1 hb2 hbel1
  simp only [Act.put, List.setIfInBounds_toArray, List.set_cons_zero, List.set_cons_succ]
  go_wp2_with (first
    | (go_at_call 100; refine (plist_any none 0 0 _).mono ?_; rintro e w4 ⟨rfl, b4⟩; have hs4 := b4.size)
    | ((with_reducible show wpList _ _ _ (⟨none, Op.store _ _ (Operand.tmp 38), _, _, _, _⟩ :: _) _ _); refine wpList_storeA (o := ⟨none, _, _, _, _, _⟩) (by rfl) 155 (.tmp 4) (.tmp 38) (by rfl) w4.heap.size [.bool true, .slice none 0 0, .slice none 0 0] (by rfl) (by rfl) aggItem (Blk.new w4 155 [.bool false, .slice none 0 0, .slice none 0 0]) (by rfl) (by rfl) (by intro u hu; simp at hu; rcases hu with rfl | rfl <;> rfl) (b4.alloc (by omega) (.cells #[.bool false, .slice none 0 0, .slice none 0 0] 155)) (by omega) ?_; intro w8 hm8 hbel8 g8))
  have F8 : LkV u2 [] u2.heap.size w4.heap.size (.slice none 0 0) (txts []) w8 := ⟨hbel8, by simp, hm8, OwnOf.nil icells 3 _ _ _, by simp [Value.ownBlock], by simp [txts], Nat.le_refl _, hs4⟩
  obtain ⟨g9, hg9⟩ : ∃ g9, g9 = w4.heap.size := ⟨_, rfl⟩
  rw [← hg9] at F8
  rw [← hg9]
  clear b4 hs4 hm8 hbel8 g8 hg9
  try simp only [Act.put]
  go_loopw [41] (fun ix wr => ∃ (k : Nat) (kv : Value) (ps : List (Value × List UInt8)), k ≤ 11 ∧ ix = .int .i64 (k : Int) ∧ LkV u2 [] u2.heap.size g9 kv (txts ps) wr ∧ Hid (ps.map (·.2) = (hTs h).take k)) (fun ix _ => 11 - (intOf ix).toNat)
  case atStart => exact ⟨0, .slice none 0 0, [], by omega, rfl, F8, Lib.hid rfl⟩
  case round =>
    clear F8
    obtain ⟨k, kv, ps, hk, rfl, F, Hps⟩ := hrel
    have h11 : (hTs h).length = 11 := rfl
    have hpl : (txts ps).length = k := by
      have h1 := congrArg List.length Hps.out
      simp only [List.length_map, List.length_take, h11] at h1
      unfold txts
      rw [List.length_map]; omega
    obtain ⟨ka, kc, rfl, _⟩ := F.hO.form' k hpl
    have Hpl := Lib.hid hpl
    clear hpl
    by_cases hlt : k < 11
    · have hki : (k : Int) < (11 : Int) := by omega
      have hl3 : ps3.length = 11 := by have := congrArg List.length E3.out; rw [List.length_map] at this; exact this
      obtain ⟨b, off, p, rfl, hpk, hc, hbt⟩ := (tx3.below F.hb).at k (by omega)
      have hnext : (hTs h).take (k + 1) = (hTs h).take k ++ [p.2] := by
        rw [List.take_succ_eq_append_getElem (by rw [h11]; exact hlt)]
        congr 2
        have := congrArg (fun l : List (List UInt8) => l[k]?) E3.out
        simp only [List.getElem?_map, hpk, Option.map_some] at this
        rw [List.getElem?_eq_getElem (by rw [h11]; exact hlt)] at this
        exact (Option.some.inj this).symm
      have hlow := tx3.2 p (List.mem_of_getElem? hpk)
      obtain ⟨pv, pt⟩ := p
      dsimp only at hbt
      obtain ⟨pa, pc, rfl, _⟩ := hbt.form
      obtain ⟨pn, hpn⟩ : ∃ pn, pn = pt.length := ⟨_, rfl⟩
      dsimp only at hc hlow hnext
      rw [← hpn] at hc hlow
      have Hnext := Lib.hid hnext
      have Hlow := Lib.hid hlow
      have k1 := fun u : Ext wr => u.cell ((F.hm.cell 2).trans (show _ = some (Value.slice ka k kc) from rfl))
      clear hnext hbt hlow hpn hpk hl3 h11
      go_wp2_with fail
      refine wp_region_typed wr 5 (by kernel_rfl) (by kernel_rfl) (Below.refl _ _) ?_; simp only [List.take_succ_cons, List.take_zero, List.take_nil]
      iterate 3 (refine wpX_step (by rfl) (fun K hK => ?_); go_simp; first | (refine hK _ ?_; clear hK K) | (apply Exists.intro; refine ⟨fun _ => ?_, hK _ ?_⟩; fail; clear hK K))
      (refine wpX_step (by rfl) (fun K hK => ?_); go_simp; first | (refine hK _ ?_; clear hK K) | (apply Exists.intro; refine ⟨fun _ => ?_, hK _ ?_⟩; exact ptext_any _ _ _ _; clear hK K))
      refine wpX_rel 49 (OneC (.slice pa pn pc) pt) rfl (of_decide_eq_true rfl) (OneC.mono _ _) (fun w2 hw2 => ?_) ?_
      · simp only [relOf, List.filter_nil, forallRel]
        refine ⟨rfl, ?_⟩
        go_simp
        have hb18 : Below w2.heap.size w2 (w2.alloc (.cells #[.bool false, .slice pa pn pc, .slice none 0 0] 155)) := (Below.refl _ _).alloc (Nat.le_refl _) _
        exact ⟨hb18, w2.heap.size, rfl, Row.built icells_len w2 155 [txt (.slice pa pn pc) pt] 1 rfl (by unfold maxLen; omega)⟩
      refine wpX_nil ?_
      intro u3 hb3 v19 h19
      change wpList _ _ _ [_, _, _] _ _
      obtain ⟨g19, rfl, r19⟩ := h19
      have F2 := F.kept hb3
      have Fp2 := F2.low' Hlow.out (Nat.le_refl _) F2.hb
      clear k1 F
      simp only [Act.put, List.setIfInBounds_toArray, List.set_cons_zero, List.set_cons_succ]
      go_wp2_with (refine wpList_appB (o := ⟨some 50, _, _, _, _, _⟩) (by rfl) (.tmp 46) (.tmp 49) 153 (by rfl) elItem (by intro u hu; simp [txt, icells] at hu; rcases hu with rfl | rfl | rfl <;> rfl) (by rfl) F2.hO (by rfl) r19 (Nat.le_trans F2.h2 (Nat.le_of_lt F2.hm.lt)) (by rw [Hpl.out]; simp; omega) (by rw [Hpl.out]; unfold maxLen; simp; omega) ?_; intro v5 w5 hO5 gg5 pp5; obtain ⟨a5, c5, rfl, _⟩ := hO5.form' (k + 1) (by rw [List.length_append, Hpl.out]; rfl); have F5 := F2.grew Fp2 gg5 hO5 pp5; have hne5 := F2.hn; obtain ⟨y5, hy5⟩ := (F2.hm.grown gg5 hne5).has 2 (by simp); have hf5 := (F2.hm.grown gg5 hne5).free 2)
      rw [← txts_snoc' ps (.slice pa pn pc, pt)] at F5
      go_roundw
      case rel => exact ⟨k + 1, .slice a5 (k + 1) c5, ps ++ [(.slice pa pn pc, pt)], by omega, by go_num, F5, Lib.hid (by rw [List.map_append, Hps.out, Hnext.out]; rfl)⟩
      case measure => simp [intOf]; omega
    · obtain rfl : k = 11 := by omega
      have hps : ps.map (·.2) = hTs h := Hps.out
      have hI := F.is
      have hbk := bulk_hTs K.out ps hps
      have hE : encI (lst (.slice ka 11 kc) (txts ps)) = wH h := by rw [encI_lst_txts, hps]; rfl
      have enc := fun u hb => pencode_any 364 (lst (.slice ka 11 kc) (txts ps)) u (by rw [bulk_lst]; omega) (by omega) (hI.kept hb)
      unfold PEncPost at enc
      rw [hE] at enc
      have enc' : ∀ u, Below wr.heap.size wr u → Calls Try.prog 104 #[.agg #[.bool true, .slice none 0 0, .slice ka 11 kc]] u _ := enc
      have Enc := Lib.hid enc'
      have hfb := Below.then hbel2 F.hb
      clear enc enc' hE hI hbk hps
      go_wp2_with (first
        | (refine wpList_loadA (o := ⟨some 53, _, _, _, _, _⟩) (by rfl) 155 (.tmp 4) (by rfl) g9 (by rfl) aggItem F.hm (by rfl) ?_)
        | (go_at_call 104; refine (Enc.out _ (Below.refl _ _)).mono ?_; rintro e w3 ⟨v3, rfl, o3, b3⟩; have hbel3 := Below.then hfb b3))
      go_ret
      exact ⟨_, rfl, o3, hbel3⟩
end Go.Proofs.Ytgjgokcpampljaa
/- (Hdr8) block.Sum and the reference's BSum. -/
namespace Go.Proofs.Ytgjgokcpampljaa
open Go.RowKit
set_option maxHeartbeats 1000000 in
set_option maxRecDepth 100000 in
theorem bksum_any (h : Hd) (k : h.Ok) (w : World) : Calls Try.prog 77 #[.agg (hdcs h).toArray] w fun e w' => e = .returned (.agg ((sumB (wH h)).map u8v).toArray) ∧ Below w.heap.size w w' := by
  have hlen := hdcs_len k
  have Kk := Lib.hid k
  have hz0 : Blk 28 ((w.alloc (.cells (hdcs h).toArray 28)).alloc (.cells z32.toArray 23)) w.heap.size (hdcs h) := (Blk.new w _ _).alloc _
  have hz1 : Blk 23 ((w.alloc (.cells (hdcs h).toArray 28)).alloc (.cells z32.toArray 23)) (w.heap.size + 1) z32 := by
    have := Blk.new (w.alloc (.cells (hdcs h).toArray 28)) 23 z32
    simpa using this
  have hbel0 : Below w.heap.size w ((w.alloc (.cells (hdcs h).toArray 28)).alloc (.cells z32.toArray 23)) := ((Below.refl _ _).alloc (Nat.le_refl _) _).alloc (by simp) _
  clear k
  obtain ⟨Bs, hBs⟩ : ∃ Bs, Bs = wH h := ⟨_, rfl⟩
  rw [← hBs]
  have wr := fun u => hwrite_any h Kk.out u
  rw [← hBs] at wr
  have Wr := Lib.hid wr
  have hS32 := scs_len Bs
  clear hBs wr
  go_enter Try.func77, Try.ntmps77
  go_wp2_with (first
    | (refine wpList_loadA (o := ⟨some 3, _, _, _, _, _⟩) (by rfl) 28 (.tmp 1) (by rfl) w.heap.size (by rfl) aggHd hz0 hlen ?_)
    | (go_at_call 158; refine (Wr.out _).mono ?_; rintro e w3 ⟨v3, rfl, o3, b3⟩; obtain ⟨a3, c3, rfl, _⟩ := o3.form; have hz3 := hz1.kept b3; have hbel3 := Below.then hbel0 b3)
    | (go_at_call 105; refine (sum_any a3 _ c3 Bs rfl _ o3.row).mono ?_; rintro e w4 ⟨rfl, b4⟩; have hz4 := hz3.kept b4; have hbel4 := Below.then hbel3 b4)
    | ((with_reducible show wpList _ _ _ (⟨none, Op.store _ _ (Operand.tmp 5), _, _, _, _⟩ :: _) _ _); refine wpList_storeA (o := ⟨none, _, _, _, _, _⟩) (by rfl) 23 (.tmp 2) (.tmp 5) (by rfl) (w.heap.size + 1) (scs Bs) (by rfl) (by rfl) aggHash hz4 hS32 (by rfl) (scs_one _) hbel4 (by omega) ?_; intro w5 hh5 hbel5 _))
  exact bodyPost_ret (results_blk rfl _ _ (w.heap.size + 1) aggHash hh5 hS32 rfl) rfl ⟨rfl, hbel5⟩
set_option maxHeartbeats 1000000 in
set_option maxRecDepth 100000 in
theorem bbsum_any (h : Hd) (k : h.Ok) (w : World) : Calls Try.prog 82 #[.agg (hdcs h).toArray] w fun e w' => e = .returned (.agg ((sumB (wH h)).map u8v).toArray) ∧ Below w.heap.size w w' := by
  have hlen := hdcs_len k
  have Kk := Lib.hid k
  have hz0 : Blk 28 ((w.alloc (.cells (hdcs h).toArray 28)).alloc (.cells z32.toArray 23)) w.heap.size (hdcs h) := (Blk.new w _ _).alloc _
  have hz1 : Blk 23 ((w.alloc (.cells (hdcs h).toArray 28)).alloc (.cells z32.toArray 23)) (w.heap.size + 1) z32 := by
    have := Blk.new (w.alloc (.cells (hdcs h).toArray 28)) 23 z32
    simpa using this
  have hbel0 : Below w.heap.size w ((w.alloc (.cells (hdcs h).toArray 28)).alloc (.cells z32.toArray 23)) := ((Below.refl _ _).alloc (Nat.le_refl _) _).alloc (by simp) _
  clear k
  obtain ⟨Bs, hBs⟩ : ∃ Bs, Bs = wH h := ⟨_, rfl⟩
  rw [← hBs]
  have wr := fun u => bwrite_any h Kk.out u
  rw [← hBs] at wr
  have hBl : Bs.length ≤ 1000 := by rw [hBs]; exact wH_len Kk.out
  have Wr := Lib.hid wr
  have hS32 := scs_len Bs
  clear hBs wr
  go_enter Try.func82, Try.ntmps82
  go_wp2_with (first
    | (refine wpList_loadA (o := ⟨some 3, _, _, _, _, _⟩) (by rfl) 28 (.tmp 1) (by rfl) w.heap.size (by rfl) aggHd hz0 hlen ?_)
    | (go_at_call 162; refine (Wr.out _).mono ?_; rintro e w3 ⟨v3, rfl, o3, b3⟩; obtain ⟨a3, c3, rfl, _⟩ := o3.form; have hz3 := hz1.kept b3; have hbel3 := Below.then hbel0 b3)
    | (go_at_call 33; refine (ssum_any a3 _ c3 Bs rfl _ o3 (by omega)).mono ?_; rintro e w4 ⟨rfl, b4⟩; have hz4 := hz3.kept b4; have hbel4 := Below.then hbel3 b4)
    | ((with_reducible show wpList _ _ _ (⟨none, Op.store _ _ (Operand.tmp 5), _, _, _, _⟩ :: _) _ _); refine wpList_storeA (o := ⟨none, _, _, _, _, _⟩) (by rfl) 23 (.tmp 2) (.tmp 5) (by rfl) (w.heap.size + 1) (scs Bs) (by rfl) (by rfl) aggHash hz4 hS32 (by rfl) (scs_one _) hbel4 (by omega) ?_; intro w5 hh5 hbel5 _))
  exact bodyPost_ret (results_blk rfl _ _ (w.heap.size + 1) aggHash hh5 hS32 rfl) rfl ⟨rfl, hbel5⟩
end Go.Proofs.Ytgjgokcpampljaa
