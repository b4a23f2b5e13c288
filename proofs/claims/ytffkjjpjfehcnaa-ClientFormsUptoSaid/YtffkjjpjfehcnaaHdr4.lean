/- block.Write: the walk. -/
import Derived.Test.YtffkjjpjfehcnaaHdr3
import Derived.Test.YtffkjjpjfehcnaaHash
import Derived.Test.YtffkjjpjfehcnaaSeat2
set_option linter.unusedSimpArgs false
set_option linter.unusedVariables false
namespace Go.Proofs.Ytffkjjpjfehcnaa
open Go.RowKit
theorem hTs_one (h : Hd) : (hTs h).take 1 = [h.par] := rfl
theorem hTs_all (h : Hd) : (hTs h).take 11 = hTs h := rfl
theorem bulk_hTs {h : Hd} (k : h.Ok) (ps : List (Value × List UInt8)) (e : ps.map (·.2) = hTs h) : bulkL (txts ps) ≤ 363 := by
  rw [bulkL_txts]
  have e1 : ps.map (fun p => 1 + p.2.length) = (hTs h).map (fun x => 1 + x.length) := by
    have := congrArg (List.map (fun t : List UInt8 => 1 + t.length)) e
    simp only [List.map_map] at this
    exact this
  rw [e1]
  have h1 := hTs_short k
  have : ∀ l : List (List UInt8), (∀ t ∈ l, t.length ≤ 32) → (l.map fun x => 1 + x.length).sum ≤ 33 * l.length := by
    intro l
    induction l with
    | nil => simp
    | cons x l ih =>
      intro hl
      have a1 := hl x List.mem_cons_self
      have a2 := ih (fun y hy => hl y (List.mem_cons_of_mem _ hy))
      simp only [List.map_cons, List.sum_cons, List.length_cons]
      omega
  exact this _ h1
theorem txts_snoc' (ps : List (Value × List UInt8)) (p : Value × List UInt8) : txts (ps ++ [p]) = txts ps ++ [txt p.1 p.2] := by unfold txts; rw [List.map_append]; rfl
/-- a list of one item -/
def OneC (v : Value) (t : List UInt8) : Ty := fun u w => ∃ g, u = .slice (some ⟨g, 0, none⟩) 1 1 ∧ RowOf icells 3 w u [txt v t]
theorem OneC.mono (v : Value) (t : List UInt8) : Mono (OneC v t) := fun _ _ _ ⟨g, h1, h2⟩ hb => ⟨g, h1, RowOf.kept h2 hb⟩
set_option maxHeartbeats 2000000 in
set_option maxRecDepth 100000 in
theorem hwrite_any (h : Hd) (k : h.Ok) (w : World) : Calls Try.prog 16 #[.agg (hdcs h).toArray] w fun e w' => ∃ v, e = .returned v ∧ OwnOf b8 1 5 w' w.heap.size v (wH h) ∧ Below w.heap.size w w' := by
  have K := Lib.hid k
  have hlen := hdcs_len k
  have hz0 : Blk 28 (w.alloc (.cells (hdcs h).toArray 28)) w.heap.size (hdcs h) := Blk.new w _ _
  have hbel0 : Below w.heap.size w (w.alloc (.cells (hdcs h).toArray 28)) := (Below.refl _ _).alloc (Nat.le_refl _) _
  have hlt0 := hz0.lt
  have s32 := fun off u => sl32 w.heap.size off u
  have s8 := fun off u => sl8 w.heap.size off u
  clear k
  go_enter Try.func16, Try.ntmps16
  go_wp2_with (first
    | (go_at_call 80; refine (text_any _ _ _ _).mono ?_; rintro e w1 ⟨rfl, b1⟩; have hz1 := hz0.kept b1; have hbel1 := Below.then hbel0 b1; have hl1 := Nat.lt_of_lt_of_le hlt0 b1.size)
    | (go_at_call 79; refine (list_any _ _ _ _).mono ?_; rintro e w2 ⟨rfl, b2⟩; have hz2 := (hz1.alloc _).kept b2; have hone := (Row.built icells_len w1 128 [txt (.slice (some ⟨w.heap.size, 0, none⟩) 32 32) h.par] 1 rfl (by unfold maxLen; omega)).below b2; have hown := (Blk.own (f := icells) (size := 3) (l := [txt (.slice (some ⟨w.heap.size, 0, none⟩) 32 32) h.par]) ((Blk.new w1 128 _).kept b2) 1 icells_len rfl (Nat.le_refl _) (by unfold maxLen; omega)); have hbel2 := Below.then (hbel1.alloc (Nat.le_of_lt hl1) _) b2; have hl2 : w1.heap.size < w2.heap.size := Nat.lt_of_lt_of_le (by simp) b2.size)
    | ((with_reducible show wpList _ _ _ (⟨none, Op.store _ _ (Operand.tmp 12), _, _, _, _⟩ :: _) _ _); refine wpList_storeA (o := ⟨none, _, _, _, _, _⟩) (by rfl) 128 (.tmp 3) (.tmp 12) (by rfl) w2.heap.size [.bool true, .slice none 0 0, .slice (some ⟨w1.heap.size, 0, none⟩) 1 1] (by rfl) (by rfl) aggItem (Blk.new w2 128 [.bool false, .slice none 0 0, .slice none 0 0]) (by rfl) (by rfl) (by intro u hu; simp at hu; rcases hu with rfl | rfl | rfl <;> rfl) (hbel2.alloc (by omega) (.cells #[.bool false, .slice none 0 0, .slice none 0 0] 128)) (by omega) ?_; intro w8 hm8 hbel8 g8; have hz8 := (hz2.alloc (.cells #[.bool false, .slice none 0 0, .slice none 0 0] 128)).grown g8 (by intro e; injection e; omega); have hown8 := (hown.alloc (.cells #[.bool false, .slice none 0 0, .slice none 0 0] 128)).grown g8 (fun k hk e => by cases hk; have e2 : some w1.heap.size = some _ := e; injection e2; omega); have i1 := (hz8.cell 32).trans (hdcs_num K.out); have i2 := (hz8.cell 33).trans (hdcs_tim K.out); have i3 := (hz8.cell 42).trans (hdcs_lim K.out); have i4 := (hz8.cell 43).trans (hdcs_use K.out); unfold u64v at i1 i2 i3 i4))
  have F8 : LkV w [(28, w.heap.size, hdcs h)] w1.heap.size w2.heap.size (.slice (some ⟨w1.heap.size, 0, none⟩) 1 1) (txts [(.slice (some ⟨w.heap.size, 0, none⟩) 32 32, h.par)]) w8 := by
    refine ⟨hbel8, fun p hp => ?_, hm8, hown8, by simp [Value.ownBlock]; omega, fun x hx => ?_, Nat.le_of_lt hl1, Nat.le_of_lt hl2⟩
    · rw [List.mem_singleton] at hp; subst hp; exact ⟨hz8, hl1⟩
    · simp only [txts, List.map_cons, List.map_nil, List.mem_singleton] at hx
      subst hx
      refine fp_at (hz8.bytesAt 0 32 _ (hdcs_par K.out) K.out.par (by unfold maxLen; omega)) (fun b hb => ?_)
      simp only [Value.ownBlock, Option.some.injEq] at hb
      subst hb
      exact ⟨by omega, by simp [Value.ownBlock]; omega⟩
  obtain ⟨kv0, hkv0⟩ : ∃ x : Value, x = .slice (some ⟨w1.heap.size, 0, none⟩) 1 1 := ⟨_, rfl⟩
  obtain ⟨ps0, hps0⟩ : ∃ x, x = [((.slice (some ⟨w.heap.size, 0, none⟩) 32 32 : Value), h.par)] := ⟨_, rfl⟩
  rw [← hkv0, ← hps0] at F8
  have Hps0 : Hid (ps0.map (·.2) = (hTs h).take (0 + 1)) := Lib.hid (by rw [hps0]; rfl)
  obtain ⟨B, hB⟩ : ∃ B, B = w1.heap.size := ⟨_, rfl⟩
  obtain ⟨g9, hg9⟩ : ∃ g9, g9 = w2.heap.size := ⟨_, rfl⟩
  rw [← hg9, ← hB] at F8
  rw [← hg9]
  clear hz0 hbel0 hlt0 b1 hz1 hbel1 hl1 b2 hz2 hone hown hbel2 hl2 hm8 hbel8 g8 hz8 hown8 i1 i2 i3 i4 hg9 hB hkv0 hps0
  try simp only [Act.put]
  go_loopw [22] (fun ix wr => ∃ (k : Nat) (kv : Value) (ps : List (Value × List UInt8)), k ≤ 4 ∧ ix = .int .i64 (k : Int) ∧ LkV w [(28, w.heap.size, hdcs h)] B g9 kv (txts ps) wr ∧ Hid (ps.map (·.2) = (hTs h).take (k + 1))) (fun ix _ => 4 - (intOf ix).toNat)
  case atStart => exact ⟨0, kv0, ps0, by omega, rfl, F8, Hps0⟩
  case round =>
    clear F8 Hps0
    obtain ⟨k, kv, ps, hk, rfl, F, Hps⟩ := hrel
    have hpl : (txts ps).length = k + 1 := by
      have h1 := congrArg List.length Hps.out
      have h2 : (hTs h).length = 11 := rfl
      simp only [List.length_map, List.length_take, h2] at h1
      unfold txts
      rw [List.length_map]; omega
    obtain ⟨ka, kc, rfl, _⟩ := F.hO.form' (k + 1) hpl
    have Hpl := Lib.hid hpl
    clear hpl
    by_cases hlt : k < 4
    · have hki : (k : Int) < (4 : Int) := by omega
      have hix := fun u => idx4 h.num h.tim h.lim h.use k hlt u
      obtain ⟨x, hx⟩ : ∃ x, x = (hNs h)[k]?.getD 0 := ⟨_, rfl⟩
      change ∀ u, (Instr.index 47 (.agg #[.int .u64 (h.num : Int), .int .u64 (h.tim : Int), .int .u64 (h.lim : Int), .int .u64 (h.use : Int)]) (.int .i64 (k : Int))).run Try.prog u = .ok (.int .u64 (((hNs h)[k]?.getD 0 : Nat) : Int)) u at hix
      have hnext := hTs_ns h k hlt
      have hx64 := hNs_lt K.out k hlt
      rw [← hx] at hix hnext hx64
      have Hnext := Lib.hid hnext
      obtain ⟨T, hT⟩ : ∃ T, T = numB x := ⟨_, rfl⟩
      have ci : ∀ u : World, Calls Try.prog 82 #[.int .u64 (x : Int)] u _ := fun u => int_any x hx64 u
      change ∀ u : World, Calls Try.prog 82 #[.int .u64 (x : Int)] u (fun e w' => e = .returned (.agg (wcs x).toArray) ∧ Below u.heap.size u w') at ci
      have cn : ∀ u : World, Calls Try.prog 81 #[.agg (wcs x).toArray] u _ := fun u => num_any x u
      rw [← hT] at cn
      rw [← hT] at Hnext
      have k1 := fun u : Ext wr => u.cell ((F.hm.cell 2).trans (show _ = some (Value.slice ka (k + 1) kc) from rfl))
      have Ci := Lib.hid ci
      have Cn := Lib.hid cn
      clear hx hnext hT ci cn hx64 s32 s8
      go_wp2_with fail
      refine wp_region_typed wr 7 (by kernel_rfl) (by kernel_rfl) (Below.refl _ _) ?_; simp only [List.take_succ_cons, List.take_zero, List.take_nil]
      iterate 3 (refine wpX_step (by rfl) (fun K hK => ?_); go_simp; first | (refine hK _ ?_; clear hK K) | (apply Exists.intro; refine ⟨fun _ => ?_, hK _ ?_⟩; fail; clear hK K))
      (refine wpX_step (by rfl) (fun K hK => ?_); go_simp; first | (refine hK _ ?_; clear hK K) | (apply Exists.intro; refine ⟨fun _ => ?_, hK _ ?_⟩; exact Ci.out _; clear hK K))
      refine wpX_rel 29 (TxB wr.heap.size T) rfl (of_decide_eq_true rfl) (TxB.mono _ _) (fun w2 hw2 => ?_) ?_
      · simp only [relOf, List.filter_nil, forallRel]
        refine ⟨rfl, ?_⟩
        go_simp
        refine (Cn.out w2).mono ?_
        rintro e w3 ⟨v, rfl, o3, b3⟩
        exact ⟨v, rfl, TxB.own (o3.lower hw2.size), b3⟩
      refine wpX_rel 30 (TxtO wr.heap.size T) rfl (of_decide_eq_true rfl) (TxtO.mono _ _) (fun w2 hw2 => ?_) ?_
      · change forallRel w2 [(29, _)] _ _
        intro v17 h17
        obtain ⟨a17, c17, rfl, _⟩ := h17.1.form
        simp only [forallRel, List.drop_succ_cons, List.drop_zero, List.drop_nil]
        refine ⟨rfl, ?_⟩
        go_simp
        refine (text_any _ _ _ _).mono ?_
        rintro e w3 ⟨rfl, b3⟩
        exact ⟨_, rfl, ⟨a17, _, c17, rfl, TxB.mono _ _ _ _ _ h17 b3⟩, b3⟩
      refine wpX_rel 31 (OneO wr.heap.size T) rfl (of_decide_eq_true rfl) (OneO.mono _ _) (fun w2 hw2 => ?_) ?_
      · change forallRel w2 [(30, _)] _ _
        rintro v18 ⟨a18, n18, c18, rfl, h18⟩
        simp only [forallRel, List.drop_succ_cons, List.drop_zero, List.drop_nil]
        refine ⟨rfl, ?_⟩
        go_simp
        have hb18 : Below w2.heap.size w2 (w2.alloc (.cells #[.bool false, .slice a18 n18 c18, .slice none 0 0] 128)) := (Below.refl _ _).alloc (Nat.le_refl _) _
        exact ⟨hb18, w2.heap.size, a18, n18, c18, rfl, Row.built icells_len w2 128 [txt (.slice a18 n18 c18) T] 1 rfl (by unfold maxLen; omega), TxB.mono _ _ _ _ _ h18 hb18⟩
      refine wpX_nil ?_
      intro u2 hb2 v17 h17 v18 h18 v19 h19
      change wpList _ _ _ [_, _, _] _ _
      obtain ⟨g19, a19, n19, c19, rfl, r19, f19⟩ := h19
      have F2 := F.kept hb2
      have Fp2 := F.text (Nat.le_refl _) f19
      clear k1 h17 h18 F hix
      simp only [Act.put, List.setIfInBounds_toArray, List.set_cons_zero, List.set_cons_succ]
      go_wp2_with (refine wpList_appB (o := ⟨some 32, _, _, _, _, _⟩) (by rfl) (.tmp 26) (.tmp 31) 126 (by rfl) elItem (by intro u hu; simp [txt, icells] at hu; rcases hu with rfl | rfl | rfl <;> rfl) (by rfl) F2.hO (by rfl) r19 (Nat.le_trans F2.h2 (Nat.le_of_lt F2.hm.lt)) (by rw [Hpl.out]; simp; omega) (by rw [Hpl.out]; unfold maxLen; simp; omega) ?_; intro v5 w5 hO5 gg5 pp5; obtain ⟨a5, c5, rfl, _⟩ := hO5.form' (k + 2) (by rw [List.length_append, Hpl.out]; rfl); have F5 := F2.grew Fp2 gg5 hO5 pp5; have hne5 := F2.hn; obtain ⟨y5, hy5⟩ := (F2.hm.grown gg5 hne5).has 2 (by simp); have hf5 := (F2.hm.grown gg5 hne5).free 2)
      rw [← txts_snoc' ps (.slice a19 n19 c19, T)] at F5
      go_roundw
      case rel => exact ⟨k + 1, .slice a5 (k + 2) c5, ps ++ [(.slice a19 n19 c19, T)], by omega, by go_num, F5, Lib.hid (by rw [List.map_append, Hps.out, Hnext.out]; rfl)⟩
      case measure => simp [intOf]; omega
    · obtain rfl : k = 4 := by omega
      go_wp2_with fail
      refine wp_region_typed wr 14 (by kernel_rfl) (by kernel_rfl) (Below.refl _ _) ?_; simp only [List.take_succ_cons, List.take_zero, List.take_nil]
      iterate 14 (refine wpX_step (by rfl) (fun K hK => ?_); go_simp; first | (refine hK _ ?_; clear hK K) | (apply Exists.intro; refine ⟨fun _ => ?_, hK _ ?_⟩; fail; clear hK K))
      refine wpX_nil ?_
      intro u2 hb2
      change forallRel u2 [] _ _
      simp only [forallRel, List.drop_succ_cons, List.drop_zero, List.drop_nil]
      have F2 := F.kept hb2
      clear F s32 s8 hb2
      go_wp2_with fail
      have Hps2 : Hid (ps.map (·.2) = (hTs h).take (0 + 5)) := Hps
      clear Hpl Hps
      go_loopw [48] (fun ix wr => ∃ (k : Nat) (kv : Value) (ps : List (Value × List UInt8)), k ≤ 6 ∧ ix = .int .i64 (k : Int) ∧ LkV w [(28, w.heap.size, hdcs h)] B g9 kv (txts ps) wr ∧ Hid (ps.map (·.2) = (hTs h).take (k + 5))) (fun ix _ => 6 - (intOf ix).toNat)
      case atStart => exact ⟨0, _, ps, by omega, rfl, F2, Hps2⟩
      case round =>
        clear F2 Hps2
        obtain ⟨k, kv, ps, hk, rfl, F, Hps⟩ := hrel
        have hpl : (txts ps).length = k + 5 := by
          have h1 := congrArg List.length Hps.out
          have h2 : (hTs h).length = 11 := rfl
          simp only [List.length_map, List.length_take, h2] at h1
          unfold txts
          rw [List.length_map]; omega
        obtain ⟨ka, kc, rfl, _⟩ := F.hO.form' (k + 5) hpl
        have Hpl := Lib.hid hpl
        clear hpl
        by_cases hlt : k < 6
        · have hki : (k : Int) < (6 : Int) := by omega
          have hix := fun u => idx6 w.heap.size h k hlt u
          have hnext := hTs_six h k hlt
          have hmem : ((hSix h)[k]?.getD (0, 0, [])) ∈ hSix h := by
            rw [List.getElem?_eq_getElem (by show k < 6; exact hlt)]
            exact List.getElem_mem _
          obtain ⟨hbt, hlen⟩ := hSix_bytes K.out (F.hz _ List.mem_cons_self).1 _ hmem
          obtain ⟨p, hp⟩ : ∃ p, p = (hSix h)[k]?.getD (0, 0, []) := ⟨_, rfl⟩
          rw [← hp] at hix hnext hbt hlen
          obtain ⟨off, n, T⟩ := p
          change ∀ u, (Instr.index 142 _ _).run Try.prog u = .ok (.slice (some ⟨w.heap.size, off, none⟩) n n) u at hix
          change Bytes wr (.slice (some ⟨w.heap.size, off, none⟩) n n) T at hbt
          have Hnext := Lib.hid hnext
          have Hbt := Lib.hid hbt
          have k1 := fun u : Ext wr => u.cell ((F.hm.cell 2).trans (show _ = some (Value.slice ka (k + 5) kc) from rfl))
          clear hnext hbt hlen hmem hp
          go_wp2_with fail
          refine wp_region_typed wr 5 (by kernel_rfl) (by kernel_rfl) (Below.refl _ _) ?_; simp only [List.take_succ_cons, List.take_zero, List.take_nil]
          iterate 3 (refine wpX_step (by rfl) (fun K hK => ?_); go_simp; first | (refine hK _ ?_; clear hK K) | (apply Exists.intro; refine ⟨fun _ => ?_, hK _ ?_⟩; fail; clear hK K))
          (refine wpX_step (by rfl) (fun K hK => ?_); go_simp; first | (refine hK _ ?_; clear hK K) | (apply Exists.intro; refine ⟨fun _ => ?_, hK _ ?_⟩; exact text_any _ _ _ _; clear hK K))
          refine wpX_rel 55 (OneC (.slice (some ⟨w.heap.size, off, none⟩) n n) T) rfl (of_decide_eq_true rfl) (OneC.mono _ _) (fun w2 hw2 => ?_) ?_
          · simp only [relOf, List.filter_nil, forallRel]
            refine ⟨rfl, ?_⟩
            go_simp
            have hb18 : Below w2.heap.size w2 (w2.alloc (.cells #[.bool false, .slice (some ⟨w.heap.size, off, none⟩) n n, .slice none 0 0] 128)) := (Below.refl _ _).alloc (Nat.le_refl _) _
            exact ⟨hb18, w2.heap.size, rfl, Row.built icells_len w2 128 [txt (.slice (some ⟨w.heap.size, off, none⟩) n n) T] 1 rfl (by unfold maxLen; omega)⟩
          refine wpX_nil ?_
          intro u2 hb2 v19 h19
          change wpList _ _ _ [_, _, _] _ _
          obtain ⟨g19, rfl, r19⟩ := h19
          have F2 := F.kept hb2
          have Fp2 := F2.low (RowOf.below (f := b8) (size := 1) Hbt.out hb2) (fun b hb => by simp only [Value.ownBlock, Option.some.injEq] at hb; subst hb; exact (F2.hz _ List.mem_cons_self).2)
          clear k1 F hix
          simp only [Act.put, List.setIfInBounds_toArray, List.set_cons_zero, List.set_cons_succ]
          go_wp2_with (refine wpList_appB (o := ⟨some 56, _, _, _, _, _⟩) (by rfl) (.tmp 52) (.tmp 55) 126 (by rfl) elItem (by intro u hu; simp [txt, icells] at hu; rcases hu with rfl | rfl | rfl <;> rfl) (by rfl) F2.hO (by rfl) r19 (Nat.le_trans F2.h2 (Nat.le_of_lt F2.hm.lt)) (by rw [Hpl.out]; simp; omega) (by rw [Hpl.out]; unfold maxLen; simp; omega) ?_; intro v5 w5 hO5 gg5 pp5; obtain ⟨a5, c5, rfl, _⟩ := hO5.form' (k + 6) (by rw [List.length_append, Hpl.out]; rfl); have F5 := F2.grew Fp2 gg5 hO5 pp5; have hne5 := F2.hn; obtain ⟨y5, hy5⟩ := (F2.hm.grown gg5 hne5).has 2 (by simp); have hf5 := (F2.hm.grown gg5 hne5).free 2)
          rw [← txts_snoc' ps (.slice (some ⟨w.heap.size, off, none⟩) n n, T)] at F5
          go_roundw
          case rel => exact ⟨k + 1, .slice a5 (k + 6) c5, ps ++ [(.slice (some ⟨w.heap.size, off, none⟩) n n, T)], by omega, by go_num, F5, Lib.hid (by rw [List.map_append, Hps.out, Hnext.out]; rfl)⟩
          case measure => simp [intOf]; omega
        · obtain rfl : k = 6 := by omega
          have hps : ps.map (·.2) = hTs h := Hps.out
          have hI := F.is
          have hbk := bulk_hTs K.out ps hps
          have hE : encI (lst (.slice ka 11 kc) (txts ps)) = wH h := by rw [encI_lst_txts, hps]; rfl
          have enc := fun u hb => encode_any 364 (lst (.slice ka 11 kc) (txts ps)) u (by rw [bulk_lst]; omega) (by omega) (hI.kept hb)
          unfold EncPost at enc
          rw [hE] at enc
          have enc' : ∀ u, Below wr.heap.size wr u → Calls Try.prog 83 #[.agg #[.bool true, .slice none 0 0, .slice ka 11 kc]] u _ := enc
          have Enc := Lib.hid enc'
          clear enc enc' hE hI hbk hps
          go_wp2_with (first
            | (refine wpList_loadA (o := ⟨some 59, _, _, _, _, _⟩) (by rfl) 128 (.tmp 3) (by rfl) g9 (by rfl) aggItem F.hm (by rfl) ?_)
            | (go_at_call 83; refine (Enc.out _ (Below.refl _ _)).mono ?_; rintro e w3 ⟨v3, rfl, o3, b3⟩; have hbel3 := Below.then F.hb b3; have o33 := o3.lower F.hb.size))
          go_ret
          exact ⟨_, rfl, o33, hbel3⟩
end Go.Proofs.Ytffkjjpjfehcnaa
