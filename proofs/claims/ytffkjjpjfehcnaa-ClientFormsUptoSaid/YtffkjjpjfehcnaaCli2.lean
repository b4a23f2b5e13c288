/- client.list. -/
import Derived.Test.YtffkjjpjfehcnaaSeat4
set_option linter.unusedSimpArgs false
set_option linter.unusedVariables false
namespace Go.Proofs.Ytffkjjpjfehcnaa
open Go.RowKit
theorem LkW.off {w : World} {zs : List (TypeId × Nat × List Value)} {g9 : Nat} {kv : Value} {ks : List Itm} {u u' : World} {z : Nat} (h : LkW w zs g9 kv ks u) (hg : u.grownBy u' (some z)) (hz : z < g9) : IsItm u' (lst kv ks) := by
  refine IsItm.lst (h.hO.grown hg (fun k hk e => ?_)).row (fun k hk => ((h.hF k hk).to (S' := fun _ => True) hg.size (fun x hx hl => ⟨hg.block x hl (fun e => ?_), trivial⟩)).is)
  · cases hk; have := h.hO.lt z e; omega
  · injection e with e; have := hx.1; omega
set_option maxHeartbeats 2000000 in
set_option maxRecDepth 100000 in
theorem clist_any (a : Option Addr) (n c : Nat) (l : List Nat) (hn : l.length = n) (hs : n ≤ 1048576) (hl : ∀ x ∈ l, x < 18446744073709551616) (w : World) (h : RowOf u64c 1 w (.slice a n c) l) : Calls Try.prog 91 #[.slice a n c] w fun e w' => ∃ kv ps, e = .returned (.agg #[.bool true, .slice none 0 0, kv]) ∧ IsItm w' (lst kv (txts ps)) ∧ ps.map (·.2) = l.map numB ∧ Below w.heap.size w w' := by
  have Hn := Lib.hid hn
  have Hlt8 := Lib.hid hl
  have hz0 : Blk 128 (w.alloc (.cells #[.bool false, .slice none 0 0, .slice none 0 0] 128)) w.heap.size [.bool false, .slice none 0 0, .slice none 0 0] := Blk.new w _ [.bool false, .slice none 0 0, .slice none 0 0]
  have hbel0 : Below w.heap.size w (w.alloc (.cells #[.bool false, .slice none 0 0, .slice none 0 0] 128)) := (Below.refl _ _).alloc (Nat.le_refl _) _
  have hlt0 := hz0.lt
  clear hn hl
  go_enter Try.func91, Try.ntmps91
  go_wp2_with (first
    | (go_at_call 79; refine (list_any none 0 0 _).mono ?_; rintro e w2 ⟨rfl, b2⟩; have hz2 := hz0.kept b2; have hbel2 := Below.then hbel0 b2; have hs2 := b2.size; have hs2' : w.heap.size < w2.heap.size := Nat.lt_of_lt_of_le hlt0 hs2)
    | ((with_reducible show wpList _ _ _ (⟨none, Op.store _ _ (Operand.tmp 6), _, _, _, _⟩ :: _) _ _); refine wpList_storeA (o := ⟨none, _, _, _, _, _⟩) (by rfl) 128 (.tmp 3) (.tmp 6) (by rfl) w2.heap.size [.bool true, .slice none 0 0, .slice none 0 0] (by rfl) (by rfl) aggItem (Blk.new w2 128 [.bool false, .slice none 0 0, .slice none 0 0]) (by rfl) (by rfl) (by intro u hu; simp at hu; rcases hu with rfl | rfl <;> rfl) (hbel2.alloc (by omega) (.cells #[.bool false, .slice none 0 0, .slice none 0 0] 128)) (by omega) ?_; intro w8 hm8 hbel8 g8; have hz8 := (hz2.alloc (.cells #[.bool false, .slice none 0 0, .slice none 0 0] 128)).grown g8 (by simp <;> omega)))
  have F8 : LkW w [(128, w.heap.size, [.bool false, .slice none 0 0, .slice none 0 0])] w2.heap.size (.slice none 0 0) (txts []) w8 := ⟨hbel8, fun p hp => by rw [List.mem_singleton] at hp; subst hp; exact ⟨hz8, by show w.heap.size < w2.heap.size; omega⟩, hm8, OwnOf.nil icells 3 _ _ _, by simp [txts], by omega⟩
  obtain ⟨g9, hg9⟩ : ∃ g9, g9 = w2.heap.size := ⟨_, rfl⟩
  rw [← hg9] at F8
  rw [← hg9]
  clear hz0 hbel0 hlt0 b2 hz2 hbel2 hs2 hs2' hm8 hbel8 g8 hz8 hg9
  try simp only [Act.put]
  go_loopw [9] (fun ix wr => ∃ (k : Nat) (kv : Value) (ps : List (Value × List UInt8)), k ≤ n ∧ ix = .int .i64 (k : Int) ∧ LkW w [(128, w.heap.size, [.bool false, .slice none 0 0, .slice none 0 0])] g9 kv (txts ps) wr ∧ Hid (ps.map (·.2) = (l.take k).map numB)) (fun ix _ => n - (intOf ix).toNat)
  case atStart => exact ⟨0, .slice none 0 0, [], by omega, rfl, F8, Lib.hid rfl⟩
  case round =>
    clear F8
    obtain ⟨k, kv, ps, hk, rfl, F, Hps⟩ := hrel
    have hpl : (txts ps).length = k := by
      have := congrArg List.length Hps.out
      simpa [txts, List.length_take, Nat.min_eq_left (show k ≤ l.length by rw [Hn.out]; exact hk)] using this
    obtain ⟨ka, kc, rfl, _⟩ := F.hO.form' k hpl
    have Hpl := Lib.hid hpl
    clear hpl
    by_cases hlt : k < n
    · have hki : (k : Int) < (n : Int) := by omega
      obtain ⟨b, off, rfl, hc⟩ := u64_at (h.below F.hb) k (by rw [Hn.out]; exact hlt)
      obtain ⟨x, hx⟩ : ∃ x, x = gv l k := ⟨_, rfl⟩
      rw [← hx] at hc
      have hx64 : x < 18446744073709551616 := by
        rw [hx]; unfold gv; rw [List.getElem?_eq_getElem (by rw [Hn.out]; exact hlt)]; exact Hlt8.out _ (List.getElem_mem _)
      have hnext : (l.take (k + 1)).map numB = (l.take k).map numB ++ [numB x] := by
        rw [List.take_succ_eq_append_getElem (by rw [Hn.out]; exact hlt), List.map_append, hx]
        unfold gv
        rw [List.getElem?_eq_getElem (by rw [Hn.out]; exact hlt)]; rfl
      have Hnext := Lib.hid hnext
      obtain ⟨T, hT⟩ : ∃ T, T = numB x := ⟨_, rfl⟩
      have ci : ∀ u : World, Calls Try.prog 82 #[.int .u64 (x : Int)] u _ := fun u => int_any x hx64 u
      change ∀ u : World, Calls Try.prog 82 #[.int .u64 (x : Int)] u (fun e w' => e = .returned (.agg (wcs x).toArray) ∧ Below u.heap.size u w') at ci
      have cn : ∀ u : World, Calls Try.prog 81 #[.agg (wcs x).toArray] u _ := fun u => num_any x u
      rw [← hT] at cn
      rw [← hT] at Hnext
      have k1 := fun u : Ext wr => u.cell ((F.hm.cell 2).trans (show _ = some (Value.slice ka k kc) from rfl))
      have Ci := Lib.hid ci
      have Cn := Lib.hid cn
      clear hx hnext hT ci cn hx64
      go_wp2_with fail
      refine wp_region_typed wr 7 (by kernel_rfl) (by kernel_rfl) (Below.refl _ _) ?_; simp only [List.take_succ_cons, List.take_zero, List.take_nil]
      iterate 3 (refine wpX_step (by rfl) (fun K hK => ?_); go_simp; first | (refine hK _ ?_; clear hK K) | (apply Exists.intro; refine ⟨fun _ => ?_, hK _ ?_⟩; fail; clear hK K))
      (refine wpX_step (by rfl) (fun K hK => ?_); go_simp; first | (refine hK _ ?_; clear hK K) | (apply Exists.intro; refine ⟨fun _ => ?_, hK _ ?_⟩; exact Ci.out _; clear hK K))
      refine wpX_rel 17 (TxB wr.heap.size T) rfl (of_decide_eq_true rfl) (TxB.mono _ _) (fun w2 hw2 => ?_) ?_
      · simp only [relOf, List.filter_nil, forallRel]
        refine ⟨rfl, ?_⟩
        go_simp
        refine (Cn.out w2).mono ?_
        rintro e w3 ⟨v, rfl, o3, b3⟩
        exact ⟨v, rfl, TxB.own (o3.lower hw2.size), b3⟩
      refine wpX_rel 18 (TxtO wr.heap.size T) rfl (of_decide_eq_true rfl) (TxtO.mono _ _) (fun w2 hw2 => ?_) ?_
      · change forallRel w2 [(17, _)] _ _
        intro v17 h17
        obtain ⟨a17, c17, rfl, _⟩ := h17.1.form
        simp only [forallRel]
        refine ⟨rfl, ?_⟩
        go_simp
        refine (text_any _ _ _ _).mono ?_
        rintro e w3 ⟨rfl, b3⟩
        exact ⟨_, rfl, ⟨a17, _, c17, rfl, TxB.mono _ _ _ _ _ h17 b3⟩, b3⟩
      refine wpX_rel 19 (OneO wr.heap.size T) rfl (of_decide_eq_true rfl) (OneO.mono _ _) (fun w2 hw2 => ?_) ?_
      · change forallRel w2 [(18, _)] _ _
        rintro v18 ⟨a18, n18, c18, rfl, h18⟩
        simp only [forallRel]
        refine ⟨rfl, ?_⟩
        go_simp
        have hb18 : Below w2.heap.size w2 (w2.alloc (.cells #[.bool false, .slice a18 n18 c18, .slice none 0 0] 128)) := (Below.refl _ _).alloc (Nat.le_refl _) _
        exact ⟨hb18, w2.heap.size, a18, n18, c18, rfl, Row.built icells_len w2 128 [txt (.slice a18 n18 c18) T] 1 rfl (by unfold maxLen; omega), TxB.mono _ _ _ _ _ h18 hb18⟩
      refine wpX_nil ?_
      intro u2 hb2 v17 h17 v18 h18 v19 h19
      change wpList _ _ _ [_, _, _] _ _
      obtain ⟨g19, a19, n19, c19, rfl, r19, f19⟩ := h19
      have F2 := F.kept hb2
      have Fp2 := F.text (Nat.le_refl _) f19
      have Fp2' : Fp (fun x => g9 + 1 ≤ x ∧ (Value.slice ka k kc).ownBlock ≠ some x) u2 (txt (.slice a19 n19 c19) T) := Fp2
      clear k1 h17 h18 F
      go_wp2_with (refine wpList_appB (o := ⟨some 20, _, _, _, _, _⟩) (by rfl) (.tmp 14) (.tmp 19) 126 (by rfl) elItem (by intro u hu; simp [txt, icells] at hu; rcases hu with rfl | rfl | rfl <;> rfl) (by rfl) F2.hO (by rfl) r19 F2.hm.lt (by rw [Hpl.out]; simp; omega) (by rw [Hpl.out]; unfold maxLen; simp; omega) ?_; intro v5 w5 hO5 gg5 pp5; obtain ⟨a5, c5, rfl, _⟩ := hO5.form' (k + 1) (by rw [List.length_append, Hpl.out]; rfl); have F5 := F2.grew Fp2' gg5 hO5 pp5; have hne5 : (Value.slice ka k kc).ownBlock ≠ some g9 := fun e => (by have := F2.hO.lt g9 e; omega); obtain ⟨y5, hy5⟩ := (F2.hm.grown gg5 hne5).has 2 (by simp); have hf5 := (F2.hm.grown gg5 hne5).free 2)
      rw [← txts_snoc ps (.slice a19 n19 c19, T)] at F5
      go_roundw
      case rel => exact ⟨k + 1, .slice a5 (k + 1) c5, ps ++ [(.slice a19 n19 c19, T)], by omega, by go_num, F5, Lib.hid (by rw [List.map_append, Hps.out, Hnext.out]; rfl)⟩
      case measure => simp [intOf]; omega
    · obtain rfl : k = n := by omega
      have hps : ps.map (·.2) = l.map numB := by rw [Hps.out, List.take_of_length_le (by rw [Hn.out]; exact Nat.le_refl _)]
      have hz := (F.hz _ List.mem_cons_self).1
      have hg9 := F.h1
      have hz9 : w.heap.size < g9 := (F.hz _ List.mem_cons_self).2
      go_wp2_with (first
        | (refine wpList_loadA (o := ⟨some 23, _, _, _, _, _⟩) (by rfl) 128 (.tmp 3) (by rfl) g9 (by rfl) aggItem F.hm (by rfl) ?_)
        | ((with_reducible show wpList _ _ _ (⟨none, Op.store _ _ (Operand.tmp 23), _, _, _, _⟩ :: _) _ _); refine wpList_storeA (o := ⟨none, _, _, _, _, _⟩) (by rfl) 128 (.tmp 2) (.tmp 23) (by rfl) w.heap.size [.bool true, .slice none 0 0, .slice ka k kc] (by rfl) (by rfl) aggItem hz (by rfl) (by rfl) (by intro u hu; simp at hu; rcases hu with rfl | rfl | rfl <;> rfl) F.hb (Nat.le_refl _) ?_; intro w5 hh5 hbel5 gg5))
      exact bodyPost_ret (results_blk rfl _ _ w.heap.size aggItem hh5 rfl rfl) rfl ⟨_, rfl, ps, F.off gg5 hz9, hps, hbel5⟩
end Go.Proofs.Ytffkjjpjfehcnaa
