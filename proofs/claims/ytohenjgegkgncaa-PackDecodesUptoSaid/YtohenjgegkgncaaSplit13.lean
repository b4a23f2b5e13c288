/- The reference's PSplit. -/
import Derived.Test.YtohenjgegkgncaaSplit12
set_option linter.unusedSimpArgs false
set_option linter.unusedVariables false
namespace Go.Proofs.Ytohenjgegkgncaa
open Go.RowKit
set_option maxHeartbeats 1000000 in
set_option maxRecDepth 100000 in
theorem psplit_none (n : Nat) (a : Option Addr) (L c : Nat) (b : List UInt8) (hL : b.length = L) (hLs : L ≤ 1048576) (w : World) (h : Bytes w (.slice a L c) b) (hp : prdB b = none) : Calls Try.prog 16 #[.slice a L c] w (PSplitPost (par (n + 1) b) L w) := by
  rw [par_prd_none n b hp, PSplitPost_none]
  have hz := Blk.new w 25 [.bool false, .slice none 0 0, .slice none 0 0]
  have hbel : Below w.heap.size w (w.alloc (.cells #[.bool false, .slice none 0 0, .slice none 0 0] 25)) := (Below.refl _ _).alloc (Nat.le_refl _) _
  have pr := fun u (hu : Bytes u (.slice a L c) b) => pread_any a L c b hL hLs u hu
  rw [hp] at pr
  have Pr := Lib.hid pr
  clear pr hp hL
  go_enter Try.func16, Try.ntmps16
  go_wp2_with (first
    | (go_at_call 73; (with_reducible refine (Pr.out _ (h.alloc _)).mono ?_); rintro e w1 ⟨b1, rfl⟩; have hz1 := hz.kept b1; have hbel1 := Below.then hbel b1)
    | ((with_reducible show wpList _ _ _ (⟨none, Op.store _ _ (Operand.tmp 23), _, _, _, _⟩ :: _) _ _); refine wpList_storeA (o := ⟨none, _, _, _, _, _⟩) (by rfl) 25 (.tmp 2) (.tmp 23) (by rfl) w.heap.size [.bool false, .slice none 0 0, .slice none 0 0] (by rfl) (by rfl) aggItem hz1 (by rfl) (by rfl) (by intro u hu; simp at hu; rcases hu with rfl | rfl <;> rfl) hbel1 (Nat.le_refl _) ?_; intro w5 hh5 hbel5 _))
  have k0 := hh5.cell 0
  have k1 := hh5.cell 1
  have k2 := hh5.cell 2
  simp only [List.getElem?_cons_zero, List.getElem?_cons_succ] at k0 k1 k2
  exact bodyPost_ret (v := .tuple #[.agg #[.bool false, .slice none 0 0, .slice none 0 0], .int .i64 0, .int .i64 1]) (by simp [results, Try.results16, go_sem, k0, k1, k2]) rfl ⟨rfl, hbel5⟩
set_option maxHeartbeats 1000000 in
set_option maxRecDepth 100000 in
theorem psplit_text (n : Nat) (a : Option Addr) (L c : Nat) (b : List UInt8) (hL : b.length = L) (hLs : L ≤ 1048576) (w : World) (h : Bytes w (.slice a L c) b) (f t : Nat) (hp : prdB b = some (f, t, false)) : Calls Try.prog 16 #[.slice a L c] w (PSplitPost (par (n + 1) b) L w) := by
  obtain ⟨hft, htL, _, hpar⟩ := par_prd_some n b f t false hp
  rw [hpar, if_neg (by simp), PSplitPost_some]
  have hrl : L - (b.drop t).length = t := by rw [List.length_drop]; omega
  rw [hrl]
  have hz := Blk.new w 25 [.bool false, .slice none 0 0, .slice none 0 0]
  have hbel : Below w.heap.size w (w.alloc (.cells #[.bool false, .slice none 0 0, .slice none 0 0] 25)) := (Below.refl _ _).alloc (Nat.le_refl _) _
  have hszw : w.heap.size < (w.alloc (.cells #[.bool false, .slice none 0 0, .slice none 0 0] 25)).heap.size := by simp
  have pr := fun u (hu : Bytes u (.slice a L c) b) => pread_any a L c b hL hLs u hu
  rw [hp] at pr
  have h' := h
  rw [← hL] at h'
  obtain ⟨a1, c1, q1, r1⟩ := h'.between elU8 f t hft htL (f : Int) (t : Int) rfl rfl
  rw [hL] at q1 htL
  obtain ⟨k, hk⟩ : ∃ k, k = t - f := ⟨_, rfl⟩
  rw [← hk] at q1 r1
  have hlk : ((b.take t).drop f).length = k := by rw [List.length_drop, List.length_take]; omega
  obtain ⟨l, hl⟩ : ∃ l, l = (b.take t).drop f := ⟨_, rfl⟩
  rw [← hl] at hlk r1
  rw [← hl]
  have Hlk := Lib.hid hlk
  have Pr := Lib.hid pr
  have hk8 : k ≤ 1048576 := by omega
  clear pr hp hL hpar hl hlk h' hk hft htL
  go_enter Try.func16, Try.ntmps16
  go_wp2_with (first
    | (go_at_call 73; (with_reducible refine (Pr.out _ (h.alloc _)).mono ?_); rintro e w1 ⟨b1, rfl⟩; have hz1 := hz.kept b1; have hbel1 := Below.then hbel b1; have hs1 := b1.size)
    | (refine wpList_appA (o := ⟨some 31, _, _, _, _, _⟩) (by rfl) (.tmp 26) (.tmp 30) 22 (by rfl) elU8 (by rfl) (OwnOf.empty b8 1 5 w1 (w.heap.size + 1) (by omega)) (by rfl) ((r1.below hbel1).alloc _) (by simp; omega) (by rw [Hlk.out]; simp; omega) (by rw [Hlk.out]; unfold maxLen; simp; omega) ?_; intro v6 w6 o6 g6 p6; have hz6 := (hz1.alloc (.cells #[] 5)).grown g6 (by simp [Value.ownBlock]; omega); have hbel6 := (hbel1.alloc (by omega) (.cells #[] 5)).grown g6 (by simp; omega) (by intro y hy; simp [Value.ownBlock] at hy; omega); obtain ⟨a6, c6, rfl, _⟩ := o6.form' k (by rw [List.nil_append]; exact Hlk.out))
    | (go_at_call 74; (with_reducible refine (ptext_any _ _ _ _).mono ?_); rintro e w7 ⟨rfl, b7⟩; have hz7 := hz6.kept b7; have o7 := o6.kept b7; have hbel7 := Below.then hbel6 b7)
    | ((with_reducible show wpList _ _ _ (⟨none, Op.store _ _ (Operand.tmp 32), _, _, _, _⟩ :: _) _ _); refine wpList_storeA (o := ⟨none, _, _, _, _, _⟩) (by rfl) 25 (.tmp 2) (.tmp 32) (by rfl) w.heap.size [.bool false, .slice a6 k c6, .slice none 0 0] (by rfl) (by rfl) aggItem hz7 (by rfl) (by rfl) (by intro u hu; simp at hu; rcases hu with rfl | rfl | rfl <;> rfl) hbel7 (Nat.le_refl _) ?_; intro w8 hh8 hbel8 g8; have o8 := o7.grown g8 (fun j hj e => by cases hj; have := o7.lt _ e; omega)))
  have k0 := hh8.cell 0
  have k1 := hh8.cell 1
  have k2 := hh8.cell 2
  simp only [List.getElem?_cons_zero, List.getElem?_cons_succ] at k0 k1 k2
  exact bodyPost_ret (v := .tuple #[.agg #[.bool false, .slice a6 k c6, .slice none 0 0], .int .i64 (t : Int), .int .i64 0]) (by simp [results, Try.results16, go_sem, k0, k1, k2]) rfl ⟨.mk false (.slice a6 k c6) l (.slice none 0 0) [], rfl, hbel8, Fp.txt o8 (fun _ h => by omega), by rw [erI_mk]; rfl⟩
set_option maxHeartbeats 2000000 in
set_option maxRecDepth 100000 in
theorem psplit_list (n : Nat) (ih : ∀ (b : List UInt8), b.length ≤ n → b.length ≤ 1048576 → ∀ (a : Option Addr) (L c : Nat) (w : World), b.length = L → Bytes w (.slice a L c) b → Calls Try.prog 16 #[.slice a L c] w (PSplitPost (par n b) L w))
    (a : Option Addr) (L c : Nat) (b : List UInt8) (hL : b.length = L) (hn : L ≤ n + 1) (hLs : L ≤ 1048576) (w : World) (h : Bytes w (.slice a L c) b) (f t : Nat) (hp : prdB b = some (f, t, true)) : Calls Try.prog 16 #[.slice a L c] w (PSplitPost (par (n + 1) b) L w) := by
  obtain ⟨hft, htL, hf1, hpar⟩ := par_prd_some n b f t true hp
  have hf1 := hf1 rfl
  rw [hpar, if_pos rfl]
  have hrl : L - (b.drop t).length = t := by rw [List.length_drop]; omega
  obtain ⟨d, hd⟩ : ∃ d, d = b.drop t := ⟨_, rfl⟩
  rw [← hd] at hrl
  rw [← hd]
  obtain ⟨PL, hPL⟩ : ∃ PL, PL = parL (par n) (t - f) ((b.take t).drop f) := ⟨_, rfl⟩
  rw [← hPL]
  have hz := Blk.new w 25 [.bool false, .slice none 0 0, .slice none 0 0]
  have hbel : Below w.heap.size w (w.alloc (.cells #[.bool false, .slice none 0 0, .slice none 0 0] 25)) := (Below.refl _ _).alloc (Nat.le_refl _) _
  have hszw : w.heap.size < (w.alloc (.cells #[.bool false, .slice none 0 0, .slice none 0 0] 25)).heap.size := by simp
  have pr := fun u (hu : Bytes u (.slice a L c) b) => pread_any a L c b hL hLs u hu
  rw [hp] at pr
  have h' := h
  rw [← hL] at h'
  have hsub : ∀ i, i ≤ t → ∃ a' c', (∀ k k' w', (Instr.slice 22 (.slice a L c) (some (.int k (i : Int))) (some (.int k' (t : Int))) none).run Try.prog w' = .ok (.slice a' (t - i) c') w') ∧ Bytes w (.slice a' (t - i) c') ((b.take t).drop i) := by
    intro i hi
    obtain ⟨a1, c1, q1, r1⟩ := h'.between elU8 i t hi htL (i : Int) (t : Int) rfl rfl
    rw [hL] at q1
    exact ⟨a1, c1, q1, r1⟩
  have hlen : ∀ i, i ≤ t → ((b.take t).drop i).length = t - i := fun i hi => by rw [List.length_drop, List.length_take]; omega
  have HPL := Lib.hid hPL
  have Pr := Lib.hid pr
  have Hsub := Lib.hid hsub
  have Hlen := Lib.hid hlen
  have Ih := Lib.hid ih
  have Hrl := Lib.hid hrl
  have htn : t ≤ n + 1 := by omega
  have ht8 : t ≤ 1048576 := by omega
  clear pr hp hL hpar h' hd hPL hsub hlen ih hrl htL
  go_enter Try.func16, Try.ntmps16
  go_wp2_with (first
    | (go_at_call 73; (with_reducible refine (Pr.out _ (h.alloc _)).mono ?_); rintro e w1 ⟨b1, rfl⟩; have hz1 := hz.kept b1; have hbel1 := Below.then hbel b1; have hs1 := b1.size)
    | (go_at_call 75; refine (plist_any none 0 0 _).mono ?_; rintro e w2 ⟨rfl, b2⟩; have hz2 := hz1.kept b2; have hbel2 := Below.then hbel1 b2; have hs2 := b2.size)
    | ((with_reducible show wpList _ _ _ (⟨none, Op.store _ _ (Operand.tmp 34), _, _, _, _⟩ :: _) _ _); refine wpList_storeA (o := ⟨none, _, _, _, _, _⟩) (by rfl) 25 (.tmp 9) (.tmp 34) (by rfl) w2.heap.size [.bool true, .slice none 0 0, .slice none 0 0] (by rfl) (by rfl) aggItem (Blk.new w2 25 [.bool false, .slice none 0 0, .slice none 0 0]) (by rfl) (by rfl) (by intro u hu; simp at hu; rcases hu with rfl | rfl <;> rfl) (hbel2.alloc (by omega) (.cells #[.bool false, .slice none 0 0, .slice none 0 0] 25)) (by omega) ?_; intro w3 hm3 hbel3 g3; have hz3 := (hz2.alloc (.cells #[.bool false, .slice none 0 0, .slice none 0 0] 25)).grown g3 (by simp <;> omega)))
  have F3 : LrW w w2.heap.size (.slice none 0 0) [] w3 := ⟨hbel3, hz3, hm3, OwnOf.nil icells 3 _ _ _, by simp, by omega⟩
  obtain ⟨g9, hg9⟩ : ∃ g9, g9 = w2.heap.size := ⟨_, rfl⟩
  rw [← hg9] at F3
  rw [← hg9]
  clear hz hbel hszw b1 hz1 hbel1 hs1 b2 hz2 hbel2 hs2 hm3 hbel3 g3 hz3 hg9
  try simp only [Act.put]
  go_loopw [10] (fun i wr => ∃ (at' m : Nat) (kv : Value) (ks : List Itm), i = .int .i64 (at' : Int) ∧ f ≤ at' ∧ at' ≤ t ∧ LrW w g9 kv ks wr ∧ t - at' ≤ m ∧ ks.length + (t - at') ≤ t - f ∧ PL = (parL (par n) m ((b.take t).drop at')).map (fun ps => ks.map erI ++ ps)) (fun i _ => t - (intOf i).toNat)
  case atStart => exact ⟨f, t - f, .slice none 0 0, [], rfl, Nat.le_refl _, hft, F3, Nat.le_refl _, by simp, by rw [HPL.out]; cases parL (par n) (t - f) ((b.take t).drop f) <;> simp⟩
  case round =>
    clear F3
    obtain ⟨i, m, kv, ks, rfl, hfi, hit, F, hm, hks, hrel2⟩ := hrel
    have HRel := Lib.hid hrel2
    clear hrel2
    obtain ⟨ka, kc, rfl, _⟩ := F.hO.form
    by_cases hlt : i < t
    · have hlti : (i : Int) < (t : Int) := by omega
      obtain ⟨a1, c1, q1, r1⟩ := Hsub.out i hit
      have hrem := Hlen.out i hit
      obtain ⟨rem, hremd⟩ : ∃ rem, rem = (b.take t).drop i := ⟨_, rfl⟩
      rw [← hremd] at r1 hrem
      have hrel3 := HRel.out
      rw [← hremd] at hrel3
      obtain ⟨L6, hL6⟩ : ∃ L6, L6 = t - i := ⟨_, rfl⟩
      rw [← hL6] at q1 r1 hrem hm hks
      have hrne : rem ≠ [] := fun e => by rw [e] at hrem; simp at hrem; omega
      obtain ⟨m', rfl⟩ : ∃ m', m = m' + 1 := ⟨m - 1, by omega⟩
      have hc := fun (u : World) (hu : Bytes u (.slice a1 L6 c1) rem) => Ih.out rem (by omega) (by omega) a1 L6 c1 u hrem hu
      have r1' := r1.below F.hb
      cases hpar : par n rem with
      | none =>
        have hPL2 : PL = none := by rw [hrel3, parL_none hrne hpar]; rfl
        subst hPL2
        simp only [hpar, PSplitPost_none] at hc
        have Hc := Lib.hid hc
        clear hc hpar hrne hrel3 hremd hrem hL6
        go_wp2_with (first
          | (go_at_call 16; (with_reducible refine (Hc.out _ r1').mono ?_); rintro e w4 ⟨rfl, b4⟩; have F4 := F.kept b4)
          | ((with_reducible show wpList _ _ _ (⟨none, Op.store _ _ (Operand.tmp 45), _, _, _, _⟩ :: _) _ _); refine wpList_storeA (o := ⟨none, _, _, _, _, _⟩) (by rfl) 25 (.tmp 11) (.tmp 45) (by rfl) w4.heap.size [.bool false, .slice none 0 0, .slice none 0 0] (by rfl) (by rfl) aggItem (Blk.new w4 25 [.bool false, .slice none 0 0, .slice none 0 0]) (by rfl) (by rfl) (by intro u hu; simp at hu; rcases hu with rfl | rfl <;> rfl) (((Below.refl w4.heap.size w4).alloc (Nat.le_refl _) (.cells #[.bool false, .slice none 0 0, .slice none 0 0] 25))) (Nat.le_refl _) ?_; intro w5 h11 b5 g5; have F5 := F4.kept b5)
          | ((with_reducible show wpList _ _ _ (⟨none, Op.store _ _ (Operand.tmp 50), _, _, _, _⟩ :: _) _ _); refine wpList_storeA (o := ⟨none, _, _, _, _, _⟩) (by rfl) 25 (.tmp 2) (.tmp 50) (by rfl) w.heap.size [.bool false, .slice none 0 0, .slice none 0 0] (by rfl) (by rfl) aggItem F5.hz (by rfl) (by rfl) (by intro u hu; simp at hu; rcases hu with rfl | rfl <;> rfl) F5.hb (Nat.le_refl _) ?_; intro w6 hh6 hbel6 _))
        have k0 := hh6.cell 0
        have k1 := hh6.cell 1
        have k2 := hh6.cell 2
        simp only [List.getElem?_cons_zero, List.getElem?_cons_succ] at k0 k1 k2
        exact bodyPost_ret (v := .tuple #[.agg #[.bool false, .slice none 0 0, .slice none 0 0], .int .i64 0, .int .i64 1]) (by simp [results, Try.results16, go_sem, k0, k1, k2]) rfl ⟨rfl, hbel6⟩
      | some pr =>
        obtain ⟨p, r2⟩ := pr
        obtain ⟨j, hj, hj1, hjl⟩ := par_suf n rem p r2 hpar
        have hj2 : L6 - r2.length = j := by rw [hj, List.length_drop]; omega
        have hPL2 : PL = (parL (par n) m' ((b.take t).drop (i + j))).map (fun ps => (ks.map erI ++ [p]) ++ ps) := by
          rw [hrel3, parL_some hrne hpar, hj, hremd, List.drop_drop]
          cases parL (par n) m' (List.drop (i + j) (List.take t b)) <;> simp
        simp only [hpar, PSplitPost_some, hj2] at hc
        have Hc := Lib.hid hc
        have HPL2 := Lib.hid hPL2
        have hjL : j ≤ L6 := by omega
        have hst : IntKind.i64.wrap ((i : Int) + (j : Int)) = ((i + j : Nat) : Int) := by rw [show (i : Int) + (j : Int) = ((i + j : Nat) : Int) from by omega]; exact IntWalk.i64_in _ (by omega)
        obtain ⟨i2, hi2⟩ : ∃ i2, i2 = i + j := ⟨_, rfl⟩
        rw [← hi2] at hst
        have hst' : (i : Int) + (j : Int) = (i2 : Int) := by omega
        obtain ⟨kn, hkn⟩ : ∃ kn, kn = ks.length := ⟨_, rfl⟩
        rw [← hkn] at F hks
        have Hkn := Lib.hid hkn.symm
        have Hi2 := Lib.hid hi2
        have HL6 := Lib.hid hL6
        clear hc hpar hrne hrel3 hremd hrem hPL2 hj hj2 hkn hi2 hL6 HRel hjl
        go_wp2_with (first
          | (go_at_call 16; (with_reducible refine (Hc.out _ r1').mono ?_); rintro e w4 ⟨it, rfl, b4, Fp4, he4⟩; have F4 := F.kept b4; have Fp4' := F.apart Fp4; obtain ⟨l2, tv2, t2, kv2, ks2⟩ := it; obtain ⟨ta2, tc2, rfl, _, _⟩ := Fp4'.is.inv.1.form; obtain ⟨ka2, kc2, rfl, _, _⟩ := Fp4'.is.inv.2.1.form; obtain ⟨tn2, htn2⟩ : ∃ tn2, tn2 = t2.length := ⟨_, rfl⟩; obtain ⟨kn2, hkn2⟩ : ∃ kn2, kn2 = ks2.length := ⟨_, rfl⟩; rw [← htn2, ← hkn2] at Fp4' he4; rw [← htn2, ← hkn2]; clear htn2 hkn2 Fp4; simp only [icells])
          | ((with_reducible show wpList _ _ _ (⟨none, Op.store _ _ (Operand.tmp 45), _, _, _, _⟩ :: _) _ _); refine wpList_storeA (o := ⟨none, _, _, _, _, _⟩) (by rfl) 25 (.tmp 11) (.tmp 45) (by rfl) w4.heap.size [.bool l2, .slice ta2 tn2 tc2, .slice ka2 kn2 kc2] (by rfl) (by rfl) aggItem (Blk.new w4 25 [.bool false, .slice none 0 0, .slice none 0 0]) (by rfl) (by rfl) (by intro u hu; simp at hu; rcases hu with rfl | rfl | rfl <;> rfl) (((Below.refl w4.heap.size w4).alloc (Nat.le_refl _) (.cells #[.bool false, .slice none 0 0, .slice none 0 0] 25))) (Nat.le_refl _) ?_; intro w5 h11 b5 g5; have F5 := F4.kept b5; have Fp5 := Fp4'.to b5.size (fun x hx hl => ⟨b5.block x hl, hx⟩); have hk52 : w5.cell? ⟨g9, 2, none⟩ = some (.slice ka kn kc) := F5.hm.cell 2)
          | (refine wpList_loadA (o := ⟨some 53, _, _, _, _, _⟩) (by rfl) 25 (.tmp 11) (by rfl) w4.heap.size (by rfl) aggItem h11 (by rfl) ?_)
          | (refine wpList_buildW (o := ⟨some 54, _, _, _, _, _⟩) (by rfl) 23 1 [(0, .tmp 53)] (by rfl) elItem [.mk l2 (.slice ta2 tn2 tc2) t2 (.slice ka2 kn2 kc2) ks2] [.agg #[.bool l2, .slice ta2 tn2 tc2, .slice ka2 kn2 kc2]] (by rfl) (by rfl) (by rfl) (by omega) (by omega) ?_; intro w6 _ hr6 b6; have F6 := F5.kept b6; have Fp6 := Fp5.to b6.size (fun x hx hl => ⟨b6.block x hl, hx⟩))
          | (refine wpList_appB (o := ⟨some 55, _, _, _, _, _⟩) (by rfl) (.tmp 52) (.tmp 54) 23 (by rfl) elItem (by intro u hu; simp [icells] at hu; rcases hu with rfl | rfl | rfl <;> rfl) (by rfl) F6.hO (by rfl) hr6 F6.hm.lt (by rw [Hkn.out]; simp; omega) (by rw [Hkn.out]; unfold maxLen; simp; omega) ?_; intro v7 w7 hO7 gg7 pp7; obtain ⟨ka7, kc7, rfl, _⟩ := hO7.form' (kn + 1) (by rw [List.length_append, Hkn.out]; rfl); have F7 := F6.grew Fp6 gg7 hO7 pp7; have hne7 : (Value.slice ka kn kc).ownBlock ≠ some g9 := fun e => (by have := F6.hO.lt g9 e; omega); obtain ⟨y7, hy7⟩ := (F6.hm.grown gg7 hne7).has 2 (by simp); have hf7 := (F6.hm.grown gg7 hne7).free 2))
        go_roundw
        case rel => exact ⟨i2, m', _, _, rfl, by have := Hi2.out; omega, by have := Hi2.out; have := HL6.out; omega, F7, by have := Hi2.out; have := HL6.out; omega, by have := Hi2.out; have := HL6.out; rw [List.length_append, Hkn.out]; simp; omega, by rw [HPL2.out, List.map_append, List.map_singleton, he4, Hi2.out]⟩
        case measure => have := Hi2.out; simp [intOf]; omega
    · obtain rfl : i = t := by omega
      have hPL2 : PL = some (ks.map erI) := by
        rw [HRel.out, show (b.take i).drop i = [] from List.eq_nil_of_length_eq_zero (by have := Hlen.out i hit; omega), parL_nil]; simp
      subst hPL2
      go_wp2_with (first
        | (refine wpList_loadA (o := ⟨some 60, _, _, _, _, _⟩) (by rfl) 25 (.tmp 9) (by rfl) g9 (by rfl) aggItem F.hm (by rfl) ?_)
        | ((with_reducible show wpList _ _ _ (⟨none, Op.store _ _ (Operand.tmp 60), _, _, _, _⟩ :: _) _ _); refine wpList_storeA (o := ⟨none, _, _, _, _, _⟩) (by rfl) 25 (.tmp 2) (.tmp 60) (by rfl) w.heap.size [.bool true, .slice none 0 0, .slice ka ks.length kc] (by rfl) (by rfl) aggItem F.hz (by rfl) (by rfl) (by intro u hu; simp at hu; rcases hu with rfl | rfl | rfl <;> rfl) F.hb (Nat.le_refl _) ?_; intro w9 hh9 hbel9 hg9))
      have q1 := F.h1
      have o9 := F.hO.grown hg9 (fun y hy e => by cases hy; have := F.hO.lt _ e; omega)
      have k0 := hh9.cell 0
      have k1 := hh9.cell 1
      have k2 := hh9.cell 2
      simp only [List.getElem?_cons_zero, List.getElem?_cons_succ] at k0 k1 k2
      refine bodyPost_ret (v := .tuple #[.agg #[.bool true, .slice none 0 0, .slice ka ks.length kc], .int .i64 (i : Int), .int .i64 0]) (by simp [results, Try.results16, go_sem, k0, k1, k2]) rfl ⟨.mk true (.slice none 0 0) [] (.slice ka ks.length kc) ks, ?_, hbel9, Fp.lst o9 (fun k hk => (F.hF k hk).to hg9.size (fun y hy hl => ⟨hg9.block y hl (by simp; omega), by omega⟩)) (fun y hy => by omega), by rw [erI_mk]; rfl⟩
      rw [Hrl.out]; rfl
theorem psplit_any : ∀ (n : Nat) (b : List UInt8), b.length ≤ n → b.length ≤ 1048576 → ∀ (a : Option Addr) (L c : Nat) (w : World), b.length = L → Bytes w (.slice a L c) b → Calls Try.prog 16 #[.slice a L c] w (PSplitPost (par n b) L w)
  | 0, [], _, h1, a, L, c, w, hL, h => psplit_none 0 a L c [] hL (by omega) w h rfl
  | 0, x :: r, h0, _, _, _, _, _, _, _ => by simp at h0
  | n + 1, b, h0, h1, a, L, c, w, hL, h => by
    cases hp : prdB b with
    | none => exact psplit_none n a L c b hL (by omega) w h hp
    | some q =>
      obtain ⟨f, t, l⟩ := q
      cases l with
      | false => exact psplit_text n a L c b hL (by omega) w h f t hp
      | true => exact psplit_list n (psplit_any n) a L c b hL (by omega) (by omega) w h f t hp
end Go.Proofs.Ytohenjgegkgncaa
