/- The reference's BRead: eleven kids. -/
import Derived.Test.YtffkjjpjfehcnaaHdr12
set_option linter.unusedSimpArgs false
set_option linter.unusedVariables false
namespace Go.Proofs.Ytffkjjpjfehcnaa
open Go.RowKit
theorem idx0w (N : Nat) (w : World) : (Instr.index 48 (.agg (wcs N).toArray) (.int .i64 0)).run Try.prog w = .ok (.int .u64 (lim N 0 : Int)) w :=
  run_index_at (n := 4) (e := 24) Try.underlying48 (by kernel_rfl) (fun w => run_isAgg_plain Try.underlying24 rfl w) _ 0 (by omega) rfl w .i64
theorem kid_texts {w1 : World} {ka : Option Addr} {n kc : Nat} {ks : List Itm} (hrow : RowOf icells 3 w1 (.slice ka n kc) ks) (hkids : ∀ k ∈ ks, IsItm w1 k) (h0 : 0 < ks.length) : ∃ b off, ka = some ⟨b, off, none⟩ ∧ ∀ i, i < ks.length → ∃ ta tc, 
    ∀ u, Below w1.heap.size w1 u → u.cell? ⟨b, off + i * 3 + 1, none⟩ = some (.slice ta ((ks.map itt)[i]?.getD []).length tc) ∧ Bytes u (.slice ta ((ks.map itt)[i]?.getD []).length tc) ((ks.map itt)[i]?.getD []) := by
  obtain ⟨b, off, _, _, rfl, _⟩ := kid_text hrow hkids 0 h0
  refine ⟨b, off, rfl, fun i hi => ?_⟩
  obtain ⟨b', off', ta, tc, e, h⟩ := kid_text hrow hkids i hi
  simp only [Option.some.injEq, Addr.mk.injEq, and_true] at e
  obtain ⟨rfl, rfl⟩ := e
  exact ⟨ta, tc, h⟩
/-- a new header of noughts -/
def PtrZ (B : Nat) : Ty := fun v w => ∃ g, v = .pointer (some ⟨g, 0, none⟩) ∧ B ≤ g ∧ Blk 28 w g (hdcs zH)
theorem PtrZ.mono (B : Nat) : Mono (PtrZ B) := fun _ _ _ ⟨g, h1, h2, h3⟩ hb => ⟨g, h1, h2, h3.kept hb⟩
set_option maxHeartbeats 4000000 in
set_option maxRecDepth 100000 in
theorem bread_good (a : Option Addr) (L c : Nat) (b : List UInt8) (hL : b.length = L) (hLs : L ≤ 1048576) (hE : decE b = 0) (h11 : kidsN (decP b) = 11) (w : World) (h : Bytes w (.slice a L c) b) : Calls Try.prog 15 #[.slice a L c] w (ReadC b w) := by
  obtain ⟨H, hH⟩ : ∃ H, H = rdH nfR (kidT (decP b)) := ⟨_, rfl⟩
  have hHok : H.Ok := by rw [hH]; exact rdH_ok nfR_lt _
  have hyes : ∀ u, (wH H == b) = true → Below w.heap.size w u → ReadC b w (.returned (.tuple #[.agg (hdcs H).toArray, .int .i64 0])) u := fun u he hu => ⟨H, 0, rfl, hHok, rd_yes (by simpa using he), hu⟩
  have hno : ∀ u, (wH H == b) = false → Below w.heap.size w u → ReadC b w (.returned (.tuple #[.agg (hdcs zH).toArray, .int .i64 1])) u := fun u he hu => ⟨zH, 1, rfl, zH_ok, rd_not nfR_num (by rw [← hH]; simpa using he), hu⟩
  have hz : Blk 28 (w.alloc (.cells Try.zeroCells28 28)) w.heap.size (hdcs zH) := by rw [zcHd]; exact Blk.new w _ _
  have hbel : Below w.heap.size w (w.alloc (.cells Try.zeroCells28 28)) := (Below.refl _ _).alloc (Nat.le_refl _) _
  have hlt0 := hz.lt
  have cc := fun u (hu : Bytes u (.slice a L c) b) => pdecode_any a L c b hL hLs u hu
  rw [hE] at cc
  have C := Lib.hid cc
  have Hyes := Lib.hid hyes
  have Hno := Lib.hid hno
  have H11 := Lib.hid h11
  have HH := Lib.hid hH
  have Hok := Lib.hid hHok
  have hl204 := hdcs_len zH_ok
  clear cc hE h11 hL hLs hyes hno hH hHok
  go_enter Try.func15, Try.ntmps15
  go_wp2_with (first
    | (go_at_call 77; (with_reducible refine (C.out _ (h.alloc _)).mono ?_); rintro e w1 ⟨it, rfl, b1, hF, hbare, he⟩; have hz1 := hz.kept b1; have hbel1 := Below.then hbel b1; have hs1 := Nat.lt_of_lt_of_le hlt0 b1.size; obtain ⟨l, tv, t, kv, ks⟩ := it; have hkk := kids_of hbare he; obtain ⟨ta, tc, rfl, _, _⟩ := hF.is.inv.1.form; obtain ⟨ka, kc, rfl, _, _⟩ := hF.is.inv.2.1.form; have hkn : ks.length = 11 := hkk.1.trans H11.out; have hI1 := hF.is; rw [hkn] at hI1; rw [hkn]; have Hkn := Lib.hid hkn; have Hkk : Hid (ks.map itt = kidT (decP b)) := Lib.hid hkk.2.2; clear hF hbare he hkk hkn; simp only [icells])
    | ((with_reducible show wpList _ _ _ (⟨none, Op.store _ _ (Operand.tmp 11), _, _, _, _⟩ :: _) _ _); refine wpList_storeA (o := ⟨none, _, _, _, _, _⟩) (by rfl) 128 (.tmp 4) (.tmp 11) (by rfl) w1.heap.size [.bool l, .slice ta t.length tc, .slice ka 11 kc] (by rfl) (by rfl) aggItem (Blk.new w1 128 [.bool false, .slice none 0 0, .slice none 0 0]) (by rfl) (by rfl) (by intro u hu; simp at hu; rcases hu with rfl | rfl | rfl <;> rfl) (((Below.refl w1.heap.size w1).alloc (Nat.le_refl _) (.cells #[.bool false, .slice none 0 0, .slice none 0 0] 128))) (Nat.le_refl _) ?_; intro w4 h4 b4 _; have hz4 := hz1.kept b4; have hbel4 := Below.then hbel1 b4; have c42 : w4.cell? ⟨w1.heap.size, 2, none⟩ = some (.slice ka 11 kc) := h4.cell 2))
  have hrow := hI1.inv.2.1
  have hkids := hI1.inv.2.2
  obtain ⟨bk, ok, rfl, hkT⟩ := kid_texts hrow hkids (by rw [Hkn.out]; omega)
  obtain ⟨ts, hts⟩ : ∃ ts, ts = ks.map itt := ⟨_, rfl⟩
  rw [Hkn.out, ← hts] at hkT
  have KT := Lib.hid hkT
  have Hts := Lib.hid hts
  obtain ⟨ta1, tc1, k1⟩ := hkT 1 (by omega)
  obtain ⟨ta2, tc2, k2⟩ := hkT 2 (by omega)
  obtain ⟨ta3, tc3, k3⟩ := hkT 3 (by omega)
  obtain ⟨ta4, tc4, k4⟩ := hkT 4 (by omega)
  obtain ⟨T1, hT1⟩ : ∃ T, T = ts[1]?.getD [] := ⟨_, rfl⟩
  obtain ⟨T2, hT2⟩ : ∃ T, T = ts[2]?.getD [] := ⟨_, rfl⟩
  obtain ⟨T3, hT3⟩ : ∃ T, T = ts[3]?.getD [] := ⟨_, rfl⟩
  obtain ⟨T4, hT4⟩ : ∃ T, T = ts[4]?.getD [] := ⟨_, rfl⟩
  rw [← hT1] at k1
  rw [← hT2] at k2
  rw [← hT3] at k3
  rw [← hT4] at k4
  have r1 := fun u : Ext w4 => k1 u.val (Below.then b4 u.property)
  have q1 := fun u : Ext w4 => (r1 u).1
  obtain ⟨N1, hN1⟩ : ∃ N, N = numL (last32 T1) := ⟨_, rfl⟩
  have R1 : Hid (∀ u, Below w4.heap.size w4 u → Calls Try.prog 78 #[.slice ta1 T1.length tc1] u fun e w' => e = .returned (.agg (wcs N1).toArray) ∧ Below u.heap.size u w') := Lib.hid (fun u hu => by rw [hN1]; exact wread_any ta1 tc1 T1 u (r1 ⟨u, hu⟩).2)
  have n1 : nfR T1 = lim N1 0 := by rw [hN1]; rfl
  rw [hT1] at n1
  have Nf1 := Lib.hid n1
  have x1 := fun u => idx0w N1 u
  have r2 := fun u : Ext w4 => k2 u.val (Below.then b4 u.property)
  have q2 := fun u : Ext w4 => (r2 u).1
  obtain ⟨N2, hN2⟩ : ∃ N, N = numL (last32 T2) := ⟨_, rfl⟩
  have R2 : Hid (∀ u, Below w4.heap.size w4 u → Calls Try.prog 78 #[.slice ta2 T2.length tc2] u fun e w' => e = .returned (.agg (wcs N2).toArray) ∧ Below u.heap.size u w') := Lib.hid (fun u hu => by rw [hN2]; exact wread_any ta2 tc2 T2 u (r2 ⟨u, hu⟩).2)
  have n2 : nfR T2 = lim N2 0 := by rw [hN2]; rfl
  rw [hT2] at n2
  have Nf2 := Lib.hid n2
  have x2 := fun u => idx0w N2 u
  have r3 := fun u : Ext w4 => k3 u.val (Below.then b4 u.property)
  have q3 := fun u : Ext w4 => (r3 u).1
  obtain ⟨N3, hN3⟩ : ∃ N, N = numL (last32 T3) := ⟨_, rfl⟩
  have R3 : Hid (∀ u, Below w4.heap.size w4 u → Calls Try.prog 78 #[.slice ta3 T3.length tc3] u fun e w' => e = .returned (.agg (wcs N3).toArray) ∧ Below u.heap.size u w') := Lib.hid (fun u hu => by rw [hN3]; exact wread_any ta3 tc3 T3 u (r3 ⟨u, hu⟩).2)
  have n3 : nfR T3 = lim N3 0 := by rw [hN3]; rfl
  rw [hT3] at n3
  have Nf3 := Lib.hid n3
  have x3 := fun u => idx0w N3 u
  have r4 := fun u : Ext w4 => k4 u.val (Below.then b4 u.property)
  have q4 := fun u : Ext w4 => (r4 u).1
  obtain ⟨N4, hN4⟩ : ∃ N, N = numL (last32 T4) := ⟨_, rfl⟩
  have R4 : Hid (∀ u, Below w4.heap.size w4 u → Calls Try.prog 78 #[.slice ta4 T4.length tc4] u fun e w' => e = .returned (.agg (wcs N4).toArray) ∧ Below u.heap.size u w') := Lib.hid (fun u hu => by rw [hN4]; exact wread_any ta4 tc4 T4 u (r4 ⟨u, hu⟩).2)
  have n4 : nfR T4 = lim N4 0 := by rw [hN4]; rfl
  rw [hT4] at n4
  have Nf4 := Lib.hid n4
  have x4 := fun u => idx0w N4 u
  simp only [Nat.reduceMul] at q1 q2 q3 q4
  clear r1 r2 r3 r4 k1 k2 k3 k4 hz hbel hlt0 C b1 hz1 hbel1 hI1 hrow hkids hkT hN1 hN2 hN3 hN4 n1 n2 n3 n4 hT1 hT2 hT3 hT4
  refine wp_region_typed w4 26 (by kernel_rfl) (by kernel_rfl) (Below.refl _ _) ?_; simp only [List.take_succ_cons, List.take_zero, List.take_nil]
  iterate 4 (refine wpX_step (by rfl) (fun K hK => ?_); go_simp; first | (refine hK _ ?_; clear hK K) | (apply Exists.intro; refine ⟨fun _ => ?_, hK _ ?_⟩; fail; clear hK K))
  (refine wpX_step (by rfl) (fun K hK => ?_); go_simp; first | (refine hK _ ?_; clear hK K) | (apply Exists.intro; refine ⟨fun _ => ?_, hK _ ?_⟩; exact R1.out _ (Subtype.property _); clear hK K))
  (refine wpX_step (by rfl) (fun K hK => ?_); go_simp; first | (refine hK _ ?_; clear hK K) | (apply Exists.intro; refine ⟨fun _ => ?_, hK _ ?_⟩; fail; clear hK K))
  iterate 4 (refine wpX_step (by rfl) (fun K hK => ?_); go_simp; first | (refine hK _ ?_; clear hK K) | (apply Exists.intro; refine ⟨fun _ => ?_, hK _ ?_⟩; fail; clear hK K))
  (refine wpX_step (by rfl) (fun K hK => ?_); go_simp; first | (refine hK _ ?_; clear hK K) | (apply Exists.intro; refine ⟨fun _ => ?_, hK _ ?_⟩; exact R2.out _ (Subtype.property _); clear hK K))
  (refine wpX_step (by rfl) (fun K hK => ?_); go_simp; first | (refine hK _ ?_; clear hK K) | (apply Exists.intro; refine ⟨fun _ => ?_, hK _ ?_⟩; fail; clear hK K))
  iterate 4 (refine wpX_step (by rfl) (fun K hK => ?_); go_simp; first | (refine hK _ ?_; clear hK K) | (apply Exists.intro; refine ⟨fun _ => ?_, hK _ ?_⟩; fail; clear hK K))
  (refine wpX_step (by rfl) (fun K hK => ?_); go_simp; first | (refine hK _ ?_; clear hK K) | (apply Exists.intro; refine ⟨fun _ => ?_, hK _ ?_⟩; exact R3.out _ (Subtype.property _); clear hK K))
  (refine wpX_step (by rfl) (fun K hK => ?_); go_simp; first | (refine hK _ ?_; clear hK K) | (apply Exists.intro; refine ⟨fun _ => ?_, hK _ ?_⟩; fail; clear hK K))
  iterate 4 (refine wpX_step (by rfl) (fun K hK => ?_); go_simp; first | (refine hK _ ?_; clear hK K) | (apply Exists.intro; refine ⟨fun _ => ?_, hK _ ?_⟩; fail; clear hK K))
  (refine wpX_step (by rfl) (fun K hK => ?_); go_simp; first | (refine hK _ ?_; clear hK K) | (apply Exists.intro; refine ⟨fun _ => ?_, hK _ ?_⟩; exact R4.out _ (Subtype.property _); clear hK K))
  (refine wpX_step (by rfl) (fun K hK => ?_); go_simp; first | (refine hK _ ?_; clear hK K) | (apply Exists.intro; refine ⟨fun _ => ?_, hK _ ?_⟩; fail; clear hK K))
  (refine wpX_step (by rfl) (fun K hK => ?_); go_simp; first | (refine hK _ ?_; clear hK K) | (apply Exists.intro; refine ⟨fun _ => ?_, hK _ ?_⟩; fail; clear hK K))
  refine wpX_rel 7 (PtrZ w4.heap.size) rfl (of_decide_eq_true rfl) (PtrZ.mono _) (fun w2 hw2 => ?_) ?_
  · simp only [relOf, List.filter_nil, forallRel]
    refine ⟨rfl, ?_⟩
    go_simp
    exact ⟨(Below.refl _ _).alloc (Nat.le_refl _) _, w2.heap.size, rfl, hw2.size, by rw [zcHd]; exact Blk.new w2 _ _⟩
  refine wpX_nil ?_
  intro u2 hb2 v7 h7
  change wpList _ _ _ [_] _ _
  obtain ⟨gh, rfl, hgh, hz7⟩ := h7
  have hl0 := hdcs_len (rdS_ok nfR_lt ts 0 0)
  have hl40 := hdcs_len (rdS_ok nfR_lt ts 4 0)
  have hbu : ((((Try.zeroCells28.setIfInBounds 32 (Value.int .u64 (lim N1 0 : Int))).setIfInBounds 33 (Value.int .u64 (lim N2 0 : Int))).setIfInBounds 42 (Value.int .u64 (lim N3 0 : Int))).setIfInBounds 43 (Value.int .u64 (lim N4 0 : Int))) = (hdcs (rdS nfR ts 4 0)).toArray := by
    have e1 := rdS_num nfR_lt ts 0 (by omega)
    have e2 := rdS_num nfR_lt ts 1 (by omega)
    have e3 := rdS_num nfR_lt ts 2 (by omega)
    have e4 := rdS_num nfR_lt ts 3 (by omega)
    rw [Nf1.out] at e1
    rw [Nf2.out] at e2
    rw [Nf3.out] at e3
    rw [Nf4.out] at e4
    rw [zcHd]
    simp only [List.setIfInBounds_toArray]
    exact congrArg List.toArray (by rw [← e4, ← e3, ← e2, ← e1]; rfl)
  have Hbu := Lib.hid hbu
  have h42 := h4.kept hb2
  have hz42 := hz4.kept hb2
  have hbel42 := Below.then hbel4 hb2
  have hb42 := b4.trans (hb2.mono b4.size)
  have hlt4 := h4.lt
  clear q1 q2 q3 q4 R1 R2 R3 R4 x1 x2 x3 x4 hbu Nf1 Nf2 Nf3 Nf4 h4 hz4 hbel4 c42 hb2 b4 hts
  simp only [Act.put, List.setIfInBounds_toArray, List.set_cons_zero, List.set_cons_succ]
  go_wp2_with (first
    | ((with_reducible show wpList _ _ _ (⟨none, Op.store _ _ (Operand.tmp 48), _, _, _, _⟩ :: _) _ _); refine wpList_storeA (o := ⟨none, _, _, _, _, _⟩) (by rfl) 28 (.tmp 7) (.tmp 48) (by rfl) gh (hdcs (rdS nfR ts 4 0)) (by rfl) (by exact congrArg Value.agg Hbu.out) aggHd hz7 hl40 hl0 (hdcs_one _) (Below.refl gh u2) (Nat.le_refl _) ?_; intro w5 h5 b5 _; have G0 : RdW w w1 w1.heap.size gh [.bool l, .slice ta t.length tc, .slice (some ⟨bk, ok, none⟩) 11 kc] (hdcs (rdS nfR ts 4 0)) w5 := ⟨hbel42.trans (b5.mono (by omega)), hb42.trans (b5.mono (by omega)), hz42.below b5 (by omega), h42.below b5 (by omega), h5, hs1, Nat.le_refl _, by omega⟩))
  obtain ⟨g4, hg4⟩ : ∃ g4, g4 = w1.heap.size := ⟨_, rfl⟩
  rw [← hg4] at G0
  rw [← hg4]
  clear hg4 Hbu h42 hz42 hbel42 hb42 hlt4 hz7 hl0 hl40 h5 b5 hgh
  have s32 := fun off u => sl32 gh off u
  have s8 := fun off u => sl8 gh off u
  obtain ⟨pa0, pc0, kt0⟩ := KT.out 0 (by omega)
  obtain ⟨P0, hP0⟩ : ∃ T, T = ts[0]?.getD [] := ⟨_, rfl⟩
  rw [← hP0] at kt0
  have y0 := fun u : Ext w5 => (kt0 u.val (Below.then G0.hk u.property)).1
  simp only [Nat.reduceMul, Nat.add_zero] at y0
  have st0 := rdS_text nfR_lt ts 0 (by omega)
  change splice (hdcs (rdS nfR ts 4 0)) 0 (by8 ((ts[0]?.getD []).take 32)) = hdcs (rdS nfR ts 4 (0 + 1)) at st0
  rw [← hP0] at st0
  have St0 := Lib.hid st0
  have lj0 := hdcs_len (rdS_ok nfR_lt ts 4 0)
  clear st0 hP0
  refine wp_region_typed w5 6 (by kernel_rfl) (by kernel_rfl) (Below.refl _ _) ?_; simp only [List.take_succ_cons, List.take_zero, List.take_nil]
  iterate 6 (refine wpX_step (by rfl) (fun K hK => ?_); go_simp; first | (refine hK _ ?_; clear hK K) | (apply Exists.intro; refine ⟨fun _ => ?_, hK _ ?_⟩; fail; clear hK K))
  refine wpX_nil ?_
  intro x0 hx0
  change wpList _ _ _ [_] _ _
  have F0 := G0.kept hx0
  have bt0 := (kt0 x0 F0.hk).2
  clear y0 kt0 G0 hx0
  try simp only [Act.put, List.setIfInBounds_toArray, List.set_cons_zero, List.set_cons_succ]
  go_wp2_with (refine wpList_copyMin (o := ⟨some 55, _, _, _, _, _⟩) (by rfl) (.tmp 50) (.tmp 54) 29 29 (by rfl) elU8 gh 0 32 32 (by rfl) (.slice pa0 P0.length pc0) P0 (by rfl) bt0 (hdcs (rdS nfR ts 4 0)) F0.hh (by rw [lj0]; omega) ?_; intro v0 hh0 b0; have G1 := F0.put b0 hh0; rw [St0.out] at G1; clear F0 bt0 St0 hh0 b0)
  obtain ⟨pa1, pc1, kt1⟩ := KT.out 5 (by omega)
  obtain ⟨P1, hP1⟩ : ∃ T, T = ts[5]?.getD [] := ⟨_, rfl⟩
  rw [← hP1] at kt1
  have y1 := fun u : Ext v0 => (kt1 u.val (Below.then G1.hk u.property)).1
  simp only [Nat.reduceMul] at y1
  have st1 := rdS_text nfR_lt ts 1 (by omega)
  change splice (hdcs (rdS nfR ts 4 1)) 34 (by8 ((ts[5]?.getD []).take 8)) = hdcs (rdS nfR ts 4 (1 + 1)) at st1
  rw [← hP1] at st1
  have St1 := Lib.hid st1
  have lj1 := hdcs_len (rdS_ok nfR_lt ts 4 1)
  clear st1 hP1
  refine wp_region_typed v0 6 (by kernel_rfl) (by kernel_rfl) (Below.refl _ _) ?_; simp only [List.take_succ_cons, List.take_zero, List.take_nil]
  iterate 6 (refine wpX_step (by rfl) (fun K hK => ?_); go_simp; first | (refine hK _ ?_; clear hK K) | (apply Exists.intro; refine ⟨fun _ => ?_, hK _ ?_⟩; fail; clear hK K))
  refine wpX_nil ?_
  intro x1 hx1
  change wpList _ _ _ [_] _ _
  have F1 := G1.kept hx1
  have bt1 := (kt1 x1 F1.hk).2
  clear y1 kt1 G1 hx1
  try simp only [Act.put, List.setIfInBounds_toArray, List.set_cons_zero, List.set_cons_succ]
  go_wp2_with (refine wpList_copyMin (o := ⟨some 62, _, _, _, _, _⟩) (by rfl) (.tmp 57) (.tmp 61) 29 29 (by rfl) elU8 gh 34 8 8 (by rfl) (.slice pa1 P1.length pc1) P1 (by rfl) bt1 (hdcs (rdS nfR ts 4 1)) F1.hh (by rw [lj1]; omega) ?_; intro v1 hh1 b1; have G2 := F1.put b1 hh1; rw [St1.out] at G2; clear F1 bt1 St1 hh1 b1)
  obtain ⟨pa2, pc2, kt2⟩ := KT.out 6 (by omega)
  obtain ⟨P2, hP2⟩ : ∃ T, T = ts[6]?.getD [] := ⟨_, rfl⟩
  rw [← hP2] at kt2
  have y2 := fun u : Ext v1 => (kt2 u.val (Below.then G2.hk u.property)).1
  simp only [Nat.reduceMul] at y2
  have st2 := rdS_text nfR_lt ts 2 (by omega)
  change splice (hdcs (rdS nfR ts 4 2)) 44 (by8 ((ts[6]?.getD []).take 32)) = hdcs (rdS nfR ts 4 (2 + 1)) at st2
  rw [← hP2] at st2
  have St2 := Lib.hid st2
  have lj2 := hdcs_len (rdS_ok nfR_lt ts 4 2)
  clear st2 hP2
  refine wp_region_typed v1 6 (by kernel_rfl) (by kernel_rfl) (Below.refl _ _) ?_; simp only [List.take_succ_cons, List.take_zero, List.take_nil]
  iterate 6 (refine wpX_step (by rfl) (fun K hK => ?_); go_simp; first | (refine hK _ ?_; clear hK K) | (apply Exists.intro; refine ⟨fun _ => ?_, hK _ ?_⟩; fail; clear hK K))
  refine wpX_nil ?_
  intro x2 hx2
  change wpList _ _ _ [_] _ _
  have F2 := G2.kept hx2
  have bt2 := (kt2 x2 F2.hk).2
  clear y2 kt2 G2 hx2
  try simp only [Act.put, List.setIfInBounds_toArray, List.set_cons_zero, List.set_cons_succ]
  go_wp2_with (refine wpList_copyMin (o := ⟨some 69, _, _, _, _, _⟩) (by rfl) (.tmp 64) (.tmp 68) 29 29 (by rfl) elU8 gh 44 32 32 (by rfl) (.slice pa2 P2.length pc2) P2 (by rfl) bt2 (hdcs (rdS nfR ts 4 2)) F2.hh (by rw [lj2]; omega) ?_; intro v2 hh2 b2; have G3 := F2.put b2 hh2; rw [St2.out] at G3; clear F2 bt2 St2 hh2 b2)
  obtain ⟨pa3, pc3, kt3⟩ := KT.out 7 (by omega)
  obtain ⟨P3, hP3⟩ : ∃ T, T = ts[7]?.getD [] := ⟨_, rfl⟩
  rw [← hP3] at kt3
  have y3 := fun u : Ext v2 => (kt3 u.val (Below.then G3.hk u.property)).1
  simp only [Nat.reduceMul] at y3
  have st3 := rdS_text nfR_lt ts 3 (by omega)
  change splice (hdcs (rdS nfR ts 4 3)) 76 (by8 ((ts[7]?.getD []).take 32)) = hdcs (rdS nfR ts 4 (3 + 1)) at st3
  rw [← hP3] at st3
  have St3 := Lib.hid st3
  have lj3 := hdcs_len (rdS_ok nfR_lt ts 4 3)
  clear st3 hP3
  refine wp_region_typed v2 6 (by kernel_rfl) (by kernel_rfl) (Below.refl _ _) ?_; simp only [List.take_succ_cons, List.take_zero, List.take_nil]
  iterate 6 (refine wpX_step (by rfl) (fun K hK => ?_); go_simp; first | (refine hK _ ?_; clear hK K) | (apply Exists.intro; refine ⟨fun _ => ?_, hK _ ?_⟩; fail; clear hK K))
  refine wpX_nil ?_
  intro x3 hx3
  change wpList _ _ _ [_] _ _
  have F3 := G3.kept hx3
  have bt3 := (kt3 x3 F3.hk).2
  clear y3 kt3 G3 hx3
  try simp only [Act.put, List.setIfInBounds_toArray, List.set_cons_zero, List.set_cons_succ]
  go_wp2_with (refine wpList_copyMin (o := ⟨some 76, _, _, _, _, _⟩) (by rfl) (.tmp 71) (.tmp 75) 29 29 (by rfl) elU8 gh 76 32 32 (by rfl) (.slice pa3 P3.length pc3) P3 (by rfl) bt3 (hdcs (rdS nfR ts 4 3)) F3.hh (by rw [lj3]; omega) ?_; intro v3 hh3 b3; have G4 := F3.put b3 hh3; rw [St3.out] at G4; clear F3 bt3 St3 hh3 b3)
  obtain ⟨pa4, pc4, kt4⟩ := KT.out 8 (by omega)
  obtain ⟨P4, hP4⟩ : ∃ T, T = ts[8]?.getD [] := ⟨_, rfl⟩
  rw [← hP4] at kt4
  have y4 := fun u : Ext v3 => (kt4 u.val (Below.then G4.hk u.property)).1
  simp only [Nat.reduceMul] at y4
  have st4 := rdS_text nfR_lt ts 4 (by omega)
  change splice (hdcs (rdS nfR ts 4 4)) 108 (by8 ((ts[8]?.getD []).take 32)) = hdcs (rdS nfR ts 4 (4 + 1)) at st4
  rw [← hP4] at st4
  have St4 := Lib.hid st4
  have lj4 := hdcs_len (rdS_ok nfR_lt ts 4 4)
  clear st4 hP4
  refine wp_region_typed v3 6 (by kernel_rfl) (by kernel_rfl) (Below.refl _ _) ?_; simp only [List.take_succ_cons, List.take_zero, List.take_nil]
  iterate 6 (refine wpX_step (by rfl) (fun K hK => ?_); go_simp; first | (refine hK _ ?_; clear hK K) | (apply Exists.intro; refine ⟨fun _ => ?_, hK _ ?_⟩; fail; clear hK K))
  refine wpX_nil ?_
  intro x4 hx4
  change wpList _ _ _ [_] _ _
  have F4 := G4.kept hx4
  have bt4 := (kt4 x4 F4.hk).2
  clear y4 kt4 G4 hx4
  try simp only [Act.put, List.setIfInBounds_toArray, List.set_cons_zero, List.set_cons_succ]
  go_wp2_with (refine wpList_copyMin (o := ⟨some 83, _, _, _, _, _⟩) (by rfl) (.tmp 78) (.tmp 82) 29 29 (by rfl) elU8 gh 108 32 32 (by rfl) (.slice pa4 P4.length pc4) P4 (by rfl) bt4 (hdcs (rdS nfR ts 4 4)) F4.hh (by rw [lj4]; omega) ?_; intro v4 hh4 b4; have G5 := F4.put b4 hh4; rw [St4.out] at G5; clear F4 bt4 St4 hh4 b4)
  obtain ⟨pa5, pc5, kt5⟩ := KT.out 9 (by omega)
  obtain ⟨P5, hP5⟩ : ∃ T, T = ts[9]?.getD [] := ⟨_, rfl⟩
  rw [← hP5] at kt5
  have y5 := fun u : Ext v4 => (kt5 u.val (Below.then G5.hk u.property)).1
  simp only [Nat.reduceMul] at y5
  have st5 := rdS_text nfR_lt ts 5 (by omega)
  change splice (hdcs (rdS nfR ts 4 5)) 140 (by8 ((ts[9]?.getD []).take 32)) = hdcs (rdS nfR ts 4 (5 + 1)) at st5
  rw [← hP5] at st5
  have St5 := Lib.hid st5
  have lj5 := hdcs_len (rdS_ok nfR_lt ts 4 5)
  clear st5 hP5
  refine wp_region_typed v4 6 (by kernel_rfl) (by kernel_rfl) (Below.refl _ _) ?_; simp only [List.take_succ_cons, List.take_zero, List.take_nil]
  iterate 6 (refine wpX_step (by rfl) (fun K hK => ?_); go_simp; first | (refine hK _ ?_; clear hK K) | (apply Exists.intro; refine ⟨fun _ => ?_, hK _ ?_⟩; fail; clear hK K))
  refine wpX_nil ?_
  intro x5 hx5
  change wpList _ _ _ [_] _ _
  have F5 := G5.kept hx5
  have bt5 := (kt5 x5 F5.hk).2
  clear y5 kt5 G5 hx5
  try simp only [Act.put, List.setIfInBounds_toArray, List.set_cons_zero, List.set_cons_succ]
  go_wp2_with (refine wpList_copyMin (o := ⟨some 90, _, _, _, _, _⟩) (by rfl) (.tmp 85) (.tmp 89) 29 29 (by rfl) elU8 gh 140 32 32 (by rfl) (.slice pa5 P5.length pc5) P5 (by rfl) bt5 (hdcs (rdS nfR ts 4 5)) F5.hh (by rw [lj5]; omega) ?_; intro v5 hh5 b5; have G6 := F5.put b5 hh5; rw [St5.out] at G6; clear F5 bt5 St5 hh5 b5)
  obtain ⟨pa6, pc6, kt6⟩ := KT.out 10 (by omega)
  obtain ⟨P6, hP6⟩ : ∃ T, T = ts[10]?.getD [] := ⟨_, rfl⟩
  rw [← hP6] at kt6
  have y6 := fun u : Ext v5 => (kt6 u.val (Below.then G6.hk u.property)).1
  simp only [Nat.reduceMul] at y6
  have st6 := rdS_text nfR_lt ts 6 (by omega)
  change splice (hdcs (rdS nfR ts 4 6)) 172 (by8 ((ts[10]?.getD []).take 32)) = hdcs (rdS nfR ts 4 (6 + 1)) at st6
  rw [← hP6] at st6
  have St6 := Lib.hid st6
  have lj6 := hdcs_len (rdS_ok nfR_lt ts 4 6)
  clear st6 hP6
  refine wp_region_typed v5 6 (by kernel_rfl) (by kernel_rfl) (Below.refl _ _) ?_; simp only [List.take_succ_cons, List.take_zero, List.take_nil]
  iterate 6 (refine wpX_step (by rfl) (fun K hK => ?_); go_simp; first | (refine hK _ ?_; clear hK K) | (apply Exists.intro; refine ⟨fun _ => ?_, hK _ ?_⟩; fail; clear hK K))
  refine wpX_nil ?_
  intro x6 hx6
  change wpList _ _ _ [_] _ _
  have F6 := G6.kept hx6
  have bt6 := (kt6 x6 F6.hk).2
  clear y6 kt6 G6 hx6
  try simp only [Act.put, List.setIfInBounds_toArray, List.set_cons_zero, List.set_cons_succ]
  go_wp2_with (refine wpList_copyMin (o := ⟨some 97, _, _, _, _, _⟩) (by rfl) (.tmp 92) (.tmp 96) 29 29 (by rfl) elU8 gh 172 32 32 (by rfl) (.slice pa6 P6.length pc6) P6 (by rfl) bt6 (hdcs (rdS nfR ts 4 6)) F6.hh (by rw [lj6]; omega) ?_; intro v6 hh6 b6; have G7 := F6.put b6 hh6; rw [St6.out] at G7; clear F6 bt6 St6 hh6 b6)
  have e7 : rdS nfR ts 4 (6 + 1) = H := by rw [rdS_all, Hts.out, Hkk.out]; exact HH.out.symm
  rw [e7] at G7
  have hlH := hdcs_len Hok.out
  have hzl := hdcs_len zH_ok
  have Wr := Lib.hid (fun u => bwrite_any H Hok.out u)
  have c1 := fun u : Ext v6 => run_str (P := Try.prog) (src := 29) (dst := 9) elU8.ht (by kernel_rfl) (by kernel_rfl) (RowOf.below (f := b8) (size := 1) h (Below.then G7.hb u.bel))
  have Ra := Lib.hid (Blk.all0 G7.hh)
  obtain ⟨WB, hWB⟩ : ∃ WB, WB = wH H := ⟨_, rfl⟩
  rw [← hWB] at Wr
  have Hyes2 := Hyes
  have Hno2 := Hno
  rw [← hWB] at Hyes2 Hno2
  have Hyes := Hyes2
  have Hno := Hno2
  clear e7 hWB Hyes2 Hno2
  obtain ⟨r, hr⟩ : ∃ r, r = (WB == b) := ⟨_, rfl⟩
  have hr2 : (WB != b) = !r := by rw [hr]; rfl
  have Hr := Lib.hid hr
  cases r with
  | true =>
    simp only [Bool.not_true] at hr2
    have hr1 := hr.symm
    clear hr
    refine wp_region_typed v6 6 (by kernel_rfl) (by kernel_rfl) (Below.refl _ _) ?_; simp only [List.take_succ_cons, List.take_zero, List.take_nil]
    (refine wpX_step (by rfl) (fun K hK => ?_); rw [if_pos (by rfl)]; refine ⟨_, fun u => const_loadm _ (.tmp 7) (by rfl) _ _ (by rfl) aggHd hlH (rangeAt.ext Ra.out u), hK _ ?_⟩; clear hK K; simp only [Act.put, List.setIfInBounds_toArray, List.set_cons_zero, List.set_cons_succ])
    refine wpX_rel 99 (TxB 0 WB) rfl (of_decide_eq_true rfl) (TxB.mono _ _) (fun w2 hw2 => ?_) ?_
    · simp only [relOf, List.filter_nil, forallRel]
      refine ⟨rfl, ?_⟩
      go_simp
      refine (Wr.out w2).mono ?_
      rintro e w3 ⟨v, rfl, o3, b3⟩
      exact ⟨v, rfl, ⟨o3, fun _ _ => Nat.zero_le _⟩, b3⟩
    refine wpX_eq (str WB) (fun w2 hw2 => ?_) ?_
    · change forallRel w2 [(99, _)] _ _
      intro v99 h99
      simp only [forallRel]
      refine ⟨rfl, ?_⟩
      have c99 := run_str (P := Try.prog) (src := 29) (dst := 9) elU8.ht (by kernel_rfl) (by kernel_rfl) h99.1
      go_simp
      exact Below.refl _ _
    iterate 3 (refine wpX_step (by rfl) (fun K hK => ?_); go_simp; first | (refine hK _ ?_; clear hK K) | (apply Exists.intro; refine ⟨fun _ => ?_, hK _ ?_⟩; fail; clear hK K))
    refine wpX_nil ?_
    intro z3 hz3 v99 h99
    have F7 := G7.kept hz3
    have hzz := F7.hz
    have hhh := F7.hh
    clear h99 c1 G7
    change forallRel z3 [] _ _
    simp only [forallRel, List.drop_succ_cons, List.drop_zero, List.drop_nil]
    try simp only [Act.put, List.setIfInBounds_toArray, List.set_cons_zero, List.set_cons_succ]
    go_wp2_with (first
      | (refine wpList_loadA (o := ⟨some 105, _, _, _, _, _⟩) (by rfl) 28 (.tmp 7) (by rfl) gh (by rfl) aggHd hhh hlH ?_)
      | ((with_reducible show wpList _ _ _ (⟨none, Op.store _ _ (Operand.tmp 105), _, _, _, _⟩ :: _) _ _); refine wpList_storeA (o := ⟨none, _, _, _, _, _⟩) (by rfl) 28 (.tmp 2) (.tmp 105) (by rfl) w.heap.size (hdcs H) (by rfl) (by rfl) aggHd hzz hlH hzl (hdcs_one _) F7.hb (Nat.le_refl _) ?_; intro w5 hh5 hbel5 _))
    exact bodyPost_ret (v := .tuple #[.agg (hdcs H).toArray, .int .i64 0]) (results_blk_tmp rfl _ _ w.heap.size aggHd hh5 hlH rfl rfl) rfl (Hyes.out _ Hr.out.symm hbel5)
  | false =>
    simp only [Bool.not_false] at hr2
    have hr1 := hr.symm
    clear hr
    refine wp_region_typed v6 6 (by kernel_rfl) (by kernel_rfl) (Below.refl _ _) ?_; simp only [List.take_succ_cons, List.take_zero, List.take_nil]
    (refine wpX_step (by rfl) (fun K hK => ?_); rw [if_pos (by rfl)]; refine ⟨_, fun u => const_loadm _ (.tmp 7) (by rfl) _ _ (by rfl) aggHd hlH (rangeAt.ext Ra.out u), hK _ ?_⟩; clear hK K; simp only [Act.put, List.setIfInBounds_toArray, List.set_cons_zero, List.set_cons_succ])
    refine wpX_rel 99 (TxB 0 WB) rfl (of_decide_eq_true rfl) (TxB.mono _ _) (fun w2 hw2 => ?_) ?_
    · simp only [relOf, List.filter_nil, forallRel]
      refine ⟨rfl, ?_⟩
      go_simp
      refine (Wr.out w2).mono ?_
      rintro e w3 ⟨v, rfl, o3, b3⟩
      exact ⟨v, rfl, ⟨o3, fun _ _ => Nat.zero_le _⟩, b3⟩
    refine wpX_eq (str WB) (fun w2 hw2 => ?_) ?_
    · change forallRel w2 [(99, _)] _ _
      intro v99 h99
      simp only [forallRel]
      refine ⟨rfl, ?_⟩
      have c99 := run_str (P := Try.prog) (src := 29) (dst := 9) elU8.ht (by kernel_rfl) (by kernel_rfl) h99.1
      go_simp
      exact Below.refl _ _
    iterate 3 (refine wpX_step (by rfl) (fun K hK => ?_); go_simp; first | (refine hK _ ?_; clear hK K) | (apply Exists.intro; refine ⟨fun _ => ?_, hK _ ?_⟩; fail; clear hK K))
    refine wpX_nil ?_
    intro z3 hz3 v99 h99
    have F7 := G7.kept hz3
    have hzz := F7.hz
    have hhh := F7.hh
    clear h99 c1 G7
    change forallRel z3 [] _ _
    simp only [forallRel, List.drop_succ_cons, List.drop_zero, List.drop_nil]
    try simp only [Act.put, List.setIfInBounds_toArray, List.set_cons_zero, List.set_cons_succ]
    go_wp2_with (first
      | ((with_reducible show wpList _ _ _ (⟨none, Op.store _ _ (Operand.tmp 104), _, _, _, _⟩ :: _) _ _); refine wpList_storeA (o := ⟨none, _, _, _, _, _⟩) (by rfl) 28 (.tmp 2) (.tmp 104) (by rfl) w.heap.size (hdcs zH) (by rfl) (by first | rfl | exact congrArg Value.agg zcHd) aggHd hzz hzl hzl (hdcs_one _) F7.hb (Nat.le_refl _) ?_; intro w5 hh5 hbel5 _))
    exact bodyPost_ret (v := .tuple #[.agg (hdcs zH).toArray, .int .i64 1]) (results_blk_tmp rfl _ _ w.heap.size aggHd hh5 hzl rfl rfl) rfl (Hno.out _ Hr.out.symm hbel5)
theorem bread_any (a : Option Addr) (L c : Nat) (b : List UInt8) (hL : b.length = L) (hLs : L ≤ 1048576) (w : World) (h : Bytes w (.slice a L c) b) : Calls Try.prog 15 #[.slice a L c] w (ReadC b w) := by
  by_cases hE : decE b = 0
  · by_cases h11 : kidsN (decP b) = 11
    · exact bread_good a L c b hL hLs hE h11 w h
    · exact bread_bad2 a L c b hL hLs hE h11 w h
  · exact bread_bad1 a L c b hL hLs hE w h
end Go.Proofs.Ytffkjjpjfehcnaa
