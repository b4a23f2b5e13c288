/- block.Read: eleven kids. -/
import Derived.Test.YtffkjjpjfehcnaaHdr10
import Derived.Test.YtffkjjpjfehcnaaBeq
set_option linter.unusedSimpArgs false
set_option linter.unusedVariables false
namespace Go.Proofs.Ytffkjjpjfehcnaa
open Go.RowKit
theorem idxP4 (g : Nat) (i : Nat) (hi : i < 4) (w : World) : (Instr.index 132 (.agg #[.pointer (some ⟨g, 32, none⟩), .pointer (some ⟨g, 33, none⟩), .pointer (some ⟨g, 42, none⟩), .pointer (some ⟨g, 43, none⟩)]) (.int .i64 (i : Int))).run Try.prog w = .ok (.pointer (some ⟨g, nOff i, none⟩)) w := by
  refine run_index_at (n := 4) (e := 131) (by kernel_rfl) (by kernel_rfl) (fun w => run_isAgg_plain Try.underlying131 rfl w) _ i hi ?_ w .i64
  rcases (by omega : i = 0 ∨ i = 1 ∨ i = 2 ∨ i = 3) with rfl | rfl | rfl | rfl <;> rfl
theorem idx7 (g : Nat) (i : Nat) (hi : i < 7) (w : World) : (Instr.index 135 (.agg #[.slice (some ⟨g, 0, none⟩) 32 32, .slice (some ⟨g, 34, none⟩) 8 8, .slice (some ⟨g, 44, none⟩) 32 32, .slice (some ⟨g, 76, none⟩) 32 32, .slice (some ⟨g, 108, none⟩) 32 32, .slice (some ⟨g, 140, none⟩) 32 32, .slice (some ⟨g, 172, none⟩) 32 32]) (.int .i64 (i : Int))).run Try.prog w = .ok (.slice (some ⟨g, (tOff i).1, none⟩) (tOff i).2.1 (tOff i).2.1) w := by
  refine run_index_at (n := 7) (e := 29) (by kernel_rfl) (by kernel_rfl) (fun w => run_isAgg_plain Try.underlying29 rfl w) _ i hi ?_ w .i64
  rcases (by omega : i = 0 ∨ i = 1 ∨ i = 2 ∨ i = 3 ∨ i = 4 ∨ i = 5 ∨ i = 6) with rfl | rfl | rfl | rfl | rfl | rfl | rfl <;> rfl
theorem nOff_lt (i : Nat) (hi : i < 4) : nOff i < 204 := by
  rcases (by omega : i = 0 ∨ i = 1 ∨ i = 2 ∨ i = 3) with rfl | rfl | rfl | rfl <;> decide
theorem tOff_le (i : Nat) (hi : i < 7) : (tOff i).1 + (tOff i).2.1 ≤ 204 := by
  rcases (by omega : i = 0 ∨ i = 1 ∨ i = 2 ∨ i = 3 ∨ i = 4 ∨ i = 5 ∨ i = 6) with rfl | rfl | rfl | rfl | rfl | rfl | rfl <;> decide
theorem tOff_kid (i : Nat) (hi : i < 7) : (tOff i).2.2 = if i = 0 then 0 else i + 4 := by
  rcases (by omega : i = 0 ∨ i = 1 ∨ i = 2 ∨ i = 3 ∨ i = 4 ∨ i = 5 ∨ i = 6) with rfl | rfl | rfl | rfl | rfl | rfl | rfl <;> rfl
/-- the text of a kid -/
theorem kid_text {w1 : World} {ka : Option Addr} {n kc : Nat} {ks : List Itm} (hrow : RowOf icells 3 w1 (.slice ka n kc) ks) (hkids : ∀ k ∈ ks, IsItm w1 k) (i : Nat) (hi : i < ks.length) : ∃ b off ta tc, ka = some ⟨b, off, none⟩ ∧
    ∀ u, Below w1.heap.size w1 u → u.cell? ⟨b, off + i * 3 + 1, none⟩ = some (.slice ta ((ks.map itt)[i]?.getD []).length tc) ∧ Bytes u (.slice ta ((ks.map itt)[i]?.getD []).length tc) ((ks.map itt)[i]?.getD []) := by
  obtain ⟨b, off, rfl, hc⟩ := RowOf.cells icells_len hrow i hi
  have hI := hkids _ (List.getElem_mem hi)
  have e : (ks.map itt)[i]?.getD [] = itt ks[i] := by rw [List.getElem?_map, List.getElem?_eq_getElem hi]; rfl
  rw [e]
  obtain ⟨kid, hkid⟩ : ∃ x, x = ks[i] := ⟨_, rfl⟩
  rw [← hkid] at hI
  obtain ⟨l, tv, t, kv, kks⟩ := kid
  obtain ⟨ta, tc, rfl, _, _⟩ := hI.inv.1.form
  rw [← hkid]
  refine ⟨b, off, ta, tc, rfl, fun u hu => ⟨?_, RowOf.below (f := b8) (size := 1) hI.inv.1 hu⟩⟩
  obtain ⟨b', off', e', hc'⟩ := RowOf.cells icells_len (RowOf.below hrow hu) i hi
  simp only [Option.some.injEq, Addr.mk.injEq, and_true] at e'
  obtain ⟨rfl, rfl⟩ := e'
  rw [Nat.add_assoc]
  exact hc' 1 _ (by rw [← hkid]; rfl)
set_option maxHeartbeats 4000000 in
set_option maxRecDepth 100000 in
theorem read_good (a : Option Addr) (L c : Nat) (b : List UInt8) (hL : b.length = L) (hLs : L ≤ 1048576) (hE : decE b = 0) (h11 : kidsN (decP b) = 11) (w : World) (h : Bytes w (.slice a L c) b) : Calls Try.prog 14 #[.slice a L c] w (ReadC b w) := by
  obtain ⟨H, hH⟩ : ∃ H, H = rdH nfP (kidT (decP b)) := ⟨_, rfl⟩
  have hHok : H.Ok := by rw [hH]; exact rdH_ok nfP_lt _
  have hyes : ∀ u, (wH H == b) = true → Below w.heap.size w u → ReadC b w (.returned (.tuple #[.agg (hdcs H).toArray, .int .i64 0])) u := fun u he hu => ⟨H, 0, rfl, hHok, rd_yes (by simpa using he), hu⟩
  have hno : ∀ u, (wH H == b) = false → Below w.heap.size w u → ReadC b w (.returned (.tuple #[.agg (hdcs zH).toArray, .int .i64 1])) u := fun u he hu => ⟨zH, 1, rfl, zH_ok, rd_not nfP_num (by rw [← hH]; simpa using he), hu⟩
  have hz : Blk 28 (w.alloc (.cells Try.zeroCells28 28)) w.heap.size (hdcs zH) := by rw [zcHd]; exact Blk.new w _ _
  have hbel : Below w.heap.size w (w.alloc (.cells Try.zeroCells28 28)) := (Below.refl _ _).alloc (Nat.le_refl _) _
  have hlt0 := hz.lt
  have cc := fun u (hu : Bytes u (.slice a L c) b) => decode_any a L c b hL hLs u hu
  rw [hE] at cc
  have C := Lib.hid cc
  have Hyes := Lib.hid hyes
  have Hno := Lib.hid hno
  have H11 := Lib.hid h11
  have HH := Lib.hid hH
  have Hok := Lib.hid hHok
  have hl204 := hdcs_len zH_ok
  clear cc hE h11 hL hLs hyes hno hH hHok
  go_enter Try.func14, Try.ntmps14
  go_wp2_with (first
    | (go_at_call 74; (with_reducible refine (C.out _ (h.alloc _)).mono ?_); rintro e w1 ⟨it, rfl, b1, hF, hbare, he, _⟩; have hz1 := hz.kept b1; have hbel1 := Below.then hbel b1; have hs1 := Nat.lt_of_lt_of_le hlt0 b1.size; obtain ⟨l, tv, t, kv, ks⟩ := it; have hkk := kids_of hbare he; obtain ⟨ta, tc, rfl, _, _⟩ := hF.is.inv.1.form; obtain ⟨ka, kc, rfl, _, _⟩ := hF.is.inv.2.1.form; have hkn : ks.length = 11 := hkk.1.trans H11.out; have hI1 := hF.is; rw [hkn] at hI1; rw [hkn]; have Hkn := Lib.hid hkn; have Hkk : Hid (ks.map itt = kidT (decP b)) := Lib.hid hkk.2.2; clear hF hbare he hkk hkn; simp only [icells])
    | ((with_reducible show wpList _ _ _ (⟨none, Op.store _ _ (Operand.tmp 17), _, _, _, _⟩ :: _) _ _); refine wpList_storeA (o := ⟨none, _, _, _, _, _⟩) (by rfl) 128 (.tmp 4) (.tmp 17) (by rfl) w1.heap.size [.bool l, .slice ta t.length tc, .slice ka 11 kc] (by rfl) (by rfl) aggItem (Blk.new w1 128 [.bool false, .slice none 0 0, .slice none 0 0]) (by rfl) (by rfl) (by intro u hu; simp at hu; rcases hu with rfl | rfl | rfl <;> rfl) (((Below.refl w1.heap.size w1).alloc (Nat.le_refl _) (.cells #[.bool false, .slice none 0 0, .slice none 0 0] 128))) (Nat.le_refl _) ?_; intro w4 h4 b4 _; have G : RdW w w1 w1.heap.size w4.heap.size [.bool l, .slice ta t.length tc, .slice ka 11 kc] (hdcs (rdS nfP (ks.map itt) 0 0)) (w4.alloc (.cells Try.zeroCells28 28)) := ⟨(Below.then hbel1 b4).alloc (Nat.le_trans (Nat.le_of_lt hs1) b4.size) _, b4.alloc b4.size _, (hz1.kept b4).alloc _, h4.alloc _, (by rw [rdS_zero, zcHd]; exact Blk.new w4 _ _), hs1, Nat.le_refl _, h4.lt⟩; have c42 : w4.cell? ⟨w1.heap.size, 2, none⟩ = some (.slice ka 11 kc) := h4.cell 2))
  have hrow := hI1.inv.2.1
  have hkids := hI1.inv.2.2
  have hkT : ∀ i, i < 11 → _ := fun i hi => kid_text hrow hkids i (by rw [Hkn.out]; exact hi)
  have KT := Lib.hid hkT
  obtain ⟨g4, hg4⟩ : ∃ g4, g4 = w1.heap.size := ⟨_, rfl⟩
  obtain ⟨gh, hgh⟩ : ∃ gh, gh = w4.heap.size := ⟨_, rfl⟩
  rw [← hg4, ← hgh] at G
  rw [← hg4, ← hgh]
  obtain ⟨ts, hts⟩ : ∃ ts, ts = ks.map itt := ⟨_, rfl⟩
  rw [← hts] at G
  have Hts := Lib.hid hts
  clear hI1 hrow hkids hkT hz hbel hlt0 C b1 hz1 hbel1 hs1 h4 b4 c42 hg4 hgh hts
  try simp only [Act.put]
  go_loopw [33] (fun ix wr => ∃ i : Nat, i ≤ 4 ∧ ix = .int .i64 (i : Int) ∧ RdW w w1 g4 gh [.bool l, .slice ta t.length tc, .slice ka 11 kc] (hdcs (rdS nfP ts i 0)) wr) (fun ix _ => 4 - (intOf ix).toNat)
  case atStart => exact ⟨0, by omega, rfl, G⟩
  case round =>
    clear G
    obtain ⟨i, hi, rfl, G⟩ := hrel
    by_cases hlt : i < 4
    · have hki : (i : Int) < (4 : Int) := by omega
      have hix := fun u => idxP4 gh i hlt u
      obtain ⟨bk, ok, ta2, tc2, rfl, hkt⟩ := KT.out (i + 1) (by omega)
      obtain ⟨hc, hbt⟩ := hkt wr G.hk
      have hts2 : (ks.map itt)[i + 1]?.getD [] = ts[i + 1]?.getD [] := by rw [Hts.out]
      rw [hts2] at hc hbt
      have hstep := rdS_num nfP_lt ts i hlt
      obtain ⟨T, hT⟩ : ∃ T, T = ts[i + 1]?.getD [] := ⟨_, rfl⟩
      rw [← hT] at hc hbt hstep
      have c42 : wr.cell? ⟨g4, 2, none⟩ = some (.slice (some ⟨bk, ok, none⟩) 11 kc) := G.h4.cell 2
      have cn := fun u (hu : Bytes u (.slice ta2 T.length tc2) T) => tonum_any ta2 tc2 T u hu
      obtain ⟨N, hN⟩ : ∃ N, N = numV T := ⟨_, rfl⟩
      have hnf : nfP T = lim N 0 := by rw [hN]; rfl
      rw [← hN] at cn
      have Cn := Lib.hid cn
      have Hstep := Lib.hid hstep
      have Hnf := Lib.hid hnf
      have hoff := nOff_lt i hlt
      have hl4 := hdcs_len (rdS_ok nfP_lt ts i 0)
      clear cn hstep hnf hN hT hts2
      go_wp2_with (first
        | (go_at_call 75; (with_reducible refine (Cn.out _ hbt).mono ?_); rintro e w5 ⟨rfl, b5⟩; have G5 := G.kept b5; unfold wv)
        | ((with_reducible show wpList _ _ _ (⟨none, Op.store _ _ (Operand.tmp 46), _, _, _, _⟩ :: _) _ _); refine wpList_storeA (o := ⟨none, _, _, _, _, _⟩) (by rfl) 48 (.tmp 9) (.tmp 46) (by rfl) w5.heap.size (wcs N) (by rfl) (by rfl) aggWord (Blk.new w5 48 z4) (wcs_len N) (by rfl) (wcs_one N) ((Below.refl w5.heap.size w5).alloc (Nat.le_refl _) (.cells z4.toArray 48)) (Nat.le_refl _) ?_; intro w6 h6 b6 _; have G6 := G5.kept b6; have n0 : w6.cell? ⟨w5.heap.size, 0, none⟩ = some (.int .u64 (lim N 0 : Int)) := h6.wat 0 (by omega); obtain ⟨y6, hy6⟩ := G6.hh.has (nOff i) (by rw [hl4]; exact hoff); have hf6 := G6.hh.free (nOff i)))
      have G7 := G6.set (nOff i) (.int .u64 (lim N 0 : Int))
      rw [show (Value.int .u64 (lim N 0 : Int)) = u64v (nfP T) from by rw [Hnf.out]; rfl, Hstep.out] at G7
      rw [show u64v (nfP T) = Value.int .u64 (lim N 0 : Int) from by rw [Hnf.out]; rfl] at G7
      go_roundw
      case rel => exact ⟨i + 1, by omega, by go_num, G7⟩
      case measure => simp [intOf]; omega
    · obtain rfl : i = 4 := by omega
      have s32 := fun off u => sl32 gh off u
      have s8 := fun off u => sl8 gh off u
      go_wp2_with fail
      refine wp_region_typed wr 16 (by kernel_rfl) (by kernel_rfl) (Below.refl _ _) ?_; simp only [List.take_succ_cons, List.take_zero, List.take_nil]
      iterate 16 (refine wpX_step (by rfl) (fun K hK => ?_); go_simp; first | (refine hK _ ?_; clear hK K) | (apply Exists.intro; refine ⟨fun _ => ?_, hK _ ?_⟩; fail; clear hK K))
      refine wpX_nil ?_
      intro u2 hb2
      change forallRel u2 [] _ _
      simp only [forallRel, List.drop_succ_cons, List.drop_zero, List.drop_nil]
      have G2 := G.kept hb2
      clear G s32 s8 hb2
      go_wp2_with fail
      go_loopw [68] (fun ix wr => ∃ i : Nat, i ≤ 7 ∧ ix = .int .i64 (i : Int) ∧ RdW w w1 g4 gh [.bool l, .slice ta t.length tc, .slice ka 11 kc] (hdcs (rdS nfP ts 4 i)) wr) (fun ix _ => 7 - (intOf ix).toNat)
      case atStart => exact ⟨0, by omega, rfl, G2⟩
      case round =>
        clear G2
        obtain ⟨i, hi, rfl, G⟩ := hrel
        by_cases hlt : i < 7
        · have hki : (i : Int) < (7 : Int) := by omega
          have hix := fun u => idx7 gh i hlt u
          have hle := tOff_le i hlt
          have hkj := tOff_kid i hlt
          have hstep := rdS_text nfP_lt ts i hlt
          obtain ⟨p, hp⟩ : ∃ p, p = tOff i := ⟨_, rfl⟩
          rw [← hp] at hix hle hkj hstep
          obtain ⟨off, n, kj⟩ := p
          dsimp only at hle hkj hstep
          change ∀ u, (Instr.index 135 _ _).run Try.prog u = .ok (.slice (some ⟨gh, off, none⟩) n n) u at hix
          have hkj11 : kj < 11 := by rw [hkj]; split <;> omega
          obtain ⟨bk, ok, ta2, tc2, rfl, hkt⟩ := KT.out kj hkj11
          obtain ⟨hc, hbt⟩ := hkt wr G.hk
          have hts2 : (ks.map itt)[kj]?.getD [] = ts[kj]?.getD [] := by rw [Hts.out]
          rw [hts2] at hc hbt
          obtain ⟨T, hT⟩ : ∃ T, T = ts[kj]?.getD [] := ⟨_, rfl⟩
          rw [← hT] at hc hbt hstep
          have c42 : wr.cell? ⟨g4, 2, none⟩ = some (.slice (some ⟨bk, ok, none⟩) 11 kc) := G.h4.cell 2
          have hl7 := hdcs_len (rdS_ok nfP_lt ts 4 i)
          have Hstep := Lib.hid hstep
          clear hstep hT hts2 hp hkj11
          rcases Nat.eq_zero_or_pos i with h0 | hpos
          · subst h0
            obtain rfl : kj = 0 := by rw [hkj]; rfl
            rw [Nat.zero_mul, Nat.add_zero] at hc
            change ∀ u, (Instr.index 135 _ (.int .i64 (0 : Int))).run Try.prog u = .ok (.slice (some ⟨gh, off, none⟩) n n) u at hix
            clear hkj
            go_wp2_with (refine wpList_copyMin (o := ⟨some 83, _, _, _, _, _⟩) (by rfl) (.tmp 76) (.tmp 82) 29 29 (by rfl) elU8 gh off n n (by rfl) (.slice ta2 T.length tc2) T (by rfl) hbt (hdcs (rdS nfP ts 4 0)) G.hh (by rw [hl7]; exact hle) ?_; intro w7 hh7 b7; have G7 := G.put b7 hh7; rw [Hstep.out] at G7)
            go_roundw
            case rel => exact ⟨0 + 1, by omega, by go_num, G7⟩
            case measure => simp [intOf]
          · have hposi : (0 : Int) < (i : Int) := by omega
            obtain rfl : kj = i + 4 := by rw [hkj, if_neg (by omega)]
            clear hkj
            go_wp2_with (refine wpList_copyMin (o := ⟨some 83, _, _, _, _, _⟩) (by rfl) (.tmp 76) (.tmp 82) 29 29 (by rfl) elU8 gh off n n (by rfl) (.slice ta2 T.length tc2) T (by rfl) hbt (hdcs (rdS nfP ts 4 i)) G.hh (by rw [hl7]; exact hle) ?_; intro w7 hh7 b7; have G7 := G.put b7 hh7; rw [Hstep.out] at G7)
            go_roundw
            case rel => exact ⟨i + 1, by omega, by go_num, G7⟩
            case measure => simp [intOf]; omega
        · obtain rfl : i = 7 := by omega
          have e7 : rdS nfP ts 4 7 = H := by rw [rdS_all, Hts.out, Hkk.out]; exact HH.out.symm
          rw [e7] at G
          have hlH := hdcs_len Hok.out
          have Wr := Lib.hid (fun u => hwrite_any H Hok.out u)
          have hBE := RowOf.below (f := b8) (size := 1) h G.hb
          have hzl := hdcs_len zH_ok
          obtain ⟨r, hr⟩ : ∃ r, r = (wH H == b) := ⟨_, rfl⟩
          have Hr := Lib.hid hr
          clear hr e7
          cases r with
          | true =>
            go_wp2_with (first
              | (refine wpList_loadA (o := ⟨some 85, _, _, _, _, _⟩) (by rfl) 28 (.tmp 6) (by rfl) gh (by rfl) aggHd G.hh hlH ?_)
              | (go_at_call 16; refine (Wr.out _).mono ?_; rintro e w3 ⟨v3, rfl, o3, b3⟩; obtain ⟨a3, c3, rfl, _⟩ := o3.form; have G3 := G.kept b3; have hb3 := RowOf.below (f := b8) (size := 1) hBE b3)
              | (go_at_call 76; refine (bequal_any a3 a _ c3 L c (wH H) b _ o3.row hb3).mono ?_; rintro e w9 ⟨rfl, rfl⟩; rw [← Hr.out])
              | (refine wpList_loadA (o := ⟨some 91, _, _, _, _, _⟩) (by rfl) 28 (.tmp 6) (by rfl) gh (by rfl) aggHd G3.hh hlH ?_)
              | ((with_reducible show wpList _ _ _ (⟨none, Op.store _ _ (Operand.tmp 91), _, _, _, _⟩ :: _) _ _); refine wpList_storeA (o := ⟨none, _, _, _, _, _⟩) (by rfl) 28 (.tmp 2) (.tmp 91) (by rfl) w.heap.size (hdcs H) (by rfl) (by rfl) aggHd G3.hz hlH hzl (hdcs_one _) G3.hb (Nat.le_refl _) ?_; intro w5 hh5 hbel5 _))
            exact bodyPost_ret (v := .tuple #[.agg (hdcs H).toArray, .int .i64 0]) (results_blk_tmp rfl _ _ w.heap.size aggHd hh5 hlH rfl rfl) rfl (Hyes.out _ Hr.out.symm hbel5)
          | false =>
            go_wp2_with (first
              | (refine wpList_loadA (o := ⟨some 85, _, _, _, _, _⟩) (by rfl) 28 (.tmp 6) (by rfl) gh (by rfl) aggHd G.hh hlH ?_)
              | (go_at_call 16; refine (Wr.out _).mono ?_; rintro e w3 ⟨v3, rfl, o3, b3⟩; obtain ⟨a3, c3, rfl, _⟩ := o3.form; have G3 := G.kept b3; have hb3 := RowOf.below (f := b8) (size := 1) hBE b3)
              | (go_at_call 76; refine (bequal_any a3 a _ c3 L c (wH H) b _ o3.row hb3).mono ?_; rintro e w9 ⟨rfl, rfl⟩; rw [← Hr.out])
              | ((with_reducible show wpList _ _ _ (⟨none, Op.store _ _ (Operand.tmp 90), _, _, _, _⟩ :: _) _ _); refine wpList_storeA (o := ⟨none, _, _, _, _, _⟩) (by rfl) 28 (.tmp 2) (.tmp 90) (by rfl) w.heap.size (hdcs zH) (by rfl) (by first | rfl | exact congrArg Value.agg zcHd) aggHd G3.hz hzl hzl (hdcs_one _) G3.hb (Nat.le_refl _) ?_; intro w5 hh5 hbel5 _))
            exact bodyPost_ret (v := .tuple #[.agg (hdcs zH).toArray, .int .i64 1]) (results_blk_tmp rfl _ _ w.heap.size aggHd hh5 hzl rfl rfl) rfl (Hno.out _ Hr.out.symm hbel5)
theorem read_any' (a : Option Addr) (L c : Nat) (b : List UInt8) (hL : b.length = L) (hLs : L ≤ 1048576) (w : World) (h : Bytes w (.slice a L c) b) : Calls Try.prog 14 #[.slice a L c] w (ReadC b w) := by
  by_cases hE : decE b = 0
  · by_cases h11 : kidsN (decP b) = 11
    · exact read_good a L c b hL hLs hE h11 w h
    · exact read_bad2 a L c b hL hLs hE h11 w h
  · exact read_bad1 a L c b hL hLs hE w h
end Go.Proofs.Ytffkjjpjfehcnaa
