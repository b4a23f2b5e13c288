/- (*memory.Memory).do: the spans. -/
import Derived.Test.YtakhaanenlblmaaMem8
import Derived.Deep.CutBlock
set_option linter.unusedSimpArgs false
set_option linter.unusedVariables false
namespace Go.Proofs.Ytakhaanenlblmaa
open Go.RowKit
def DoPost (o : Mop) (g B : Nat) (v : Value) (M : List UInt8) (w : World) (e : Ending) (w' : World) : Prop :=
  e = .returned (.agg (manc (stepM M o).2).toArray) ∧ ∃ v', MemAt w' g B v' (stepM M o).1 ∧ But2 g v w w' ∧ ∀ k, v'.ownBlock = some k → v.ownBlock = some k ∨ w.heap.size ≤ k
set_option maxHeartbeats 8000000 in
set_option maxRecDepth 100000 in
theorem do_any (o : Mop) (k : o.Ok) (g B : Nat) (v : Value) (M : List UInt8) (hM : M.length ≤ 4096) (w : World) (hI : ∀ u, Below B w u → Bytes u o.dv o.D) (hgB : B ≤ g) (hm : MemAt w g B v M) (hB : B ≤ w.heap.size) :
    Calls Try.prog 56 #[.pointer (some ⟨g, 0, none⟩), .agg (mopc o).toArray] w (DoPost o g B v M w) := by
  have hi : Bytes w o.dv o.D := hI w (Below.refl _ _)
  have HI := Lib.hid hI
  clear hI
  obtain ⟨w1, hw1⟩ : ∃ w1, w1 = ((w.alloc (.cells (mopc o).toArray 118)).alloc (.cells z6.toArray 42)) := ⟨_, rfl⟩
  have hd : DoW w o w1 := by rw [hw1]; exact DoW.start ..
  obtain ⟨a0, a1, a2, a3, hA⟩ : ∃ a0 a1 a2 a3 : Int, wcs o.A = [.int .u64 a0, .int .u64 a1, .int .u64 a2, .int .u64 a3] := ⟨_, _, _, _, rfl⟩
  obtain ⟨n0, n1, n2, n3, hN⟩ : ∃ a0 a1 a2 a3 : Int, wcs 32 = [.int .u64 a0, .int .u64 a1, .int .u64 a2, .int .u64 a3] := ⟨_, _, _, _, rfl⟩
  have hc := hd.b
  unfold mopc at hc
  rw [hA] at hc
  have c1 : w1.cell? ⟨w.heap.size, 1, none⟩ = some (.int .u64 a0) := hc.cell 1
  have c2 : w1.cell? ⟨w.heap.size, 2, none⟩ = some (.int .u64 a1) := hc.cell 2
  have c3 : w1.cell? ⟨w.heap.size, 3, none⟩ = some (.int .u64 a2) := hc.cell 3
  have c4 : w1.cell? ⟨w.heap.size, 4, none⟩ = some (.int .u64 a3) := hc.cell 4
  have ci : ∀ u : World, Calls Try.prog 103 #[.int .u64 32] u (fun e w' => e = .returned (.agg #[.int .u64 n0, .int .u64 n1, .int .u64 n2, .int .u64 n3]) ∧ Below u.heap.size u w') := fun u => by
    have := int_any 32 (by omega) u
    unfold wv at this
    rw [hN] at this
    exact this
  have Ci := Lib.hid ci
  clear ci
  go_enter Try.func56, Try.ntmps56
  go_upto_region 1 with fail
  refine wp_region_h ((fun u => Below w1.heap.size w1 u)) (by kernel_rfl) ?_; intro u0 hu0; simp only [List.length_cons, List.length_nil, Nat.reduceAdd, List.replicate_succ, List.replicate_zero]
  have hS0 : Below w1.heap.size w1 u0 := by rw [hu0, hw1]; exact (Below.refl _ _).drew
  have e1 : ∀ u : In (fun u => Below w1.heap.size w1 u), u.val.cell? ⟨w.heap.size, 1, none⟩ = some (.int .u64 a0) := fun u => (Below.cell u.held (World.block_lt_of_cell? w1 _ c1)).trans c1
  have e2 : ∀ u : In (fun u => Below w1.heap.size w1 u), u.val.cell? ⟨w.heap.size, 2, none⟩ = some (.int .u64 a1) := fun u => (Below.cell u.held (World.block_lt_of_cell? w1 _ c2)).trans c2
  have e3 : ∀ u : In (fun u => Below w1.heap.size w1 u), u.val.cell? ⟨w.heap.size, 3, none⟩ = some (.int .u64 a2) := fun u => (Below.cell u.held (World.block_lt_of_cell? w1 _ c3)).trans c3
  have e4 : ∀ u : In (fun u => Below w1.heap.size w1 u), u.val.cell? ⟨w.heap.size, 4, none⟩ = some (.int .u64 a3) := fun u => (Below.cell u.held (World.block_lt_of_cell? w1 _ c4)).trans c4
  clear hu0 hw1 c1 c2 c3 c4
  (refine wpH_take 0 (by rfl) (by kernel_rfl) (by intro _ _ _ h; first | exact h | (cases h.1)) (by intro _ _ _ _ h; first | exact h | (cases h.1)) (by assumption) (fun K hK => ?_); simp only [List.setIfInBounds_toArray, List.set_cons_zero, List.set_cons_succ] at hK; go_simp; first | (refine hK _ ?_; clear hK K) | (apply Exists.intro; refine ⟨fun _ => rfl, hK _ ?_⟩; clear hK K)); (refine wpH_take 1 (by rfl) (by kernel_rfl) (by intro _ _ _ h; first | exact h | (cases h.1)) (by intro _ _ _ _ h; first | exact h | (cases h.1)) (by assumption) (fun K hK => ?_); simp only [List.setIfInBounds_toArray, List.set_cons_zero, List.set_cons_succ] at hK; go_simp; first | (refine hK _ ?_; clear hK K) | (apply Exists.intro; refine ⟨fun _ => rfl, hK _ ?_⟩; clear hK K))
  clear e1 e2 e3 e4
  (refine wpH_only 2 (by rfl) (by kernel_rfl) (fun K hK => ?_); simp only [List.setIfInBounds_toArray, List.set_cons_zero, List.set_cons_succ] at hK; go_simp)
  refine (Ci.out _).mono ?_
  rintro e u1 ⟨rfl, b1⟩
  have hS1 := Below.then hS0 b1
  refine hK _ _ hS1 ?_; clear hK K
  (refine wpH_take 3 (by rfl) (by kernel_rfl) (by intro _ _ _ h; first | exact h | (cases h.1)) (by intro _ _ _ _ h; first | exact h | (cases h.1)) (by assumption) (fun K hK => ?_); simp only [List.setIfInBounds_toArray, List.set_cons_zero, List.set_cons_succ] at hK; go_simp; first | (refine hK _ ?_; clear hK K) | (apply Exists.intro; refine ⟨fun _ => rfl, hK _ ?_⟩; clear hK K))
  (refine wpH_only 4 (by rfl) (by kernel_rfl) (fun K hK => ?_); simp only [List.setIfInBounds_toArray, List.set_cons_zero, List.set_cons_succ] at hK; go_simp)
  have hs4 := Blk.new u1 208 [.int .u64 a0, .int .u64 a1, .int .u64 a2, .int .u64 a3, .int .u64 n0, .int .u64 n1, .int .u64 n2, .int .u64 n3]
  have hb4 : Below u1.heap.size u1 (u1.alloc (.cells #[.int .u64 a0, .int .u64 a1, .int .u64 a2, .int .u64 a3, .int .u64 n0, .int .u64 n1, .int .u64 n2, .int .u64 n3] 208)) := (Below.refl _ _).alloc (Nat.le_refl _) _
  have hS4 := Below.then hS1 hb4
  refine hK _ _ hS4 ?_; clear hK K
  have hd4 := hd.kept hS4
  have hgs4 : w.heap.size ≤ u1.heap.size := Nat.le_trans hd.bel.size hS1.size
  clear hS1 hb4 hS0 b1
  obtain ⟨gs, hgs⟩ : ∃ gs, gs = u1.heap.size := ⟨_, rfl⟩
  obtain ⟨w4, hw4⟩ : ∃ x, x = u1.alloc (.cells #[.int .u64 a0, .int .u64 a1, .int .u64 a2, .int .u64 a3, .int .u64 n0, .int .u64 n1, .int .u64 n2, .int .u64 n3] 208) := ⟨_, rfl⟩
  change Blk 208 (u1.alloc (.cells #[.int .u64 a0, .int .u64 a1, .int .u64 a2, .int .u64 a3, .int .u64 n0, .int .u64 n1, .int .u64 n2, .int .u64 n3] 208)) u1.heap.size _ at hs4
  rw [← hgs, ← hw4] at hs4
  rw [← hgs] at hgs4
  rw [← hw4] at hd4 hS4
  try simp only [← hgs, ← hw4]
  clear hw4 hgs
  (refine wpH_take 5 (by rfl) (by kernel_rfl) (by intro _ _ _ h; first | exact h | (cases h.1)) (by intro _ _ _ _ h; first | exact h | (cases h.1)) (by assumption) (fun K hK => ?_); simp only [List.setIfInBounds_toArray, List.set_cons_zero, List.set_cons_succ] at hK; go_simp; first | (refine hK _ ?_; clear hK K) | (apply Exists.intro; refine ⟨fun _ => rfl, hK _ ?_⟩; clear hK K))
  refine wpH_done (by kernel_rfl) ?_
  obtain ⟨kk, hkk⟩ : ∃ kk, kk = o.k := ⟨_, rfl⟩
  have HA := Lib.hid hA
  have HN := Lib.hid hN
  have k4 : w4.cell? ⟨w.heap.size, 0, none⟩ = some (.int .i64 kk) := by rw [hkk]; exact hd4.b.cell 0
  clear hS4
  have HKK := Lib.hid hkk
  clear hkk hA hN hc
  go_upto_block 0 with fail
  go_cut [5] from 14 (fun s5 wc => ∃ (N gs n : Nat), spanN o = some N ∧ s5 = .slice (some ⟨gs, 0, none⟩) n n ∧ n = (spansL o N).length ∧ SpW w o N gs wc)
  case rest =>
    clear hd4 hgs4 hs4 k4 hd Ci
    obtain ⟨N, gz, n, hN, rfl, hn, hS⟩ := hcut
    have hn2 : n ≤ 2 := by rw [hn]; unfold spansL; split <;> simp
    have hm1 := hm.kept hS.d.bel
    obtain ⟨ba, bc, rfl, hbc⟩ := hm.o.form
    obtain ⟨bn, hbn⟩ : ∃ bn, bn = M.length := ⟨_, rfl⟩
    have nc : ∀ (p : Nat × Nat) (u : World), p ∈ spansL o N → Below w.heap.size w u → Calls Try.prog 104 #[.pointer (some ⟨g, 0, none⟩), .agg (wcs p.1).toArray, .agg (wcs p.2).toArray] u fun e w' => e = .returned (needV (needP bn p.1 p.2)) ∧ Below u.heap.size u w' := fun p u hp hb =>
      need_any g ba bn bc p.1 p.2 (spans_lt k hN p hp).1 (spans_lt k hN p hp).2 (by omega) u (by rw [hbn]; exact hm.z.kept hb)
    have Nc := Lib.hid nc
    have HN := Lib.hid hN
    have Hn := Lib.hid hn
    have Hbn := Lib.hid hbn
    clear nc hN hn hbn hm1
    have hS0 := hS
    clear hS
    go_wp2_with fail
    go_loopw [6, 56] (fun s6 s56 wr => ∃ (i s : Nat), i ≤ n ∧ s56 = .int .i64 (i : Int) ∧ s6 = .int .i64 (s : Int) ∧ s ≤ 4096 ∧ needT bn ((spansL o N).take i) = some s ∧ SpW w o N gz wr) (fun _ ix _ => n - (intOf ix).toNat)
    case atStart => exact ⟨0, 0, by omega, rfl, rfl, by omega, rfl, hS0⟩
    case round =>
      clear hS0
      obtain ⟨i, s, hin, rfl, rfl, hs4, hT, hS⟩ := hrel
      by_cases hlt : i < n
      · have hz : (i : Int) < (n : Int) := by omega
        have hil : i < (spansL o N).length := by rw [← Hn.out]; exact hlt
        have hr := hS.range i hil
        have hnx := fun x hx => needT_next (b := bn) (x := x) hil hT hx
        have hno := needT_stop (b := bn) hil hT
        have hnc := fun u hb => Nc.out (spansL o N)[i] u (List.getElem_mem hil) hb
        obtain ⟨p, hp⟩ : ∃ p, p = (spansL o N)[i] := ⟨_, rfl⟩
        rw [← hp] at hr hnx hno hnc
        obtain ⟨P8, hP8⟩ : ∃ P, P = spc p := ⟨_, rfl⟩
        have hl8 : P8.length = 8 := by rw [hP8]; rfl
        have ho8 : ∀ u ∈ P8, u.oneCell' = true := by rw [hP8]; exact spc_one p
        have hr4 : ∀ u x, Blk 208 u x P8 → u.rangeAt x 0 (wcs p.1) ∧ u.rangeAt x 4 (wcs p.2) := fun u x h => by
          rw [hP8] at h
          exact ⟨by have := h.range 0 4; exact this, by have := h.range 4 4; exact this⟩
        rw [← hP8] at hr
        obtain ⟨Y, hY⟩ : ∃ Y, Y = wcs p.1 := ⟨_, rfl⟩
        obtain ⟨Z, hZ⟩ : ∃ Z, Z = wcs p.2 := ⟨_, rfl⟩
        have hlY : Y.length = 4 := by rw [hY]; rfl
        have hlZ : Z.length = 4 := by rw [hZ]; rfl
        rw [← hY, ← hZ] at hr4 hnc
        have Hr4 := Lib.hid hr4
        have Hnx := Lib.hid hnx
        have Hno := Lib.hid hno
        have Hnc := Lib.hid hnc
        have HT := Lib.hid hT
        have n8 := Blk.newA wr 208 z8.toArray
        have hb8 : Below wr.heap.size wr (wr.alloc (.cells z8.toArray 208)) := (Below.refl _ _).alloc (Nat.le_refl _) _
        clear hr4 hnx hno hnc hT hp hP8 hY hZ hil
        cases hx : needP bn p.1 p.2 with
        | none =>
          have Hst := Lib.hid (stepM_much (M := M) HN.out (by rw [← needT_size o N hM HN.out, ← Hbn.out]; exact Hno.out hx))
          rw [hx] at Hnc
          go_wp2_with (first
            | ((with_reducible show wpList _ _ _ (⟨some 59, _, _, _, _, _⟩ :: _) _ _); refine wpList_loadW (o := ⟨some 59, _, _, _, _, _⟩) 208 (.tmp 58) (by rfl) gz (i * 8) (by rfl) aggSp hl8 hr (by rfl) ?_)
            | ((with_reducible show wpList _ _ _ (⟨none, Op.store _ _ (Operand.tmp 59), _, _, _, _⟩ :: _) _ _); refine wpList_storeA (o := ⟨none, _, _, _, _, _⟩) (by rfl) 208 (.tmp 8) (.tmp 59) (by rfl) wr.heap.size P8 (by rfl) (by rfl) aggSp n8 hl8 (by rfl) ho8 hb8 (Nat.le_refl _) ?_; intro w2 z2 b2 _; have R2 := Hr4.out _ _ z2; have S2 := hS.kept b2)
            | ((with_reducible show wpList _ _ _ (⟨some 63, _, _, _, _, _⟩ :: _) _ _); refine wpList_loadW (o := ⟨some 63, _, _, _, _, _⟩) 40 (.tmp 62) (by rfl) wr.heap.size 0 (by rfl) aggWord hlY R2.1 (by rfl) ?_)
            | ((with_reducible show wpList _ _ _ (⟨some 65, _, _, _, _, _⟩ :: _) _ _); refine wpList_loadW (o := ⟨some 65, _, _, _, _, _⟩) 40 (.tmp 64) (by rfl) wr.heap.size 4 (by rfl) aggWord hlZ R2.2 (by rfl) ?_)
            | (go_at_call 104; (with_reducible refine (Hnc.out _ S2.d.bel).mono ?_); rintro e w3 ⟨rfl, b3⟩; have S3 := S2.kept b3; try dsimp only [needV])
            | ((with_reducible show wpList _ _ _ (⟨none, Op.store _ _ (Operand.tmp 72), _, _, _, _⟩ :: _) _ _); refine wpList_storeA (o := ⟨none, _, _, _, _, _⟩) (by rfl) 42 (.tmp 4) (.tmp 72) (by rfl) (w.heap.size + 1) (manc ⟨6, 0, 0⟩) (by rfl) (by rfl) aggAns S3.d.a rfl rfl (manc_one _) S3.d.bel (Nat.le_succ _) ?_; intro w5 hb5 bel5 _))
          refine bodyPost_ret (results_blk rfl _ _ (w.heap.size + 1) aggAns hb5 rfl rfl) rfl ?_
          rw [DoPost, Hst.out]
          exact ⟨rfl, _, hm.kept bel5, (But2.refl _ _ _).kept bel5, fun k hk => .inl hk⟩
        | some x =>
          rw [hx] at Hnc
          have hx4 := (needP_le (by rw [Hbn.out]; exact hM) hx).2.1
          have hmx : max (s : Int) (x : Int) = ((max s x : Nat) : Int) := by omega
          go_wp2_with (first
            | ((with_reducible show wpList _ _ _ (⟨some 59, _, _, _, _, _⟩ :: _) _ _); refine wpList_loadW (o := ⟨some 59, _, _, _, _, _⟩) 208 (.tmp 58) (by rfl) gz (i * 8) (by rfl) aggSp hl8 hr (by rfl) ?_)
            | ((with_reducible show wpList _ _ _ (⟨none, Op.store _ _ (Operand.tmp 59), _, _, _, _⟩ :: _) _ _); refine wpList_storeA (o := ⟨none, _, _, _, _, _⟩) (by rfl) 208 (.tmp 8) (.tmp 59) (by rfl) wr.heap.size P8 (by rfl) (by rfl) aggSp n8 hl8 (by rfl) ho8 hb8 (Nat.le_refl _) ?_; intro w2 z2 b2 _; have R2 := Hr4.out _ _ z2; have S2 := hS.kept b2)
            | ((with_reducible show wpList _ _ _ (⟨some 63, _, _, _, _, _⟩ :: _) _ _); refine wpList_loadW (o := ⟨some 63, _, _, _, _, _⟩) 40 (.tmp 62) (by rfl) wr.heap.size 0 (by rfl) aggWord hlY R2.1 (by rfl) ?_)
            | ((with_reducible show wpList _ _ _ (⟨some 65, _, _, _, _, _⟩ :: _) _ _); refine wpList_loadW (o := ⟨some 65, _, _, _, _, _⟩) 40 (.tmp 64) (by rfl) wr.heap.size 4 (by rfl) aggWord hlZ R2.2 (by rfl) ?_)
            | (go_at_call 104; (with_reducible refine (Hnc.out _ S2.d.bel).mono ?_); rintro e w3 ⟨rfl, b3⟩; have S3 := S2.kept b3; try dsimp only [needV]))
          go_roundw
          case rel => exact ⟨i + 1, max s x, by omega, rfl, rfl, by omega, Hnx.out x hx, S3⟩
          case measure => simp [intOf]; omega
      · obtain rfl : i = n := by omega
        have hz : ¬ (i : Int) < (i : Int) := by omega
        have hsz : sizeM M.length o N = some s := by rw [← needT_size o N hM HN.out, ← Hbn.out, ← hT, Hn.out, List.take_length]
        have hle := sizeM_le hM hsz
        have hst := stepM_does (M := M) HN.out hsz
        have hml : (growM M s).length = s := by rw [growM_len]; omega
        obtain ⟨M', hM'⟩ : ∃ M', M' = growM M s := ⟨_, rfl⟩
        obtain ⟨C, hC⟩ : ∃ C, C = priceN M.length s := ⟨_, rfl⟩
        have gc := fun u hu hB => grow_any g B (.slice ba M.length bc) M s hle.2.1 hM u hu hB
        rw [← hM', ← hC] at hst
        rw [← hM'] at hml
        rw [← hM', ← hC] at gc
        have hmr := hm.kept hS.d.bel
        have hBr : B ≤ wr.heap.size := Nat.le_trans hB hS.d.bel.size
        have Gc := Lib.hid gc
        have Hst := Lib.hid hst
        have Hle := Lib.hid hle
        have Hml := Lib.hid hml
        clear gc hst hle hml hM' hC hsz hT Nc hs4
        go_upto_region 22 with (go_at_call 105; refine (Gc.out _ hmr hBr).mono ?_; rintro e w3 ⟨rfl, v', hm3, bt3, hl3⟩; have G3 := GrW.made hS hmr bt3 hm3 hl3)
        have z11 : Blk 42 (w3.alloc (.cells #[.int .i64 0, .int .u64 0, .int .u64 0, .int .u64 0, .int .u64 0, .int .u64 (C : Int)] 42)) w3.heap.size (manc ⟨0, 0, C⟩) := by rw [manc_zero]; exact Blk.new w3 42 [.int .i64 0, .int .u64 0, .int .u64 0, .int .u64 0, .int .u64 0, .int .u64 (C : Int)]
        have b11 : Below w3.heap.size w3 (w3.alloc (.cells #[.int .i64 0, .int .u64 0, .int .u64 0, .int .u64 0, .int .u64 0, .int .u64 (C : Int)] 42)) := (Below.refl _ _).alloc (Nat.le_refl _) _
        have G4 := G3.kept b11
        obtain ⟨y4, hy4⟩ : ∃ x, x = w3.alloc (.cells #[.int .i64 0, .int .u64 0, .int .u64 0, .int .u64 0, .int .u64 0, .int .u64 (C : Int)] 42) := ⟨_, rfl⟩
        rw [← hy4] at z11 G4
        try simp only [← hy4]
        clear hy4 b11
        obtain ⟨g11, hg11⟩ : ∃ x, x = w3.heap.size := ⟨_, rfl⟩
        have hg11w : w.heap.size + 1 < g11 := by rw [hg11]; exact Nat.lt_of_lt_of_le hS.d.a.lt bt3.size
        rw [← hg11] at z11
        try simp only [← hg11]
        clear hg11 G3 hm3 bt3 hl3 hmr hBr Gc hS
        obtain ⟨va, vc, rfl, hvc⟩ := G4.m.o.form' s Hml.out
        have hvl := G4.m.o.row.fits.2.1
        have hlies := fun h0 => OwnOf.lies (by have := G4.m.o; exact this) h0
        have RA := Lib.hid (show y4.rangeAt w.heap.size 1 (wcs o.A) from by have := G4.b.range 1 4; exact this)
        have RS := Lib.hid (show y4.rangeAt gz 4 (wcs N) from by have := G4.s.range 4 4; exact this)
        obtain ⟨V, hV⟩ : ∃ V : Value, V = if N = 0 then .slice none 0 0 else .slice (va.map fun p => ⟨p.block, o.A, none⟩) N (vc - o.A) := ⟨_, rfl⟩
        have hNl : N < W256 := (spans_lt k HN.out (o.A, N) (by unfold spansL; simp)).2
        have hfit : N = 0 ∨ (o.A + N ≤ s ∧ ∃ gb, va = some ⟨gb, 0, none⟩) := by
          rcases Hle.out.2.2.1 with h0 | h0
          · exact .inl h0
          · by_cases hN0 : N = 0
            · exact .inl hN0
            · obtain ⟨gb, h1, _⟩ := hlies (by omega)
              exact .inr ⟨h0, gb, h1⟩
        have vw := fun u hu => view_any g va s vc o.A N hNl Hle.out.2.1 hvl hfit u hu
        rw [← hV] at vw
        obtain ⟨WA, hWA⟩ : ∃ X, X = wcs o.A := ⟨_, rfl⟩
        obtain ⟨WN, hWN⟩ : ∃ X, X = wcs N := ⟨_, rfl⟩
        have hlA : WA.length = 4 := by rw [hWA]; rfl
        have hlN : WN.length = 4 := by rw [hWN]; rfl
        rw [← hWA, ← hWN] at vw
        rw [← hWA] at RA
        rw [← hWN] at RS
        have vw2 := fun u : Ext y4 => vw u.val (G4.m.z.kept u.bel)
        have Vw := Lib.hid vw2
        clear vw2
        have HV := Lib.hid hV
        have Hfit := Lib.hid hfit
        clear vw hV hfit hlies hWA hWN
        have hi0 : 0 < i := by rw [Hn.out]; unfold spansL; simp
        refine wp_region_typed y4 8 (by kernel_rfl) (by kernel_rfl) (Below.refl _ _) ?_; simp only [List.take_succ_cons, List.take_zero, List.take_nil]
        iterate 2 (refine wpX_step (by rfl) (fun K hK => ?_); go_simp; first | (refine hK _ ?_; clear hK K) | (apply Exists.intro; refine ⟨fun _ => ?_, hK _ ?_⟩; fail; clear hK K))
        (refine wpX_step (by rfl) (fun K hK => ?_); rw [if_pos (by rfl)]; refine ⟨_, fun u => const_loadm _ (.tmp 82) (by rfl) _ _ (by rfl) aggWord hlA (rangeAt.ext RA.out u), hK _ ?_⟩; clear hK K; simp only [Act.put, List.setIfInBounds_toArray, List.set_cons_zero, List.set_cons_succ])
        iterate 3 (refine wpX_step (by rfl) (fun K hK => ?_); go_simp; first | (refine hK _ ?_; clear hK K) | (apply Exists.intro; refine ⟨fun _ => ?_, hK _ ?_⟩; fail; clear hK K))
        (refine wpX_step (by rfl) (fun K hK => ?_); rw [if_pos (by rfl)]; refine ⟨_, fun u => const_loadm _ (.tmp 86) (by rfl) _ _ (by rfl) aggWord hlN (rangeAt.ext RS.out u), hK _ ?_⟩; clear hK K; simp only [Act.put, List.setIfInBounds_toArray, List.set_cons_zero, List.set_cons_succ])
        (refine wpX_step (by rfl) (fun K hK => ?_); go_simp; first | (refine hK _ ?_; clear hK K) | (apply Exists.intro; refine ⟨fun _ => ?_, hK _ ?_⟩; exact Vw.out _; clear hK K))
        refine wpX_nil ?_
        intro y5 b5
        change wpList _ _ _ [_] _ _
        try simp only [Act.put, List.setIfInBounds_toArray, List.set_cons_zero, List.set_cons_succ]
        have G5 := G4.kept b5
        have z5 := z11.kept b5
        clear G4 z11 b5 RA RS Vw
        rw [manc_zero] at z5
        have cK : y5.cell? ⟨w.heap.size, 0, none⟩ = some (.int .i64 kk) := by rw [HKK.out]; exact G5.b.cell 0
        by_cases h1 : kk = 1
        · subst h1
          have hk := HKK.out
          obtain rfl : N = 32 := by have := HN.out; unfold spanN at this; rw [← hk] at this; simpa using this.symm
          obtain ⟨hAs, gb, rfl⟩ := Hfit.out.resolve_left (by omega)
          obtain rfl : V = .slice (some ⟨gb, o.A, none⟩) 32 (vc - o.A) := by rw [HV.out]; rfl
          have hrow := G5.m.o.partAt o.A 32 hAs (by omega)
          obtain ⟨L, hL⟩ : ∃ L, L = (M'.drop o.A).take 32 := ⟨_, rfl⟩
          rw [← hL] at hrow
          have hLl : L.length = 32 := by have := hrow.fits.1; omega
          have rc := fun u (hu : Bytes u (.slice (some ⟨gb, o.A, none⟩) 32 (vc - o.A)) L) => read_any (some ⟨gb, o.A, none⟩) (vc - o.A) L u (by rw [hLl]; exact hu)
          rw [show last32 L = L from by unfold last32; rw [hLl]; rfl, hLl] at rc
          obtain ⟨r0, r1, r2, r3, hR⟩ : ∃ a0 a1 a2 a3 : Int, wcs (numL L) = [.int .u64 a0, .int .u64 a1, .int .u64 a2, .int .u64 a3] := ⟨_, _, _, _, rfl⟩
          have rc2 : ∀ u, Bytes u (.slice (some ⟨gb, o.A, none⟩) 32 (vc - o.A)) L → Calls Try.prog 107 #[.slice (some ⟨gb, o.A, none⟩) 32 (vc - o.A)] u fun e w' => e = .returned (.agg #[.int .u64 r0, .int .u64 r1, .int .u64 r2, .int .u64 r3]) ∧ Below u.heap.size u w' := fun u hu => by
            have := rc u hu
            unfold wv at this
            rw [hR] at this
            exact this
          have Rc := Lib.hid rc2
          have HR := Lib.hid hR
          have hans : stepM M o = (M', ⟨0, numL L, C⟩) := by rw [Hst.out]; unfold dataM wordM; rw [← hk, ← hL]; simp [putM_nil]
          have Hans := Lib.hid hans
          obtain ⟨vx, hvx⟩ : ∃ x, x = vc - o.A := ⟨_, rfl⟩
          rw [← hvx] at Rc hrow ⊢
          clear rc rc2 hR hans hL HKK hk hvx hAs hLl HV Hfit Hst HN
          go_upto_region 35 with (go_at_call 107; refine (Rc.out _ hrow).mono ?_; rintro e w6 ⟨rfl, b6⟩; have G6 := G5.kept b6; have z6' := z5.kept b6; have q1 : w6.cell? ⟨g11, 1, none⟩ = some (.int .u64 0) := z6'.cell 1; have q2 : w6.cell? ⟨g11, 2, none⟩ = some (.int .u64 0) := z6'.cell 2; have q3 : w6.cell? ⟨g11, 3, none⟩ = some (.int .u64 0) := z6'.cell 3; have q4 : w6.cell? ⟨g11, 4, none⟩ = some (.int .u64 0) := z6'.cell 4; have f1 := z6'.free 1; have f2 := z6'.free 2; have f3 := z6'.free 3; have f4 := z6'.free 4)
          have z7 := ((((z6'.set 1 (.int .u64 r0)).set 2 (.int .u64 r1)).set 3 (.int .u64 r2)).set 4 (.int .u64 r3))
          have G7 := (((G6.other z6' hg11w (grown_cell 1 (.int .u64 r0))).other (z6'.set 1 _) hg11w (grown_cell 2 (.int .u64 r1))).other ((z6'.set 1 _).set 2 _) hg11w (grown_cell 3 (.int .u64 r2))).other (((z6'.set 1 _).set 2 _).set 3 _) hg11w (grown_cell 4 (.int .u64 r3))
          obtain ⟨w7, hw7⟩ : ∃ x, x = (((w6.setCell ⟨g11, 1, none⟩ (.int .u64 r0)).setCell ⟨g11, 2, none⟩ (.int .u64 r1)).setCell ⟨g11, 3, none⟩ (.int .u64 r2)).setCell ⟨g11, 4, none⟩ (.int .u64 r3) := ⟨_, rfl⟩
          rw [← hw7] at z7 G7
          try simp only [← hw7]
          clear hw7 q1 q2 q3 q4 f1 f2 f3 f4 z6' G6 z5 G5 b6 cK
          have ea : manc ⟨0, numL L, C⟩ = [.int .i64 0, .int .u64 r0, .int .u64 r1, .int .u64 r2, .int .u64 r3, .int .u64 (C : Int)] := by unfold manc; rw [HR.out]; rfl
          have z8' : Blk 42 w7 g11 (manc ⟨0, numL L, C⟩) := by rw [ea]; exact z7
          obtain ⟨CA, hCA⟩ : ∃ CA, CA = manc ⟨0, numL L, C⟩ := ⟨_, rfl⟩
          have hCl : CA.length = 6 := by rw [hCA]; rfl
          have hCo : ∀ u ∈ CA, u.oneCell' = true := by rw [hCA]; exact manc_one _
          rw [← hCA] at z8'
          have HCA := Lib.hid hCA
          have Ga := G7.a
          clear hCA ea z7
          go_wp2_with (first
            | ((with_reducible show wpList _ _ _ (⟨some 128, _, _, _, _, _⟩ :: _) _ _); refine wpList_loadA (o := ⟨some 128, _, _, _, _, _⟩) (by rfl) 42 (.tmp 11) (by rfl) g11 (by rfl) aggAns z8' hCl ?_)
            | ((with_reducible show wpList _ _ _ (⟨none, Op.store _ _ (Operand.tmp 128), _, _, _, _⟩ :: _) _ _); refine wpList_storeA (o := ⟨none, _, _, _, _, _⟩) (by rfl) 42 (.tmp 4) (.tmp 128) (by rfl) (w.heap.size + 1) CA (by rfl) (by rfl) aggAns Ga hCl rfl hCo (Below.refl (w.heap.size + 1) w7) (Nat.le_refl _) ?_; intro w8 hb8 _ g8))
          refine bodyPost_ret (results_blk rfl _ _ (w.heap.size + 1) aggAns hb8 hCl rfl) rfl ?_
          rw [DoPost, Hans.out, ← HCA.out]
          exact ⟨rfl, G7.done g8⟩
        by_cases h2 : kk = 2
        · subst h2
          have hk := HKK.out
          obtain rfl : N = 32 := by have := HN.out; unfold spanN at this; rw [← hk] at this; simpa using this.symm
          obtain ⟨hAs, gb, rfl⟩ := Hfit.out.resolve_left (by omega)
          obtain rfl : V = .slice (some ⟨gb, o.A, none⟩) 32 (vc - o.A) := by rw [HV.out]; rfl
          obtain ⟨x0, x1, x2, x3, hX⟩ : ∃ a0 a1 a2 a3 : Int, wcs o.X = [.int .u64 a0, .int .u64 a1, .int .u64 a2, .int .u64 a3] := ⟨_, _, _, _, rfl⟩
          have hc := G5.b
          unfold mopc at hc
          rw [hX] at hc
          have c13 : y5.cell? ⟨w.heap.size, 13, none⟩ = some (.int .u64 x0) := hc.cell 13
          have c14 : y5.cell? ⟨w.heap.size, 14, none⟩ = some (.int .u64 x1) := hc.cell 14
          have c15 : y5.cell? ⟨w.heap.size, 15, none⟩ = some (.int .u64 x2) := hc.cell 15
          have c16 : y5.cell? ⟨w.heap.size, 16, none⟩ = some (.int .u64 x3) := hc.cell 16
          obtain ⟨HC, hHC⟩ : ∃ X, X = hcs o.X := ⟨_, rfl⟩
          have bc2 : ∀ u, Calls Try.prog 108 #[.agg #[.int .u64 x0, .int .u64 x1, .int .u64 x2, .int .u64 x3]] u fun e w' => e = .returned (.agg HC.toArray) ∧ Below u.heap.size u w' := fun u => by
            have := bytes_any o.X u
            unfold wv at this
            rw [hX, ← hHC] at this
            exact this
          have hHl : HC.length = 32 := by rw [hHC]; exact hcs_len _
          have hHo : ∀ u ∈ HC, u.oneCell' = true := by rw [hHC]; exact hcs_one _
          have Bc := Lib.hid bc2
          have hrowX : ∀ u g, Blk 69 u g HC → Bytes u (.slice (some ⟨g, 0, none⟩) 32 32) (wb o.X) := fun u g h => by
            rw [hHC] at h
            refine Blk.row (f := b8) (size := 1) h (wb o.X) 32 32 (fun _ => rfl) (wb_len _) (fun j x hx => ?_) (Nat.le_refl _) (by unfold maxLen; omega)
            rw [flat_b8] at hx; exact hx
          have HrowX := Lib.hid hrowX
          have hans : stepM M o = (putM M' o.A (wb o.X), ⟨0, 0, C⟩) := by rw [Hst.out]; unfold dataM wordM; rw [← hk]; rfl
          have Hans := Lib.hid hans
          have hAs' := hAs
          obtain ⟨vx, hvx⟩ : ∃ x, x = vc - o.A := ⟨_, rfl⟩
          rw [← hvx]
          clear bc2 hans HKK hk hvx HV Hfit Hst HN hc hX hHC hrowX
          go_upto_region 28 with (first
            | (go_at_call 108; refine (Bc.out _).mono ?_; rintro e w6 ⟨rfl, b6⟩; have G6 := G5.kept b6; have z6' := z5.kept b6; have n13 := Blk.newA w6 69 z32.toArray; have b13 : Below w6.heap.size w6 (w6.alloc (.cells z32.toArray 69)) := (Below.refl _ _).alloc (Nat.le_refl _) _)
            | ((with_reducible show wpList _ _ _ (⟨none, Op.store _ _ (Operand.tmp 100), _, _, _, _⟩ :: _) _ _); refine wpList_storeA (o := ⟨none, _, _, _, _, _⟩) (by rfl) 69 (.tmp 13) (.tmp 100) (by rfl) w6.heap.size HC (by rfl) (by rfl) aggHash n13 hHl (by rfl) hHo b13 (Nat.le_refl _) ?_; intro w7 z13 b7 _))
          have G7 := G6.kept b7
          have z7 := z6'.kept b7
          have r13 := HrowX.out _ _ z13
          have s13 := sl32 w6.heap.size 0
          obtain ⟨cur, hcur, hcl, hnc, _⟩ := G7.m.o.blk one_u8
          have hwl : (wb o.X).length = 32 := wb_len _
          go_upto_region 35 with (refine wpList_copyG (o := ⟨some 103, _, _, _, _, _⟩) (by rfl) (.tmp 101) (.tmp 102) 22 22 (by rfl) elU8 gb o.A 32 vx (by rfl) (.slice (some ⟨w6.heap.size, 0, none⟩) 32 32) (wb o.X) (by rfl) r13 cur hcur (by omega) ?_; intro w9 hs9 g9)
          rw [List.take_of_length_le (by omega)] at hs9
          have G9 := G7.put hcur o.A (wb o.X) (by omega) hs9 g9
          have z9 := z7.grown g9 (fun e => hcur.apartT z7 (by decide) (by simpa using e))
          clear G7 z7 hcur hs9 r13 s13
          obtain ⟨CA, hCA⟩ : ∃ CA, CA = manc ⟨0, 0, C⟩ := ⟨_, rfl⟩
          have hCl : CA.length = 6 := by rw [hCA]; rfl
          have hCo : ∀ u ∈ CA, u.oneCell' = true := by rw [hCA]; exact manc_one _
          have zf : Blk 42 w9 g11 CA := by rw [hCA, manc_zero]; exact z9
          have HCA := Lib.hid hCA
          have Ga := G9.a
          clear hCA
          go_wp2_with (first
            | ((with_reducible show wpList _ _ _ (⟨some 128, _, _, _, _, _⟩ :: _) _ _); refine wpList_loadA (o := ⟨some 128, _, _, _, _, _⟩) (by rfl) 42 (.tmp 11) (by rfl) g11 (by rfl) aggAns zf hCl ?_)
            | ((with_reducible show wpList _ _ _ (⟨none, Op.store _ _ (Operand.tmp 128), _, _, _, _⟩ :: _) _ _); refine wpList_storeA (o := ⟨none, _, _, _, _, _⟩) (by rfl) 42 (.tmp 4) (.tmp 128) (by rfl) (w.heap.size + 1) CA (by rfl) (by rfl) aggAns Ga hCl rfl hCo (Below.refl (w.heap.size + 1) w9) (Nat.le_refl _) ?_; intro w8 hb8 _ g8))
          refine bodyPost_ret (results_blk rfl _ _ (w.heap.size + 1) aggAns hb8 hCl rfl) rfl ?_
          rw [DoPost, Hans.out, ← HCA.out]
          exact ⟨rfl, G9.done g8⟩
        by_cases h3 : kk = 3
        · subst h3
          have hk := HKK.out
          obtain rfl : N = 1 := by have := HN.out; unfold spanN at this; rw [← hk] at this; simpa using this.symm
          obtain ⟨hAs, gb, rfl⟩ := Hfit.out.resolve_left (by omega)
          obtain rfl : V = .slice (some ⟨gb, o.A, none⟩) 1 (vc - o.A) := by rw [HV.out]; rfl
          have c13 : y5.cell? ⟨w.heap.size, 13, none⟩ = some (.int .u64 (lim o.X 0 : Int)) := G5.b.cell 13
          obtain ⟨x0, hx0⟩ : ∃ x : Int, x = (lim o.X 0 : Int) := ⟨_, rfl⟩
          obtain ⟨bb, hbb⟩ : ∃ x, x = wbyte o.X 31 := ⟨_, rfl⟩
          have hwr : IntKind.u8.wrap x0 = (bb.toNat : Int) := by rw [hx0, hbb]; exact low_byte o.X
          rw [← hx0] at c13
          have hd31 : (wb o.X).drop 31 = [bb] := by rw [hbb]; exact wb_last o.X
          have hans : stepM M o = (putM M' o.A [bb], ⟨0, 0, C⟩) := by rw [Hst.out]; unfold dataM wordM; rw [← hk, ← hd31]; rfl
          have Hans := Lib.hid hans
          obtain ⟨cur, hcur, hcl, hnc, _⟩ := G5.m.o.blk one_u8
          have qA := hcur.get o.A (by omega)
          have fA := hcur.free o.A
          obtain ⟨qv, hqv⟩ : ∃ x, x = cur[o.A]'(by omega) := ⟨_, rfl⟩
          rw [← hqv] at qA
          obtain ⟨vx, hvx⟩ : ∃ x, x = vc - o.A := ⟨_, rfl⟩
          rw [← hvx]
          clear hans HKK hk hvx HV Hfit Hst HN hx0 hbb hd31 hqv
          go_upto_region 35 with fail
          have hs9 : Blk 5 (y5.setCell ⟨gb, o.A, none⟩ (.int .u8 (bb.toNat : Int))) gb (splice cur o.A (by8 [bb])) := by
            have e : splice cur o.A (by8 [bb]) = cur.set o.A (u8v bb) := by
              unfold splice
              rw [List.set_eq_take_append_cons_drop, if_pos (by omega)]
              rfl
            rw [e]; exact hcur.set o.A _
          have g9 : y5.grownBy (y5.setCell ⟨gb, o.A, none⟩ (.int .u8 (bb.toNat : Int))) (some gb) := grown_cell _ _
          obtain ⟨w9, hw9⟩ : ∃ x, x = y5.setCell ⟨gb, o.A, none⟩ (.int .u8 (bb.toNat : Int)) := ⟨_, rfl⟩
          rw [← hw9] at hs9 g9
          try simp only [← hw9]
          have G9 := G5.put hcur o.A [bb] (by simp only [List.length_singleton]; omega) hs9 g9
          have z9 := z5.grown g9 (fun e => hcur.apartT z5 (by decide) (by simpa using e))
          clear G5 z5 hcur hs9 hw9 qA fA
          obtain ⟨CA, hCA⟩ : ∃ CA, CA = manc ⟨0, 0, C⟩ := ⟨_, rfl⟩
          have hCl : CA.length = 6 := by rw [hCA]; rfl
          have hCo : ∀ u ∈ CA, u.oneCell' = true := by rw [hCA]; exact manc_one _
          have zf : Blk 42 w9 g11 CA := by rw [hCA, manc_zero]; exact z9
          have HCA := Lib.hid hCA
          have Ga := G9.a
          clear hCA
          go_wp2_with (first
            | ((with_reducible show wpList _ _ _ (⟨some 128, _, _, _, _, _⟩ :: _) _ _); refine wpList_loadA (o := ⟨some 128, _, _, _, _, _⟩) (by rfl) 42 (.tmp 11) (by rfl) g11 (by rfl) aggAns zf hCl ?_)
            | ((with_reducible show wpList _ _ _ (⟨none, Op.store _ _ (Operand.tmp 128), _, _, _, _⟩ :: _) _ _); refine wpList_storeA (o := ⟨none, _, _, _, _, _⟩) (by rfl) 42 (.tmp 4) (.tmp 128) (by rfl) (w.heap.size + 1) CA (by rfl) (by rfl) aggAns Ga hCl rfl hCo (Below.refl (w.heap.size + 1) w9) (Nat.le_refl _) ?_; intro w8 hb8 _ g8))
          refine bodyPost_ret (results_blk rfl _ _ (w.heap.size + 1) aggAns hb8 hCl rfl) rfl ?_
          rw [DoPost, Hans.out, ← HCA.out]
          exact ⟨rfl, G9.done g8⟩
        by_cases h4 : kk = 4
        · subst h4
          have hk := HKK.out
          obtain rfl : N = o.L := by have := HN.out; unfold spanN at this; rw [← hk] at this; simpa using this.symm
          have hfr : fromN o = o.L := by unfold fromN; rw [← hk]; rfl
          have hF2 := Hle.out.2.2.2
          rw [hfr] at hF2
          obtain ⟨p0, p1, p2, p3, hF⟩ : ∃ a0 a1 a2 a3 : Int, wcs o.F = [.int .u64 a0, .int .u64 a1, .int .u64 a2, .int .u64 a3] := ⟨_, _, _, _, rfl⟩
          obtain ⟨l0, l1, l2, l3, hL⟩ : ∃ a0 a1 a2 a3 : Int, wcs o.L = [.int .u64 a0, .int .u64 a1, .int .u64 a2, .int .u64 a3] := ⟨_, _, _, _, rfl⟩
          have hc := G5.b
          unfold mopc at hc
          rw [hF, hL] at hc
          have c5 : y5.cell? ⟨w.heap.size, 5, none⟩ = some (.int .u64 p0) := hc.cell 5
          have c6 : y5.cell? ⟨w.heap.size, 6, none⟩ = some (.int .u64 p1) := hc.cell 6
          have c7 : y5.cell? ⟨w.heap.size, 7, none⟩ = some (.int .u64 p2) := hc.cell 7
          have c8 : y5.cell? ⟨w.heap.size, 8, none⟩ = some (.int .u64 p3) := hc.cell 8
          have c9 : y5.cell? ⟨w.heap.size, 9, none⟩ = some (.int .u64 l0) := hc.cell 9
          have c10 : y5.cell? ⟨w.heap.size, 10, none⟩ = some (.int .u64 l1) := hc.cell 10
          have c11 : y5.cell? ⟨w.heap.size, 11, none⟩ = some (.int .u64 l2) := hc.cell 11
          have c12 : y5.cell? ⟨w.heap.size, 12, none⟩ = some (.int .u64 l3) := hc.cell 12
          have hans : stepM M o = (putM M' o.A ((M'.drop o.F).take o.L), ⟨0, 0, C⟩) := by rw [Hst.out]; unfold dataM wordM; rw [← hk]; rfl
          by_cases hL0 : o.L = 0
          · obtain rfl : V = .slice none 0 0 := by rw [HV.out, if_pos hL0]
            have vw2 := view_any g va s vc o.F o.L k.L Hle.out.2.1 hvl (.inl hL0) y5 G5.m.z
            rw [if_pos hL0, hF, hL] at vw2
            rw [hL0, List.take_zero, putM_nil] at hans
            have Hans := Lib.hid hans
            have Vw2 := Lib.hid vw2
            clear hans HKK hk HV Hfit Hst HN hc hF hL vw2 hfr hF2
            go_upto_region 35 with (first
              | (go_at_call 106; refine (Vw2.out).mono ?_; rintro e w6 ⟨rfl, b6⟩)
              | (refine wpList_copy_nothing (o := ⟨some 121, _, _, _, _, _⟩) (by rfl) (.tmp 114) (.tmp 120) 22 22 (by rfl) 5 elU8.ht (by kernel_rfl) none none 0 0 0 0 (by rfl) (by rfl) rfl ?_))
            have G6 := G5.kept b6
            have z6' := z5.kept b6
            clear G5 z5
            obtain ⟨CA, hCA⟩ : ∃ CA, CA = manc ⟨0, 0, C⟩ := ⟨_, rfl⟩
            have hCl : CA.length = 6 := by rw [hCA]; rfl
            have hCo : ∀ u ∈ CA, u.oneCell' = true := by rw [hCA]; exact manc_one _
            have zf : Blk 42 w6 g11 CA := by rw [hCA, manc_zero]; exact z6'
            have HCA := Lib.hid hCA
            have Ga := G6.a
            clear hCA
            go_wp2_with (first
              | ((with_reducible show wpList _ _ _ (⟨some 128, _, _, _, _, _⟩ :: _) _ _); refine wpList_loadA (o := ⟨some 128, _, _, _, _, _⟩) (by rfl) 42 (.tmp 11) (by rfl) g11 (by rfl) aggAns zf hCl ?_)
              | ((with_reducible show wpList _ _ _ (⟨none, Op.store _ _ (Operand.tmp 128), _, _, _, _⟩ :: _) _ _); refine wpList_storeA (o := ⟨none, _, _, _, _, _⟩) (by rfl) 42 (.tmp 4) (.tmp 128) (by rfl) (w.heap.size + 1) CA (by rfl) (by rfl) aggAns Ga hCl rfl hCo (Below.refl (w.heap.size + 1) w6) (Nat.le_refl _) ?_; intro w8 hb8 _ g8))
            refine bodyPost_ret (results_blk rfl _ _ (w.heap.size + 1) aggAns hb8 hCl rfl) rfl ?_
            rw [DoPost, Hans.out, ← HCA.out]
            exact ⟨rfl, G6.done g8⟩
          · obtain ⟨hAs, gb, rfl⟩ := Hfit.out.resolve_left hL0
            obtain rfl : V = .slice (some ⟨gb, o.A, none⟩) o.L (vc - o.A) := by rw [HV.out, if_neg hL0]; rfl
            have hFs := hF2.resolve_left hL0
            have vw2 := view_any g (some ⟨gb, 0, none⟩) s vc o.F o.L k.L Hle.out.2.1 hvl (.inr ⟨hFs, gb, rfl⟩) y5 G5.m.z
            rw [if_neg hL0, hF, hL] at vw2
            change Calls Try.prog 106 _ _ (fun e w' => e = .returned (.slice (some ⟨gb, o.F, none⟩) o.L (vc - o.F)) ∧ _) at vw2
            have Hans := Lib.hid hans
            have Vw2 := Lib.hid vw2
            obtain ⟨vx, hvx⟩ : ∃ x, x = vc - o.A := ⟨_, rfl⟩
            obtain ⟨vf, hvf⟩ : ∃ x, x = vc - o.F := ⟨_, rfl⟩
            have hrw : ∀ u B2, OwnOf b8 1 5 u B2 (.slice (some ⟨gb, 0, none⟩) s vc) M' → Bytes u (.slice (some ⟨gb, o.F, none⟩) o.L vf) ((M'.drop o.F).take o.L) := fun u B2 h => by rw [hvf]; exact h.partAt o.F o.L hFs (by omega)
            have Hrw := Lib.hid hrw
            have hdl : ((M'.drop o.F).take o.L).length = o.L := by rw [List.length_take, List.length_drop, Hml.out]; omega
            rw [← hvf] at Vw2
            rw [← hvx]
            obtain ⟨NL, hNL⟩ : ∃ x, x = o.L := ⟨_, rfl⟩
            rw [← hNL] at Vw2 Hrw hdl Hans hL0 hAs ⊢
            obtain ⟨DD, hDD⟩ : ∃ x, x = (M'.drop o.F).take NL := ⟨_, rfl⟩
            rw [← hDD] at Hrw hdl Hans
            clear hans HKK hk hvx hvf HV Hfit Hst HN hc hF hL vw2 hfr hF2 hFs hrw hNL hDD
            go_upto_region 35 with (first
              | (go_at_call 106; refine (Vw2.out).mono ?_; rintro e w6 ⟨rfl, b6⟩; have G6 := G5.kept b6; have z6' := z5.kept b6; have r6 := Hrw.out _ _ G6.m.o; obtain ⟨cur, hcur, hcl, hnc, _⟩ := G6.m.o.blk one_u8)
              | (refine wpList_copyG (o := ⟨some 121, _, _, _, _, _⟩) (by rfl) (.tmp 114) (.tmp 120) 22 22 (by rfl) elU8 gb o.A NL vx (by rfl) (.slice (some ⟨gb, o.F, none⟩) NL vf) DD (by rfl) r6 cur hcur (by omega) ?_; intro w9 hs9 g9))
            rw [List.take_of_length_le (by omega)] at hs9
            have G9 := G6.put hcur o.A DD (by omega) hs9 g9
            have z9 := z6'.grown g9 (fun e => hcur.apartT z6' (by decide) (by simpa using e))
            clear G5 z5 G6 z6' hcur hs9 r6
            obtain ⟨CA, hCA⟩ : ∃ CA, CA = manc ⟨0, 0, C⟩ := ⟨_, rfl⟩
            have hCl : CA.length = 6 := by rw [hCA]; rfl
            have hCo : ∀ u ∈ CA, u.oneCell' = true := by rw [hCA]; exact manc_one _
            have zf : Blk 42 w9 g11 CA := by rw [hCA, manc_zero]; exact z9
            have HCA := Lib.hid hCA
            have Ga := G9.a
            clear hCA
            go_wp2_with (first
              | ((with_reducible show wpList _ _ _ (⟨some 128, _, _, _, _, _⟩ :: _) _ _); refine wpList_loadA (o := ⟨some 128, _, _, _, _, _⟩) (by rfl) 42 (.tmp 11) (by rfl) g11 (by rfl) aggAns zf hCl ?_)
              | ((with_reducible show wpList _ _ _ (⟨none, Op.store _ _ (Operand.tmp 128), _, _, _, _⟩ :: _) _ _); refine wpList_storeA (o := ⟨none, _, _, _, _, _⟩) (by rfl) 42 (.tmp 4) (.tmp 128) (by rfl) (w.heap.size + 1) CA (by rfl) (by rfl) aggAns Ga hCl rfl hCo (Below.refl (w.heap.size + 1) w9) (Nat.le_refl _) ?_; intro w8 hb8 _ g8))
            refine bodyPost_ret (results_blk rfl _ _ (w.heap.size + 1) aggAns hb8 hCl rfl) rfl ?_
            rw [DoPost, Hans.out, ← HCA.out]
            exact ⟨rfl, G9.done g8⟩
        obtain rfl : kk = 5 := by
          have := HN.out
          unfold spanN at this
          rw [← HKK.out, if_neg (by omega), if_neg h3, if_neg h4] at this
          split at this
          · assumption
          · cases this
        have hk := HKK.out
        obtain rfl : N = o.D.length := by have := HN.out; unfold spanN at this; rw [← hk] at this; simpa using this.symm
        have hI5 := HI.out y5 (G5.t.below hB hgB hm.o.lt)
        have hans : stepM M o = (putM M' o.A o.D, ⟨0, 0, C⟩) := by rw [Hst.out]; unfold dataM wordM; rw [← hk]; rfl
        have Hans := Lib.hid hans
        obtain ⟨nd, hnd⟩ : ∃ n, n = o.D.length := ⟨_, rfl⟩
        obtain ⟨da, dc, hdv, _⟩ := hI5.form' nd hnd.symm
        have c17 : y5.cell? ⟨w.heap.size, 17, none⟩ = some (.slice da nd dc) := by have := G5.b.cell 17; rw [show (mopc o)[17]? = some o.dv from rfl, hdv] at this; exact this
        rw [hdv] at hI5
        by_cases hL0 : nd = 0
        · obtain rfl : V = .slice none 0 0 := by rw [HV.out, if_pos (by omega)]
          have hD0 : o.D = [] := List.eq_nil_of_length_eq_zero (by omega)
          rw [hD0, putM_nil] at Hans
          clear hans HKK hk HV Hfit Hst HN hdv hnd hD0
          subst hL0
          go_upto_region 35 with (refine wpList_copy_nothing (o := ⟨some 127, _, _, _, _, _⟩) (by rfl) (.tmp 124) (.tmp 126) 22 22 (by rfl) 5 elU8.ht (by kernel_rfl) none da 0 0 0 dc (by rfl) (by rfl) rfl ?_)
          obtain ⟨CA, hCA⟩ : ∃ CA, CA = manc ⟨0, 0, C⟩ := ⟨_, rfl⟩
          have hCl : CA.length = 6 := by rw [hCA]; rfl
          have hCo : ∀ u ∈ CA, u.oneCell' = true := by rw [hCA]; exact manc_one _
          have zf : Blk 42 y5 g11 CA := by rw [hCA, manc_zero]; exact z5
          have HCA := Lib.hid hCA
          have Ga := G5.a
          clear hCA
          go_wp2_with (first
            | ((with_reducible show wpList _ _ _ (⟨some 128, _, _, _, _, _⟩ :: _) _ _); refine wpList_loadA (o := ⟨some 128, _, _, _, _, _⟩) (by rfl) 42 (.tmp 11) (by rfl) g11 (by rfl) aggAns zf hCl ?_)
            | ((with_reducible show wpList _ _ _ (⟨none, Op.store _ _ (Operand.tmp 128), _, _, _, _⟩ :: _) _ _); refine wpList_storeA (o := ⟨none, _, _, _, _, _⟩) (by rfl) 42 (.tmp 4) (.tmp 128) (by rfl) (w.heap.size + 1) CA (by rfl) (by rfl) aggAns Ga hCl rfl hCo (Below.refl (w.heap.size + 1) y5) (Nat.le_refl _) ?_; intro w8 hb8 _ g8))
          refine bodyPost_ret (results_blk rfl _ _ (w.heap.size + 1) aggAns hb8 hCl rfl) rfl ?_
          rw [DoPost, Hans.out, ← HCA.out]
          exact ⟨rfl, G5.done g8⟩
        · rw [← hnd] at HV Hfit
          obtain ⟨hAs, gb, rfl⟩ := Hfit.out.resolve_left hL0
          obtain rfl : V = .slice (some ⟨gb, o.A, none⟩) nd (vc - o.A) := by rw [HV.out, if_neg hL0]; rfl
          obtain ⟨vx, hvx⟩ : ∃ x, x = vc - o.A := ⟨_, rfl⟩
          rw [← hvx]
          obtain ⟨cur, hcur, hcl, hnc, _⟩ := G5.m.o.blk one_u8
          obtain ⟨DD, hDD⟩ : ∃ x, x = o.D := ⟨_, rfl⟩
          rw [← hDD] at hI5 Hans hnd
          have Hnd := Lib.hid hnd
          clear hans HKK hk hvx HV Hfit Hst HN hdv hDD hnd
          go_upto_region 35 with (refine wpList_copyG (o := ⟨some 127, _, _, _, _, _⟩) (by rfl) (.tmp 124) (.tmp 126) 22 22 (by rfl) elU8 gb o.A nd vx (by rfl) (.slice da nd dc) DD (by rfl) hI5 cur hcur (by omega) ?_; intro w9 hs9 g9)
          have hnd := Hnd.out
          rw [List.take_of_length_le (by omega)] at hs9
          have G9 := G5.put hcur o.A DD (by omega) hs9 g9
          have z9 := z5.grown g9 (fun e => hcur.apartT z5 (by decide) (by simpa using e))
          clear G5 z5 hcur hs9
          obtain ⟨CA, hCA⟩ : ∃ CA, CA = manc ⟨0, 0, C⟩ := ⟨_, rfl⟩
          have hCl : CA.length = 6 := by rw [hCA]; rfl
          have hCo : ∀ u ∈ CA, u.oneCell' = true := by rw [hCA]; exact manc_one _
          have zf : Blk 42 w9 g11 CA := by rw [hCA, manc_zero]; exact z9
          have HCA := Lib.hid hCA
          have Ga := G9.a
          clear hCA
          go_wp2_with (first
            | ((with_reducible show wpList _ _ _ (⟨some 128, _, _, _, _, _⟩ :: _) _ _); refine wpList_loadA (o := ⟨some 128, _, _, _, _, _⟩) (by rfl) 42 (.tmp 11) (by rfl) g11 (by rfl) aggAns zf hCl ?_)
            | ((with_reducible show wpList _ _ _ (⟨none, Op.store _ _ (Operand.tmp 128), _, _, _, _⟩ :: _) _ _); refine wpList_storeA (o := ⟨none, _, _, _, _, _⟩) (by rfl) 42 (.tmp 4) (.tmp 128) (by rfl) (w.heap.size + 1) CA (by rfl) (by rfl) aggAns Ga hCl rfl hCo (Below.refl (w.heap.size + 1) w9) (Nat.le_refl _) ?_; intro w8 hb8 _ g8))
          refine bodyPost_ret (results_blk rfl _ _ (w.heap.size + 1) aggAns hb8 hCl rfl) rfl ?_
          rw [DoPost, Hans.out, ← HCA.out]
          exact ⟨rfl, G9.done g8⟩
  case first =>
    by_cases h1 : kk = 1
    · subst h1
      go_wp2_with fail
      go_meet
      case rel =>
        have hk := HKK.out
        refine ⟨32, gs, 1, by unfold spanN; rw [← hk]; rfl, rfl, ?_, hd4, ?_⟩
        · unfold spansL; rw [← hk]; rfl
        · have e : (spansL o 32).flatMap spc = [.int .u64 a0, .int .u64 a1, .int .u64 a2, .int .u64 a3, .int .u64 n0, .int .u64 n1, .int .u64 n2, .int .u64 n3] := by unfold spansL; rw [← hk]; show wcs o.A ++ wcs 32 ++ [] = _; rw [HA.out, HN.out]; rfl
          rw [e]; exact hs4
    by_cases h2 : kk = 2
    · subst h2
      go_wp2_with fail
      go_meet
      case rel =>
        have hk := HKK.out
        refine ⟨32, gs, 1, by unfold spanN; rw [← hk]; rfl, rfl, ?_, hd4, ?_⟩
        · unfold spansL; rw [← hk]; rfl
        · have e : (spansL o 32).flatMap spc = [.int .u64 a0, .int .u64 a1, .int .u64 a2, .int .u64 a3, .int .u64 n0, .int .u64 n1, .int .u64 n2, .int .u64 n3] := by unfold spansL; rw [← hk]; show wcs o.A ++ wcs 32 ++ [] = _; rw [HA.out, HN.out]; rfl
          rw [e]; exact hs4
    by_cases h3 : kk = 3
    · subst h3
      obtain ⟨m0, m1, m2, m3, hm1⟩ : ∃ a0 a1 a2 a3 : Int, wcs 1 = [.int .u64 a0, .int .u64 a1, .int .u64 a2, .int .u64 a3] := ⟨_, _, _, _, rfl⟩
      have cb : ∀ u : World, Calls Try.prog 103 #[.int .u64 1] u (fun e w' => e = .returned (.agg #[.int .u64 m0, .int .u64 m1, .int .u64 m2, .int .u64 m3]) ∧ Below u.heap.size u w') := fun u => by
        have := int_any 1 (by omega) u
        unfold wv at this
        rw [hm1] at this
        exact this
      have Cb := Lib.hid cb
      have HM1 := Lib.hid hm1
      clear cb hm1
      go_upto_region 7 with fail
      refine wp_region_h ((fun _ => True)) (by kernel_rfl) ?_; intro y5 hy5; simp only [List.length_cons, List.length_nil, Nat.reduceAdd, List.replicate_succ, List.replicate_zero]
      have hs5 : Blk 208 y5 gs [.int .u64 a0, .int .u64 a1, .int .u64 a2, .int .u64 a3, .int .u64 n0, .int .u64 n1, .int .u64 n2, .int .u64 n3] := by rw [hy5]; exact hs4.drew
      have hd5 : DoW w o y5 := by rw [hy5]; exact hd4.kept (Below.refl _ _).drew
      have hT5 : (fun _ : World => True) y5 := trivial
      clear hy5 hs4 hd4 k4
      (refine wpH_take 0 (by rfl) (by kernel_rfl) (by intro _ _ _ h; first | exact h | (cases h.1)) (by intro _ _ _ _ h; first | exact h | (cases h.1)) (by assumption) (fun K hK => ?_); simp only [List.setIfInBounds_toArray, List.set_cons_zero, List.set_cons_succ] at hK; go_simp; first | (refine hK _ ?_; clear hK K) | (apply Exists.intro; refine ⟨fun _ => rfl, hK _ ?_⟩; clear hK K)); (refine wpH_take 2 (by rfl) (by kernel_rfl) (by intro _ _ _ h; first | exact h | (cases h.1)) (by intro _ _ _ _ h; first | exact h | (cases h.1)) (by assumption) (fun K hK => ?_); simp only [List.setIfInBounds_toArray, List.set_cons_zero, List.set_cons_succ] at hK; go_simp; first | (refine hK _ ?_; clear hK K) | (apply Exists.intro; refine ⟨fun _ => rfl, hK _ ?_⟩; clear hK K))
      (refine wpH_only 1 (by rfl) (by kernel_rfl) (fun K hK => ?_); simp only [List.setIfInBounds_toArray, List.set_cons_zero, List.set_cons_succ] at hK; go_simp)
      refine (Cb.out _).mono ?_
      rintro e y6 ⟨rfl, b6⟩
      refine hK _ _ trivial ?_; clear hK K
      have hs6 := hs5.kept b6
      have hd6 := hd5.kept b6
      have hT6 : (fun _ : World => True) y6 := trivial
      have q4 : y6.cell? ⟨gs, 4, none⟩ = some (.int .u64 n0) := hs6.cell 4
      have q5 : y6.cell? ⟨gs, 5, none⟩ = some (.int .u64 n1) := hs6.cell 5
      have q6 : y6.cell? ⟨gs, 6, none⟩ = some (.int .u64 n2) := hs6.cell 6
      have q7 : y6.cell? ⟨gs, 7, none⟩ = some (.int .u64 n3) := hs6.cell 7
      have f4 := hs6.free 4
      have f5 := hs6.free 5
      have f6 := hs6.free 6
      have f7 := hs6.free 7
      (refine wpH_take 3 (by rfl) (by kernel_rfl) (by intro _ _ _ h; first | exact h | (cases h.1)) (by intro _ _ _ _ h; first | exact h | (cases h.1)) (by assumption) (fun K hK => ?_); simp only [List.setIfInBounds_toArray, List.set_cons_zero, List.set_cons_succ] at hK; go_simp; first | (refine hK _ ?_; clear hK K) | (apply Exists.intro; refine ⟨fun _ => rfl, hK _ ?_⟩; clear hK K))
      (refine wpH_only 4 (by rfl) (by kernel_rfl) (fun K hK => ?_); simp only [List.setIfInBounds_toArray, List.set_cons_zero, List.set_cons_succ] at hK; go_simp)
      refine hK _ _ trivial ?_; clear hK K
      have hs7 := (((hs6.set 4 (.int .u64 m0)).set 5 (.int .u64 m1)).set 6 (.int .u64 m2)).set 7 (.int .u64 m3)
      have hd7 : DoW w o ((((y6.setCell ⟨gs, 4, none⟩ (.int .u64 m0)).setCell ⟨gs, 5, none⟩ (.int .u64 m1)).setCell ⟨gs, 6, none⟩ (.int .u64 m2)).setCell ⟨gs, 7, none⟩ (.int .u64 m3)) :=
        hd6.sets4 hs6 hgs4 _ _ _ _
      refine wpH_done (by kernel_rfl) ?_
      go_wp2_with fail
      go_meet
      case rel =>
        have hk := HKK.out
        refine ⟨1, gs, 1, by unfold spanN; rw [← hk]; rfl, rfl, ?_, hd7, ?_⟩
        · unfold spansL; rw [← hk]; rfl
        · have e : (spansL o 1).flatMap spc = [.int .u64 a0, .int .u64 a1, .int .u64 a2, .int .u64 a3, .int .u64 m0, .int .u64 m1, .int .u64 m2, .int .u64 m3] := by unfold spansL; rw [← hk]; show wcs o.A ++ wcs 1 ++ [] = _; rw [HA.out, HM1.out]; rfl
          rw [e]; exact hs7
    by_cases h4 : kk = 4
    · subst h4
      obtain ⟨p0, p1, p2, p3, hF⟩ : ∃ a0 a1 a2 a3 : Int, wcs o.F = [.int .u64 a0, .int .u64 a1, .int .u64 a2, .int .u64 a3] := ⟨_, _, _, _, rfl⟩
      obtain ⟨l0, l1, l2, l3, hL⟩ : ∃ a0 a1 a2 a3 : Int, wcs o.L = [.int .u64 a0, .int .u64 a1, .int .u64 a2, .int .u64 a3] := ⟨_, _, _, _, rfl⟩
      have hc := hd4.b
      unfold mopc at hc
      rw [HA.out, hF, hL] at hc
      have c1 : w4.cell? ⟨w.heap.size, 1, none⟩ = some (.int .u64 a0) := hc.cell 1
      have c2 : w4.cell? ⟨w.heap.size, 2, none⟩ = some (.int .u64 a1) := hc.cell 2
      have c3 : w4.cell? ⟨w.heap.size, 3, none⟩ = some (.int .u64 a2) := hc.cell 3
      have c4 : w4.cell? ⟨w.heap.size, 4, none⟩ = some (.int .u64 a3) := hc.cell 4
      have c5 : w4.cell? ⟨w.heap.size, 5, none⟩ = some (.int .u64 p0) := hc.cell 5
      have c6 : w4.cell? ⟨w.heap.size, 6, none⟩ = some (.int .u64 p1) := hc.cell 6
      have c7 : w4.cell? ⟨w.heap.size, 7, none⟩ = some (.int .u64 p2) := hc.cell 7
      have c8 : w4.cell? ⟨w.heap.size, 8, none⟩ = some (.int .u64 p3) := hc.cell 8
      have c9 : w4.cell? ⟨w.heap.size, 9, none⟩ = some (.int .u64 l0) := hc.cell 9
      have c10 : w4.cell? ⟨w.heap.size, 10, none⟩ = some (.int .u64 l1) := hc.cell 10
      have c11 : w4.cell? ⟨w.heap.size, 11, none⟩ = some (.int .u64 l2) := hc.cell 11
      have c12 : w4.cell? ⟨w.heap.size, 12, none⟩ = some (.int .u64 l3) := hc.cell 12
      have HF := Lib.hid hF
      have HL := Lib.hid hL
      clear hc hF hL
      go_wp2_with fail
      go_meet
      case rel =>
        have hk := HKK.out
        refine ⟨o.L, w4.heap.size, 2, by unfold spanN; rw [← hk]; rfl, rfl, ?_, hd4.kept ((Below.refl _ _).alloc (Nat.le_refl _) _), ?_⟩
        · unfold spansL; rw [← hk]; rfl
        · have e : (spansL o o.L).flatMap spc = [.int .u64 a0, .int .u64 a1, .int .u64 a2, .int .u64 a3, .int .u64 l0, .int .u64 l1, .int .u64 l2, .int .u64 l3, .int .u64 p0, .int .u64 p1, .int .u64 p2, .int .u64 p3, .int .u64 l0, .int .u64 l1, .int .u64 l2, .int .u64 l3] := by unfold spansL; rw [← hk]; show wcs o.A ++ wcs o.L ++ (wcs o.F ++ wcs o.L ++ []) = _; rw [HA.out, HF.out, HL.out]; rfl
          rw [e]; exact Blk.new w4 208 _
    by_cases h5 : kk = 5
    · subst h5
      obtain ⟨nd, hnd⟩ : ∃ n, n = o.D.length := ⟨_, rfl⟩
      obtain ⟨m0, m1, m2, m3, hm1⟩ : ∃ a0 a1 a2 a3 : Int, wcs nd = [.int .u64 a0, .int .u64 a1, .int .u64 a2, .int .u64 a3] := ⟨_, _, _, _, rfl⟩
      have hndl : nd < 18446744073709551616 := by rw [hnd]; exact k.D
      have cb : ∀ u : World, Calls Try.prog 103 #[.int .u64 (nd : Int)] u (fun e w' => e = .returned (.agg #[.int .u64 m0, .int .u64 m1, .int .u64 m2, .int .u64 m3]) ∧ Below u.heap.size u w') := fun u => by
        have := int_any nd hndl u
        unfold wv at this
        rw [hm1] at this
        exact this
      obtain ⟨da, dc, hdv, _⟩ := RowOf.form' (f := b8) (size := 1) hi nd hnd.symm
      have Cb := Lib.hid cb
      have HM1 := Lib.hid hm1
      have Hnd := Lib.hid hnd
      have hwr : IntKind.u64.wrap (nd : Int) = (nd : Int) := IntWalk.u64_in _ ⟨by omega, by omega⟩
      clear cb hm1
      go_upto_region 11 with fail
      refine wp_region_h ((fun u => u.cell? ⟨w.heap.size, 17, none⟩ = some (.slice da nd dc))) (by kernel_rfl) ?_; intro y5 hy5; simp only [List.length_cons, List.length_nil, Nat.reduceAdd, List.replicate_succ, List.replicate_zero]
      have hs5 : Blk 208 y5 gs [.int .u64 a0, .int .u64 a1, .int .u64 a2, .int .u64 a3, .int .u64 n0, .int .u64 n1, .int .u64 n2, .int .u64 n3] := by rw [hy5]; exact hs4.drew
      have hd5 : DoW w o y5 := by rw [hy5]; exact hd4.kept (Below.refl _ _).drew
      have g17 : ∀ u, DoW w o u → u.cell? ⟨w.heap.size, 17, none⟩ = some (.slice da nd dc) := fun u h => by have := h.b.cell 17; rw [show (mopc o)[17]? = some o.dv from rfl, hdv] at this; exact this
      have G17 := Lib.hid g17
      have hT5 := g17 _ hd5
      have e17 : ∀ u : In (fun u => u.cell? ⟨w.heap.size, 17, none⟩ = some (.slice da nd dc)), u.val.cell? ⟨w.heap.size, 17, none⟩ = some (.slice da nd dc) := fun u => u.held
      clear hy5 hs4 hd4 k4 hdv hnd g17
      (refine wpH_take 0 (by rfl) (by kernel_rfl) (by intro _ _ _ h; first | exact h | (cases h.1)) (by intro _ _ _ _ h; first | exact h | (cases h.1)) (by assumption) (fun K hK => ?_); simp only [List.setIfInBounds_toArray, List.set_cons_zero, List.set_cons_succ] at hK; go_simp; first | (refine hK _ ?_; clear hK K) | (apply Exists.intro; refine ⟨fun _ => rfl, hK _ ?_⟩; clear hK K)); (refine wpH_take 1 (by rfl) (by kernel_rfl) (by intro _ _ _ h; first | exact h | (cases h.1)) (by intro _ _ _ _ h; first | exact h | (cases h.1)) (by assumption) (fun K hK => ?_); simp only [List.setIfInBounds_toArray, List.set_cons_zero, List.set_cons_succ] at hK; go_simp; first | (refine hK _ ?_; clear hK K) | (apply Exists.intro; refine ⟨fun _ => rfl, hK _ ?_⟩; clear hK K)); (refine wpH_take 2 (by rfl) (by kernel_rfl) (by intro _ _ _ h; first | exact h | (cases h.1)) (by intro _ _ _ _ h; first | exact h | (cases h.1)) (by assumption) (fun K hK => ?_); simp only [List.setIfInBounds_toArray, List.set_cons_zero, List.set_cons_succ] at hK; go_simp; first | (refine hK _ ?_; clear hK K) | (apply Exists.intro; refine ⟨fun _ => rfl, hK _ ?_⟩; clear hK K)); (refine wpH_take 3 (by rfl) (by kernel_rfl) (by intro _ _ _ h; first | exact h | (cases h.1)) (by intro _ _ _ _ h; first | exact h | (cases h.1)) (by assumption) (fun K hK => ?_); simp only [List.setIfInBounds_toArray, List.set_cons_zero, List.set_cons_succ] at hK; go_simp; first | (refine hK _ ?_; clear hK K) | (apply Exists.intro; refine ⟨fun _ => rfl, hK _ ?_⟩; clear hK K)); (refine wpH_take 4 (by rfl) (by kernel_rfl) (by intro _ _ _ h; first | exact h | (cases h.1)) (by intro _ _ _ _ h; first | exact h | (cases h.1)) (by assumption) (fun K hK => ?_); simp only [List.setIfInBounds_toArray, List.set_cons_zero, List.set_cons_succ] at hK; go_simp; first | (refine hK _ ?_; clear hK K) | (apply Exists.intro; refine ⟨fun _ => rfl, hK _ ?_⟩; clear hK K)); (refine wpH_take 6 (by rfl) (by kernel_rfl) (by intro _ _ _ h; first | exact h | (cases h.1)) (by intro _ _ _ _ h; first | exact h | (cases h.1)) (by assumption) (fun K hK => ?_); simp only [List.setIfInBounds_toArray, List.set_cons_zero, List.set_cons_succ] at hK; go_simp; first | (refine hK _ ?_; clear hK K) | (apply Exists.intro; refine ⟨fun _ => rfl, hK _ ?_⟩; clear hK K))
      (refine wpH_only 5 (by rfl) (by kernel_rfl) (fun K hK => ?_); simp only [List.setIfInBounds_toArray, List.set_cons_zero, List.set_cons_succ] at hK; go_simp)
      refine (Cb.out _).mono ?_
      rintro e y6 ⟨rfl, b6⟩
      have hd6 := hd5.kept b6
      have hT6 := G17.out _ hd6
      refine hK _ _ hT6 ?_; clear hK K
      have hs6 := hs5.kept b6
      have q4 : y6.cell? ⟨gs, 4, none⟩ = some (.int .u64 n0) := hs6.cell 4
      have q5 : y6.cell? ⟨gs, 5, none⟩ = some (.int .u64 n1) := hs6.cell 5
      have q6 : y6.cell? ⟨gs, 6, none⟩ = some (.int .u64 n2) := hs6.cell 6
      have q7 : y6.cell? ⟨gs, 7, none⟩ = some (.int .u64 n3) := hs6.cell 7
      have f4 := hs6.free 4
      have f5 := hs6.free 5
      have f6 := hs6.free 6
      have f7 := hs6.free 7
      have hd7 := hd6.sets4 hs6 hgs4 (.int .u64 m0) (.int .u64 m1) (.int .u64 m2) (.int .u64 m3)
      have hs7 := (((hs6.set 4 (.int .u64 m0)).set 5 (.int .u64 m1)).set 6 (.int .u64 m2)).set 7 (.int .u64 m3)
      have hT7 := G17.out _ hd7
      (refine wpH_take 7 (by rfl) (by kernel_rfl) (by intro _ _ _ h; first | exact h | (cases h.1)) (by intro _ _ _ _ h; first | exact h | (cases h.1)) (by assumption) (fun K hK => ?_); simp only [List.setIfInBounds_toArray, List.set_cons_zero, List.set_cons_succ] at hK; go_simp; first | (refine hK _ ?_; clear hK K) | (apply Exists.intro; refine ⟨fun _ => rfl, hK _ ?_⟩; clear hK K))
      (refine wpH_only 8 (by rfl) (by kernel_rfl) (fun K hK => ?_); simp only [List.setIfInBounds_toArray, List.set_cons_zero, List.set_cons_succ] at hK; go_simp)
      refine hK _ _ hT7 ?_; clear hK K
      refine wpH_done (by kernel_rfl) ?_
      go_wp2_with fail
      go_meet
      case rel =>
        have hk := HKK.out
        refine ⟨nd, gs, 1, by unfold spanN; rw [← hk, Hnd.out]; rfl, rfl, ?_, hd7, ?_⟩
        · unfold spansL; rw [← hk]; rfl
        · have e : (spansL o nd).flatMap spc = [.int .u64 a0, .int .u64 a1, .int .u64 a2, .int .u64 a3, .int .u64 m0, .int .u64 m1, .int .u64 m2, .int .u64 m3] := by unfold spansL; rw [← hk]; show wcs o.A ++ wcs nd ++ [] = _; rw [HA.out, HM1.out]; rfl
          rw [e]; exact hs7
    have hbad : spanN o = none := by
      have hk := HKK.out
      unfold spanN
      rw [← hk, if_neg (by omega), if_neg h3, if_neg h4, if_neg h5]
    have hst := stepM_bad (M := M) hbad
    have Hst := Lib.hid hst
    clear hst hbad
    go_wp2_with ((with_reducible show wpList _ _ _ (⟨none, Op.store _ _ (Operand.tmp 21), _, _, _, _⟩ :: _) _ _); refine wpList_storeA (o := ⟨none, _, _, _, _, _⟩) (by rfl) 42 (.tmp 4) (.tmp 21) (by rfl) (w.heap.size + 1) (manc ⟨30, 0, 0⟩) (by rfl) (by rfl) aggAns hd4.a rfl rfl (manc_one _) hd4.bel (Nat.le_succ _) ?_; intro w5 hb5 bel5 _)
    refine bodyPost_ret (results_blk rfl _ _ (w.heap.size + 1) aggAns hb5 rfl rfl) rfl ?_
    rw [DoPost, Hst.out]
    exact ⟨rfl, _, hm.kept bel5, (But2.refl _ _ _).kept bel5, fun k hk => .inl hk⟩
end Go.Proofs.Ytakhaanenlblmaa
