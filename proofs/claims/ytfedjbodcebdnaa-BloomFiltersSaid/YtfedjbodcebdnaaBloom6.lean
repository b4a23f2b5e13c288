/- The reference's JJoin. -/
import Derived.Test.YtfedjbodcebdnaaBloom5
set_option linter.unusedSimpArgs false
set_option linter.unusedVariables false
namespace Go.Proofs.Ytfedjbodcebdnaa
open Go.RowKit
set_option maxHeartbeats 2000000 in
set_option maxRecDepth 100000 in
theorem jjoin_any (F G : List UInt8) (hF : F.length = 32) (hG : G.length = 32) (w : World) :
    Calls Try.prog 34 #[.agg (fcs F).toArray, .agg (fcs G).toArray] w fun e w' => e = .returned (.agg (fcs (mkF (orB F G) 256)).toArray) ∧ Below w.heap.size w w' := by
  have hf1 := (((Blk.new w 28 (fcs F)).alloc (.cells (fcs G).toArray 28)).alloc (.cells zh.toArray 28)).alloc (.cells zh.toArray 28)
  have hg1 : Blk 28 ((((w.alloc (.cells (fcs F).toArray 28)).alloc (.cells (fcs G).toArray 28)).alloc (.cells zh.toArray 28)).alloc (.cells zh.toArray 28)) (w.heap.size + 1) (fcs G) := by
    have := ((Blk.new (w.alloc (.cells (fcs F).toArray 28)) 28 (fcs G)).alloc (.cells zh.toArray 28)).alloc (.cells zh.toArray 28)
    simpa using this
  have hz1 : Blk 28 ((((w.alloc (.cells (fcs F).toArray 28)).alloc (.cells (fcs G).toArray 28)).alloc (.cells zh.toArray 28)).alloc (.cells zh.toArray 28)) (w.heap.size + 1 + 1) zh := by
    have := (Blk.new ((w.alloc (.cells (fcs F).toArray 28)).alloc (.cells (fcs G).toArray 28)) 28 zh).alloc (.cells zh.toArray 28)
    simpa using this
  have ho1 : Blk 28 ((((w.alloc (.cells (fcs F).toArray 28)).alloc (.cells (fcs G).toArray 28)).alloc (.cells zh.toArray 28)).alloc (.cells zh.toArray 28)) (w.heap.size + 1 + 1 + 1) (fcs (List.replicate 32 0)) := by
    have := Blk.new (((w.alloc (.cells (fcs F).toArray 28)).alloc (.cells (fcs G).toArray 28)).alloc (.cells zh.toArray 28)) 28 zh
    rw [show fcs (List.replicate 32 0) = zh from rfl]
    simpa using this
  have hbel1 : Below w.heap.size w ((((w.alloc (.cells (fcs F).toArray 28)).alloc (.cells (fcs G).toArray 28)).alloc (.cells zh.toArray 28)).alloc (.cells zh.toArray 28)) := ((((Below.refl _ _).alloc (Nat.le_refl _) _).alloc (by simp) _).alloc (by simp; omega) _).alloc (by simp; omega) _
  have cf : ∀ n : Nat, n < 256 → ∀ x, Calls Try.prog 70 #[.agg (fcs F).toArray, .int .i64 (n : Int)] x fun e w' => e = .returned (.bool (fb F n)) ∧ Below x.heap.size x w' := fun n hn x => jhas_any F hF n hn x
  have cg : ∀ n : Nat, n < 256 → ∀ x, Calls Try.prog 70 #[.agg (fcs G).toArray, .int .i64 (n : Int)] x fun e w' => e = .returned (.bool (fb G n)) ∧ Below x.heap.size x w' := fun n hn x => jhas_any G hG n hn x
  have hgl := fcs_len hG
  have hfl := fcs_len hF
  obtain ⟨D, hD⟩ : ∃ D, D = fcs G := ⟨_, rfl⟩
  obtain ⟨E, hE⟩ : ∃ E, E = fcs F := ⟨_, rfl⟩
  simp only [← hD, ← hE] at hf1 hg1 hbel1 hz1 ho1 cf cg hgl hfl
  rw [← hD, ← hE]
  have Cf := Lib.hid cf
  have Cg := Lib.hid cg
  have Hgl := Lib.hid hgl
  have Hfl := Lib.hid hfl
  clear cf cg hgl hfl hD hE
  go_enter Try.func34, Try.ntmps34
  go_wp2
  go_loopw [7] (fun ix wr => ∃ N : Nat, N ≤ 256 ∧ ix = .int .i64 (N : Int) ∧ ∃ H : List UInt8, H.length = 32 ∧ Hid (∀ m, m < 256 → fb H m = (decide (m < N) && orB F G m)) ∧ Blk 28 wr (w.heap.size + 1 + 1 + 1) (fcs H) ∧ Blk 28 wr w.heap.size E ∧ Blk 28 wr (w.heap.size + 1) D ∧ Blk 28 wr (w.heap.size + 1 + 1) zh ∧ Below w.heap.size w wr) (fun ix _ => 256 - (intOf ix).toNat)
  case atStart => exact ⟨0, by omega, rfl, List.replicate 32 0, by simp, Lib.hid (fun m _ => by rw [fb_zero]; simp), ho1, hf1, hg1, hz1, hbel1⟩
  case round =>
    clear hf1 hg1 hz1 ho1 hbel1
    obtain ⟨N, hN, rfl, H, hH, hfb, hB, hf, hg, hz, hbel⟩ := hrel
    by_cases hlt : N < 256
    · have hNi : (N : Int) < 256 := by omega
      obtain ⟨bf, hbf⟩ : ∃ b, b = fb F N := ⟨_, rfl⟩
      obtain ⟨bg, hbg⟩ : ∃ b, b = fb G N := ⟨_, rfl⟩
      have cf := fun x => Cf.out N hlt x
      have cg := fun x => Cg.out N hlt x
      simp only [← hbf] at cf
      simp only [← hbg] at cg
      have hoN : orB F G N = (bf || bg) := by rw [hbf, hbg]; rfl
      have cfN := Lib.hid cf
      have cgN := Lib.hid cg
      clear cf cg
      by_cases hup : (bf || bg) = true
      · have h0 : fb H N = false := by rw [hfb.out N hlt]; simp
        obtain ⟨q, r, y, x, z, hbs⟩ := bitAdd H hH N hlt h0
        have hH2 : (orF H N).length = 32 := by rw [orF_len, hH]
        have hfb2 : Hid (∀ m, m < 256 → fb (orF H N) m = (decide (m < N + 1) && orB F G m)) := Lib.hid (fun m hm => by
          rw [fb_or H N m hH hlt, hfb.out m hm]
          by_cases hmN : m = N
          · subst hmN; rw [hoN, hup]; simp
          · have e : (m < N + 1) ↔ (m < N) := by omega
            simp [hmN, e])
        have hDx := fcs_at hbs.hx
        have hDs := hbs.hset
        have hDl := fcs_len hH
        obtain ⟨e1, e2, e1t, e2t, hs, hs1, hor, hq, hr⟩ : (N : Int) / 8 = (q : Int) ∧ (N : Int) % 8 = (r : Int) ∧ (N : Int).tdiv 8 = (q : Int) ∧ (N : Int).tmod 8 = (r : Int) ∧ IntKind.u8.wrap ((2 : Int) ^ r) = (y : Int) ∧ IntKind.u8.wrap (1 * (2 : Int) ^ r) = (y : Int) ∧ IntKind.u8.wrap ((x.toNat : Int) + (y : Int)) = (z.toNat : Int) ∧ q < 32 ∧ r < 8 := ⟨hbs.e1, hbs.e2, hbs.e1t, hbs.e2t, hbs.hs, hbs.hs1, hbs.hadd, hbs.hq, hbs.hr⟩
        have hqi : (q : Int) < 32 := by omega
        have hri : (r : Int) ≤ 7 := by omega
        obtain ⟨C, hC⟩ : ∃ C, C = fcs H := ⟨_, rfl⟩
        rw [← hC] at hB hDx hDs hDl
        have HDx := Lib.hid hDx
        have HDs := Lib.hid hDs
        have HDl := Lib.hid hDl
        have h3 : bf = true ∨ (bf = false ∧ bg = true) := by revert hup; cases bf <;> cases bg <;> simp
        clear hfb hH hbs hDx hDs hDl hC hup hoN hbf hbg h0
        rcases h3 with rfl | ⟨rfl, rfl⟩
        all_goals
          have tok1 : True := trivial
          go_wp2_with (first
            | (refine wpList_loadA (o := ⟨some 10, _, _, _, _, _⟩) (by rfl) 28 (.tmp 2) (by rfl) w.heap.size (by rfl) aggHash' hf Hfl.out ?_)
            | (go_at_call 70; have _t := tok1; (with_reducible refine (cfN.out _).mono ?_); rintro e w2 ⟨rfl, b2⟩; have hB2 := hB.kept b2; have hf2 := hf.kept b2; have hg2 := hg.kept b2; have hz2 := hz.kept b2; have hbel2 := Below.then hbel b2; clear tok1 _t hB hf hg hz hbel b2)
            | (refine wpList_loadW (o := ⟨some 14, _, _, _, _, _⟩) 28 (.tmp 3) (by rfl) (w.heap.size + 1) 0 (by rfl) aggHash' Hgl.out (Blk.all0 hg2) (by rfl) ?_)
            | (go_at_call 70; (with_reducible refine (cgN.out _).mono ?_); rintro e w3 ⟨rfl, b3⟩; replace hB2 := hB2.kept b3; replace hf2 := hf2.kept b3; replace hg2 := hg2.kept b3; replace hz2 := hz2.kept b3; replace hbel2 := Below.then hbel2 b3))
          have k1 := fun u => Ext.cell u ((hB2.cell q).trans HDx.out)
          have wq : IntKind.i64.wrap (q : Int) = (q : Int) := IntWalk.i64_in _ (by omega)
          have wr' : IntKind.i64.wrap (r : Int) = (r : Int) := IntWalk.i64_in _ (by omega)
          refine wp_region_typed _ 9 (by kernel_rfl) (by kernel_rfl) (Below.refl _ _) ?_; simp only [List.take_succ_cons, List.take_zero, List.take_nil]
          iterate 9 (refine wpX_step (by rfl) (fun K hK => ?_); go_simp; first | (refine hK _ ?_; clear hK K) | (apply Exists.intro; refine ⟨fun _ => ?_, hK _ ?_⟩; fail; clear hK K))
          refine wpX_nil ?_
          intro u2 hb2'
          change wpList _ _ _ [_] _ _
          clear k1 wq wr'
          have hB6 := hB2.kept hb2'
          have hf6 := hf2.kept hb2'
          have hg6 := hg2.kept hb2'
          have hz6 := hz2.kept hb2'
          have hbel6 := Below.then hbel2 hb2'
          obtain ⟨y1, hy1⟩ := hB6.has q (by rw [HDl.out]; exact hq)
          have hfr := hB6.free q
          have hB7 := hB6.set q (.int .u8 (z.toNat : Int))
          rw [HDs.out] at hB7
          have hf7 : Blk 28 (u2.setCell ⟨w.heap.size + 1 + 1 + 1, q, none⟩ (.int .u8 (z.toNat : Int))) w.heap.size E := hf6.other _ (by simp; omega) _
          have hg7 : Blk 28 (u2.setCell ⟨w.heap.size + 1 + 1 + 1, q, none⟩ (.int .u8 (z.toNat : Int))) (w.heap.size + 1) D := hg6.other _ (by simp; omega) _
          have hz7 : Blk 28 (u2.setCell ⟨w.heap.size + 1 + 1 + 1, q, none⟩ (.int .u8 (z.toNat : Int))) (w.heap.size + 1 + 1) zh := hz6.other _ (by simp) _
          have hbel7 := hbel6.setCell (p := ⟨w.heap.size + 1 + 1 + 1, q, none⟩) (by simp; omega) (.int .u8 (z.toNat : Int))
          go_wp2
          go_roundw
          case rel => exact ⟨N + 1, by omega, by go_num, orF H N, hH2, hfb2, hB7, hf7, hg7, hz7, hbel7⟩
          case measure => simp [intOf]; omega
      · obtain ⟨rfl, rfl⟩ : bf = false ∧ bg = false := by revert hup; cases bf <;> cases bg <;> simp
        have hfb2 : Hid (∀ m, m < 256 → fb H m = (decide (m < N + 1) && orB F G m)) := Lib.hid (fun m hm => by
          rw [hfb.out m hm]
          by_cases hmN : m = N
          · subst hmN; rw [hoN]; simp
          · have e : (m < N + 1) ↔ (m < N) := by omega
            simp [e])
        clear hfb hup hoN hbf hbg
        have tok1 : True := trivial
        go_wp2_with (first
            | (refine wpList_loadA (o := ⟨some 10, _, _, _, _, _⟩) (by rfl) 28 (.tmp 2) (by rfl) w.heap.size (by rfl) aggHash' hf Hfl.out ?_)
            | (go_at_call 70; have _t := tok1; (with_reducible refine (cfN.out _).mono ?_); rintro e w2 ⟨rfl, b2⟩; have hB2 := hB.kept b2; have hf2 := hf.kept b2; have hg2 := hg.kept b2; have hz2 := hz.kept b2; have hbel2 := Below.then hbel b2; clear tok1 _t hB hf hg hz hbel b2)
            | (refine wpList_loadW (o := ⟨some 14, _, _, _, _, _⟩) 28 (.tmp 3) (by rfl) (w.heap.size + 1) 0 (by rfl) aggHash' Hgl.out (Blk.all0 hg2) (by rfl) ?_)
            | (go_at_call 70; (with_reducible refine (cgN.out _).mono ?_); rintro e w3 ⟨rfl, b3⟩; replace hB2 := hB2.kept b3; replace hf2 := hf2.kept b3; replace hg2 := hg2.kept b3; replace hz2 := hz2.kept b3; replace hbel2 := Below.then hbel2 b3))
        go_roundw
        case rel => exact ⟨N + 1, by omega, by go_num, H, hH, hfb2, hB2, hf2, hg2, hz2, hbel2⟩
        case measure => simp [intOf]; omega
    · obtain rfl : N = 256 := by omega
      have hE : H = mkF (orB F G) 256 := mkF_is hH (fun m hm => by rw [hfb.out m hm]; simp [hm])
      have hcl : (fcs (mkF (orB F G) 256)).length = 32 := fcs_len (mkF_len _ _)
      have hco := fcs_one (mkF (orB F G) 256)
      rw [hE] at hB
      obtain ⟨C, hC⟩ : ∃ C, C = fcs (mkF (orB F G) 256) := ⟨_, rfl⟩
      rw [← hC] at hB hcl hco
      have HC := Lib.hid hC
      have Hcl := Lib.hid hcl
      have Hco := Lib.hid hco
      clear hcl hco hE hfb hH hC
      go_wp2_with (first
        | (refine wpList_loadA (o := ⟨some 28, _, _, _, _, _⟩) (by rfl) 28 (.tmp 5) (by rfl) (w.heap.size + 1 + 1 + 1) (by rfl) aggHash' hB Hcl.out ?_)
        | (refine wpList_storeA (o := ⟨none, _, _, _, _, _⟩) (by rfl) 28 (.tmp 4) (.tmp 28) (by rfl) (w.heap.size + 1 + 1) C (by rfl) (by rfl) aggHash' hz Hcl.out (by rfl) Hco.out (Below.refl _ _) (Nat.le_refl _) ?_; intro w4 hh4 _ hg4; have hbel4 := hbel.grown hg4 hbel.size (fun j hj => by cases hj; omega)))
      exact bodyPost_ret (results_blk rfl _ _ (w.heap.size + 1 + 1) aggHash' hh4 Hcl.out rfl) rfl ⟨by rw [HC.out], hbel4⟩
end Go.Proofs.Ytfedjbodcebdnaa
