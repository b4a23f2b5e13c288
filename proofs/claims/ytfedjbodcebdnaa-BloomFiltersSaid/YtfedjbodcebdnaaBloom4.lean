/- The reference's JOf. -/
import Derived.Test.YtfedjbodcebdnaaBloom3
import Derived.Test.YtfedjbodcebdnaaAppT
import Derived.Deep.Cut
set_option linter.unusedSimpArgs false
set_option linter.unusedVariables false
namespace Go.Proofs.Ytfedjbodcebdnaa
open Go.RowKit
theorem trip3 (l : List UInt8) : ∃ t0 t1 t2, trip l = [t0, t1, t2] := by
  have h := trip_len l
  match trip l, h with
  | [a, b, c], _ => exact ⟨a, b, c, rfl⟩
theorem scs_trip {l : List UInt8} {t0 t1 t2 : UInt8} (h : trip l = [t0, t1, t2]) : (scs l)[0]? = some (.int .u8 (t0.toNat : Int)) ∧ (scs l)[1]? = some (.int .u8 (t1.toNat : Int)) ∧ (scs l)[2]? = some (.int .u8 (t2.toNat : Int)) := by
  have e : (scs l).take 3 = (trip l).map u8v := by unfold trip scs; rw [List.map_take]
  rw [h] at e
  refine ⟨?_, ?_, ?_⟩
  · rw [← List.getElem?_take_of_lt (show 0 < 3 by omega), e]; rfl
  · rw [← List.getElem?_take_of_lt (show 1 < 3 by omega), e]; rfl
  · rw [← List.getElem?_take_of_lt (show 2 < 3 by omega), e]; rfl
theorem hasT_of {l : List UInt8} {t0 t1 t2 : UInt8} (h : trip l = [t0, t1, t2]) (m : Nat) : hasT l m = (((t0.toNat : Int) == (m : Int)) || ((t1.toNat : Int) == (m : Int)) || ((t2.toNat : Int) == (m : Int))) := by
  unfold hasT
  rw [h]
  simp only [List.any_cons, List.any_nil, Bool.or_false]
  have e : ∀ a : Nat, (a == m) = ((a : Int) == (m : Int)) := fun a => by
    rw [Bool.eq_iff_iff]; simp only [beq_iff_eq]; omega
  rw [e, e, e, Bool.or_assoc]
/-- one bit more by a sum -/
structure BitAdd (F : List UInt8) (n q r y : Nat) (x z : UInt8) : Prop extends BitStep F n q r y x z where
  hadd : IntKind.u8.wrap ((x.toNat : Int) + (y : Int)) = (z.toNat : Int)
theorem bitAdd (F : List UInt8) (hl : F.length = 32) (n : Nat) (hn : n < 256) (h0 : fb F n = false) : ∃ q r y x z, BitAdd F n q r y x z := by
  obtain ⟨q, r, y, x, z, hb⟩ := bitStep F hl n hn
  refine ⟨q, r, y, x, z, hb, ?_⟩
  have h1 := hb.hx
  unfold fb at h0
  rw [← hb.hnq, h1, ← hb.hnr, Option.getD_some] at h0
  have h2 := add_or x r hb.hr h0
  have h3 := or_lt x r hb.hr
  rw [hb.hy, hb.hz, ← h2]
  rw [← h2] at h3
  rw [show (x.toNat : Int) + ((2 ^ r : Nat) : Int) = ((x.toNat + 2 ^ r : Nat) : Int) from by simp]
  generalize x.toNat + 2 ^ r = s at *
  exact IntWalk.u8_in _ (by omega)
set_option maxHeartbeats 4000000 in
set_option maxRecDepth 100000 in
theorem jof_any (a : Option Addr) (n c : Nat) (ps : List (Value × List UInt8)) (hn : ps.length = n) (w : World) (h : Texts w (.slice a n c) ps) (hsz : ∀ p ∈ ps, p.2.length + 64 ≤ 140737488355328) :
    Calls Try.prog 32 #[.slice a n c] w fun e w' => e = .returned (.agg (fcs (mkF (hasB ps) 256)).toArray) ∧ Below w.heap.size w w' := by
  have hz1 : Blk 28 ((w.alloc (.cells zh.toArray 28)).alloc (.cells zh.toArray 28)) w.heap.size zh := (Blk.new w 28 zh).alloc _
  have hf1 : Blk 28 ((w.alloc (.cells zh.toArray 28)).alloc (.cells zh.toArray 28)) (w.heap.size + 1) (fcs (List.replicate 32 0)) := by
    have := Blk.new (w.alloc (.cells zh.toArray 28)) 28 zh
    rw [show fcs (List.replicate 32 0) = zh from rfl]
    simpa using this
  have hbel1 : Below w.heap.size w ((w.alloc (.cells zh.toArray 28)).alloc (.cells zh.toArray 28)) := ((Below.refl _ _).alloc (Nat.le_refl _) _).alloc (by simp) _
  have hsm := h.1.small
  unfold maxLen at hsm
  rw [hn] at hsm
  have Hn := Lib.hid hn
  have Hsz := Lib.hid hsz
  clear hn hsz
  go_enter Try.func32, Try.ntmps32
  go_wp2
  go_loopw [8] (fun ix wr => ∃ N : Nat, N ≤ 256 ∧ ix = .int .i64 (N : Int) ∧ ∃ F : List UInt8, F.length = 32 ∧ Hid (∀ m, m < 256 → fb F m = (decide (m < N) && hasB ps m)) ∧ Blk 28 wr (w.heap.size + 1) (fcs F) ∧ Blk 28 wr w.heap.size zh ∧ Below w.heap.size w wr) (fun ix _ => 256 - (intOf ix).toNat)
  case atStart => exact ⟨0, by omega, rfl, List.replicate 32 0, by simp, Lib.hid (fun m _ => by rw [fb_zero]; simp), hf1, hz1, hbel1⟩
  case round =>
    clear hz1 hf1 hbel1
    obtain ⟨N, hN, rfl, F, hF, hfb, hB, hz, hbel⟩ := hrel
    by_cases hlt : N < 256
    · have hNi : (N : Int) < 256 := by omega
      go_wp2
      obtain ⟨wo, rfl⟩ : ∃ wo : World, wo = wr := ⟨_, rfl⟩
      go_loopw [13] (fun ix wi => ∃ k : Nat, k ≤ n ∧ ix = .int .i64 (k : Int) ∧ ∃ G : List UInt8, G.length = 32 ∧ Hid (∀ m, m < 256 → fb G m = ((decide (m < N) && hasB ps m) || (decide (m = N) && hasB (ps.take k) m))) ∧ Blk 28 wi (w.heap.size + 1) (fcs G) ∧ Blk 28 wi w.heap.size zh ∧ Below w.heap.size w wi) (fun ix _ => n - (intOf ix).toNat)
      case atStart => exact ⟨0, by omega, rfl, F, hF, Lib.hid (fun m hm => by rw [hfb.out m hm]; simp [hasB]), hB, hz, hbel⟩
      case round =>
        clear hB hz hbel hfb hF
        obtain ⟨k, hk, rfl, G, hG, hfb, hB, hz, hbel⟩ := hrel
        by_cases hlk : k < n
        · have hki : (k : Int) < (n : Int) := by omega
          obtain ⟨b, off, p, rfl, hp, hc, hb⟩ := Texts.at (h.below hbel) k (by rw [Hn.out]; exact hlk)
          have hss := hasB_succ ps k p hp
          have hs64 := Hsz.out p (List.mem_of_getElem? hp)
          obtain ⟨pv, pl⟩ := p
          simp only at hc hb hss hs64
          obtain ⟨pa, pc, rfl, _, _⟩ := hb.form
          obtain ⟨pn, hpn⟩ : ∃ pn, pn = pl.length := ⟨_, rfl⟩
          rw [← hpn] at hc hb hs64
          have cs := fun x h => ssum_any pa pn pc pl hpn.symm x h hs64
          obtain ⟨t0, t1, t2, ht⟩ := trip3 pl
          have hts := scs_trip ht
          have hht := hasT_of ht
          have hsl := scs_len pl
          have hso := scs_one pl
          rw [show (sumB pl).map u8v = scs pl from rfl] at cs
          obtain ⟨C, hC⟩ : ∃ C, C = scs pl := ⟨_, rfl⟩
          simp only [← hC] at cs hts hsl hso
          have htl0 := t0.toNat_lt
          have htl1 := t1.toNat_lt
          have htl2 := t2.toNat_lt
          obtain ⟨b0, hb0⟩ : ∃ b, ((t0.toNat : Int) == (N : Int)) = b := ⟨_, rfl⟩
          obtain ⟨b1, hb1⟩ : ∃ b, ((t1.toNat : Int) == (N : Int)) = b := ⟨_, rfl⟩
          obtain ⟨b2, hb2⟩ : ∃ b, ((t2.toNat : Int) == (N : Int)) = b := ⟨_, rfl⟩
          obtain ⟨bj, hbj⟩ : ∃ b, fb G N = b := ⟨_, rfl⟩
          have hTN : hasT pl N = (b0 || b1 || b2) := by rw [hht N, hb0, hb1, hb2]
          have cj := fun x => jhas_any G hG N hlt x
          rw [hbj] at cj
          obtain ⟨D, hD⟩ : ∃ D, D = fcs G := ⟨_, rfl⟩
          have hDl : D.length = 32 := by rw [hD]; exact fcs_len hG
          simp only [← hD] at cj
          have hss2 : ∀ m, m ≠ N → ∀ b, (decide (m = N) && b) = false := fun m hm b => by simp [hm]
          have Cs := Lib.hid cs
          have Cj := Lib.hid cj
          have Hts := Lib.hid hts
          have Hsl := Lib.hid hsl
          have Hso := Lib.hid hso
          have Hss := Lib.hid hss
          have HD := Lib.hid hD
          have HDl := Lib.hid hDl
          have Hss2 := Lib.hid hss2
          by_cases hup : ((b0 || b1 || b2) && !bj) = true
          · have hbjf : bj = false := by cases bj <;> simp_all
            have hTt : (b0 || b1 || b2) = true := by cases bj <;> simp_all
            have h256 := hlt
            obtain ⟨q, r, y, x, z, hbs⟩ := bitAdd G hG N h256 (hbj.trans hbjf)
            have hG2 : (orF G N).length = 32 := by rw [orF_len, hG]
            have hfb2 : Hid (∀ m, m < 256 → fb (orF G N) m = ((decide (m < N) && hasB ps m) || (decide (m = N) && hasB (ps.take (k + 1)) m))) := Lib.hid (fun m hm => by
              rw [fb_or G N m hG h256, hfb.out m hm]
              by_cases hmN : m = N
              · subst hmN
                rw [Hss.out m, hTN, hTt]; simp
              · rw [Hss2.out m hmN, Hss2.out m hmN]; simp [hmN])
            have hDx := fcs_at hbs.hx
            have hDs := hbs.hset
            rw [← hD] at hDx hDs
            obtain ⟨e1, e2, e1t, e2t, hs, hs1, hor, hq, hr⟩ : (N : Int) / 8 = (q : Int) ∧ (N : Int) % 8 = (r : Int) ∧ (N : Int).tdiv 8 = (q : Int) ∧ (N : Int).tmod 8 = (r : Int) ∧ IntKind.u8.wrap ((2 : Int) ^ r) = (y : Int) ∧ IntKind.u8.wrap (1 * (2 : Int) ^ r) = (y : Int) ∧ IntKind.u8.wrap ((x.toNat : Int) + (y : Int)) = (z.toNat : Int) ∧ q < 32 ∧ r < 8 := ⟨hbs.e1, hbs.e2, hbs.e1t, hbs.e2t, hbs.hs, hbs.hs1, hbs.hadd, hbs.hq, hbs.hr⟩
            have hqi : (q : Int) < 32 := by omega
            have hri : (r : Int) ≤ 7 := by omega
            have HDx := Lib.hid hDx
            have HDs := Lib.hid hDs
            rw [← hD] at hB
            subst hbjf
            clear hfb hG hTN hbj hbs hDx hDs hss hss2 hts hht hsl hso hD hDl cs cj hC ht hp hpn hs64
            go_upto_region 9 with (first
            | (go_at_call 68; refine (Cs.out _ hb).mono ?_; rintro e w2 ⟨rfl, b2'⟩; have hB2 := hB.kept b2'; have hz2 := hz.kept b2'; have hbel2 := Below.then hbel b2'; have hn2 := Blk.new w2 28 zh; have hB3 := hB2.alloc (.cells zh.toArray 28); have hz3 := hz2.alloc (.cells zh.toArray 28); have hbel3 := hbel2.alloc hbel2.size (.cells zh.toArray 28))
            | (refine wpList_storeA (o := ⟨none, _, _, _, _, _⟩) (by rfl) 28 (.tmp 7) (.tmp 18) (by rfl) w2.heap.size C (by rfl) (by rfl) aggHash' hn2 Hsl.out (by rfl) Hso.out (Below.refl _ _) (Nat.le_refl _) ?_; intro w4 hh4 _ hg4; have hB4 := hB3.grown hg4 (by have := hB2.lt; simp; omega); have hz4 := hz3.grown hg4 (by have := hz2.lt; simp; omega); have hbel4 := hbel3.grown hg4 hbel3.size (fun j hj => by cases hj; exact hbel2.size); have c0 := (hh4.cell 0).trans Hts.out.1; have c1 := (hh4.cell 1).trans Hts.out.2.1; have c2 := (hh4.cell 2).trans Hts.out.2.2; clear hn2 hB3 hz3 hbel3 hB2 hz2 hbel2 b2' hg4 hh4))
            have h3 : b0 = true ∨ (b0 = false ∧ b1 = true) ∨ (b0 = false ∧ b1 = false ∧ b2 = true) := by revert hTt; cases b0 <;> cases b1 <;> cases b2 <;> simp
            clear hup hTt
            rcases h3 with rfl | ⟨rfl, rfl⟩ | ⟨rfl, rfl, rfl⟩
            all_goals
              go_wp2_with (first
                | (refine wpList_loadW (o := ⟨some 39, _, _, _, _, _⟩) 28 (.tmp 3) (by rfl) (w.heap.size + 1) 0 (by rfl) aggHash' HDl.out (Blk.all0 hB4) (by rfl) ?_)
                | (go_at_call 70; refine (Cj.out _).mono ?_; rintro e w5 ⟨rfl, b5⟩; have hB5 := hB4.kept b5; have hz5 := hz4.kept b5; have hbel5 := Below.then hbel4 b5))
              have k1 := fun u : Ext w5 => u.cell ((hB5.cell q).trans HDx.out)
              clear hz hbel
              have wq : IntKind.i64.wrap (q : Int) = (q : Int) := IntWalk.i64_in _ (by omega)
              have wr' : IntKind.i64.wrap (r : Int) = (r : Int) := IntWalk.i64_in _ (by omega)
              refine wp_region_typed w5 9 (by kernel_rfl) (by kernel_rfl) (Below.refl _ _) ?_; simp only [List.take_succ_cons, List.take_zero, List.take_nil]
              iterate 9 (refine wpX_step (by rfl) (fun K hK => ?_); go_simp; first | (refine hK _ ?_; clear hK K) | (apply Exists.intro; refine ⟨fun _ => ?_, hK _ ?_⟩; fail; clear hK K))
              refine wpX_nil ?_
              intro u2 hb2'
              change wpList _ _ _ [_] _ _
              clear k1 wq wr'
              have hB6 := hB5.kept hb2'
              have hz6 := hz5.kept hb2'
              have hbel6 := Below.then hbel5 hb2'
              obtain ⟨y1, hy1⟩ := hB6.has q (by rw [HDl.out]; exact hq)
              have hf1 := hB6.free q
              have hB7 := hB6.set q (.int .u8 (z.toNat : Int))
              rw [HDs.out] at hB7
              have hz7 : Blk 28 (u2.setCell ⟨w.heap.size + 1, q, none⟩ (.int .u8 (z.toNat : Int))) w.heap.size zh := hz6.other _ (by simp) _
              have hbel7 := hbel6.setCell (p := ⟨w.heap.size + 1, q, none⟩) (by simp) (.int .u8 (z.toNat : Int))
              go_wp2
              go_roundw
              case rel => exact ⟨k + 1, by omega, by go_num, orF G N, hG2, hfb2, hB7, hz7, hbel7⟩
              case measure => simp [intOf]; omega
          · have hno : Hid (∀ m, m < 256 → fb G m = ((decide (m < N) && hasB ps m) || (decide (m = N) && hasB (ps.take (k + 1)) m))) := Lib.hid (fun m hm => by
              by_cases hmN : m = N
              · subst hmN
                have h1 := hfb.out m hm
                rw [hbj] at h1
                rw [Hss.out m, hTN, hbj]
                simp only [Nat.lt_irrefl, decide_false, Bool.false_and, Bool.false_or, decide_true, Bool.true_and] at h1 ⊢
                rw [← h1]
                revert hup; cases b0 <;> cases b1 <;> cases b2 <;> cases bj <;> simp
              · rw [hfb.out m hm, Hss2.out m hmN, Hss2.out m hmN])
            rw [← hD] at hB
            have hG2 := Lib.hid hG
            clear hfb hG hTN hbj hss hss2 hts hht hsl hso hD hDl cs cj hC ht hp hpn hs64
            go_upto_region 9 with (first
            | (go_at_call 68; refine (Cs.out _ hb).mono ?_; rintro e w2 ⟨rfl, b2'⟩; have hB2 := hB.kept b2'; have hz2 := hz.kept b2'; have hbel2 := Below.then hbel b2'; have hn2 := Blk.new w2 28 zh; have hB3 := hB2.alloc (.cells zh.toArray 28); have hz3 := hz2.alloc (.cells zh.toArray 28); have hbel3 := hbel2.alloc hbel2.size (.cells zh.toArray 28))
            | (refine wpList_storeA (o := ⟨none, _, _, _, _, _⟩) (by rfl) 28 (.tmp 7) (.tmp 18) (by rfl) w2.heap.size C (by rfl) (by rfl) aggHash' hn2 Hsl.out (by rfl) Hso.out (Below.refl _ _) (Nat.le_refl _) ?_; intro w4 hh4 _ hg4; have hB4 := hB3.grown hg4 (by have := hB2.lt; simp; omega); have hz4 := hz3.grown hg4 (by have := hz2.lt; simp; omega); have hbel4 := hbel3.grown hg4 hbel3.size (fun j hj => by cases hj; exact hbel2.size); have c0 := (hh4.cell 0).trans Hts.out.1; have c1 := (hh4.cell 1).trans Hts.out.2.1; have c2 := (hh4.cell 2).trans Hts.out.2.2; clear hn2 hB3 hz3 hbel3 hB2 hz2 hbel2 b2' hg4 hh4))
            have h3 : (b0 = false ∧ b1 = false ∧ b2 = false) ∨ (bj = true ∧ b0 = true) ∨ (bj = true ∧ b0 = false ∧ b1 = true) ∨ (bj = true ∧ b0 = false ∧ b1 = false ∧ b2 = true) := by revert hup; cases b0 <;> cases b1 <;> cases b2 <;> cases bj <;> simp
            clear hup
            rcases h3 with ⟨rfl, rfl, rfl⟩ | ⟨rfl, rfl⟩ | ⟨rfl, rfl, rfl⟩ | ⟨rfl, rfl, rfl, rfl⟩
            all_goals
              go_wp2_with (first
                | (refine wpList_loadW (o := ⟨some 39, _, _, _, _, _⟩) 28 (.tmp 3) (by rfl) (w.heap.size + 1) 0 (by rfl) aggHash' HDl.out (Blk.all0 hB4) (by rfl) ?_)
                | (go_at_call 70; refine (Cj.out _).mono ?_; rintro e w5 ⟨rfl, b5⟩; have hB5 := hB4.kept b5; have hz5 := hz4.kept b5; have hbel5 := Below.then hbel4 b5))
              go_roundw
              case rel => first | (rw [HD.out] at hB5; exact ⟨k + 1, by omega, by go_num, G, hG2.out, hno, hB5, hz5, hbel5⟩) | (rw [HD.out] at hB4; exact ⟨k + 1, by omega, by go_num, G, hG2.out, hno, hB4, hz4, hbel4⟩)
              case measure => simp [intOf]; omega
        · obtain rfl : k = n := by omega
          have hfb2 : Hid (∀ m, m < 256 → fb G m = (decide (m < N + 1) && hasB ps m)) := Lib.hid (fun m hm => by
            rw [hfb.out m hm, ← Hn.out, List.take_length]
            by_cases hmN : m = N
            · subst hmN; simp
            · have e : (m < N + 1) ↔ (m < N) := by omega
              simp [hmN, e])
          clear hfb
          go_wp2
          go_roundw
          case rel => exact ⟨N + 1, by omega, by go_num, G, hG, hfb2, hB, hz, hbel⟩
          case measure => simp [intOf]; omega
    · obtain rfl : N = 256 := by omega
      have hE : fcs F = fcs (mkF (hasB ps) 256) := by
        have hE0 : F = mkF (hasB ps) 256 := mkF_is hF (fun m hm => by rw [hfb.out m hm]; simp [hm])
        rw [hE0]
      rw [hE] at hB
      have hcl : (fcs (mkF (hasB ps) 256)).length = 32 := fcs_len (mkF_len _ _)
      have hco := fcs_one (mkF (hasB ps) 256)
      obtain ⟨C, hC⟩ : ∃ C, C = fcs (mkF (hasB ps) 256) := ⟨_, rfl⟩
      rw [← hC] at hB hcl hco
      have HC := Lib.hid hC
      have Hcl := Lib.hid hcl
      have Hco := Lib.hid hco
      clear hcl hco hE hfb hF hC
      go_wp2_with (first
        | (refine wpList_loadA (o := ⟨some 55, _, _, _, _, _⟩) (by rfl) 28 (.tmp 3) (by rfl) (w.heap.size + 1) (by rfl) aggHash' hB Hcl.out ?_)
        | (refine wpList_storeA (o := ⟨none, _, _, _, _, _⟩) (by rfl) 28 (.tmp 2) (.tmp 55) (by rfl) w.heap.size C (by rfl) (by rfl) aggHash' hz Hcl.out (by rfl) Hco.out (Below.refl _ _) (Nat.le_refl _) ?_; intro w4 hh4 _ hg4; have hbel4 := hbel.grown hg4 hbel.size (fun j hj => by cases hj; omega)))
      exact bodyPost_ret (results_blk rfl _ _ w.heap.size aggHash' hh4 Hcl.out rfl) rfl ⟨by rw [HC.out], hbel4⟩
end Go.Proofs.Ytfedjbodcebdnaa
