/- bloom.Join, the reference's JJoin. -/
import Derived.Test.YtljbbpcnoajfeaaBloom4
set_option linter.unusedSimpArgs false
set_option linter.unusedVariables false
namespace Go.Proofs.Ytljbbpcnoajfeaa
open Go.RowKit
def orB (F G : List UInt8) (m : Nat) : Bool := fb F m || fb G m
theorem fb_set (H : List UInt8) (hl : H.length = 32) (k : Nat) (hk : k < 32) (z : UInt8) (m : Nat) : fb (H.set k z) m = if m / 8 = k then z.toNat.testBit (m % 8) else fb H m := by
  unfold fb
  rw [List.getElem?_set]
  by_cases h : k = m / 8
  · rw [if_pos h, if_pos (by omega), if_pos h.symm, Option.getD_some]
  · rw [if_neg h, if_neg (fun e => h e.symm)]
set_option maxHeartbeats 1000000 in
set_option maxRecDepth 100000 in
theorem bjoin_any (F G : List UInt8) (hF : F.length = 32) (hG : G.length = 32) (w : World) :
    Calls Try.prog 125 #[.agg (fcs F).toArray, .agg (fcs G).toArray] w fun e w' => e = .returned (.agg (fcs (mkF (orB F G) 256)).toArray) ∧ Below w.heap.size w w' := by
  have hf1 := ((Blk.new w 43 (fcs F)).alloc (.cells (fcs G).toArray 43)).alloc (.cells zh.toArray 43)
  have hg1 : Blk 43 (((w.alloc (.cells (fcs F).toArray 43)).alloc (.cells (fcs G).toArray 43)).alloc (.cells zh.toArray 43)) (w.heap.size + 1) (fcs G) := by
    have := (Blk.new (w.alloc (.cells (fcs F).toArray 43)) 43 (fcs G)).alloc (.cells zh.toArray 43)
    simpa using this
  have hz1 : Blk 43 (((w.alloc (.cells (fcs F).toArray 43)).alloc (.cells (fcs G).toArray 43)).alloc (.cells zh.toArray 43)) (w.heap.size + 1 + 1) zh := by
    have := Blk.new ((w.alloc (.cells (fcs F).toArray 43)).alloc (.cells (fcs G).toArray 43)) 43 zh
    simpa using this
  have hbel1 : Below w.heap.size w (((w.alloc (.cells (fcs F).toArray 43)).alloc (.cells (fcs G).toArray 43)).alloc (.cells zh.toArray 43)) := (((Below.refl _ _).alloc (Nat.le_refl _) _).alloc (by simp) _).alloc (by simp; omega) _
  have hix : ∀ (j : Nat) (x : UInt8), G[j]? = some x → ∀ w', (Instr.index 43 (.agg (fcs G).toArray) (.int .i64 (j : Int))).run Try.prog w' = .ok (.int .u8 (x.toNat : Int)) w' := by
    intro j x hx w'
    have hj := (List.getElem?_eq_some_iff.1 hx).1
    have he := (List.getElem?_eq_some_iff.1 hx).2
    have e1 : fcs G = (G.map fun x => (x.toNat : Int)).map (Value.int .u8) := by unfold fcs; rw [List.map_map]; rfl
    have hp := run_part_int (P := Try.prog) w' Try.underlying5 (G.map fun x => (x.toNat : Int)) j (by rw [List.length_map]; exact hj)
    rw [← e1, List.getElem_map, he] at hp
    exact run_index_agg (n := 32) (e := 5) (by kernel_rfl) (by kernel_rfl) _ j (by omega) w' .i64 hp
  have hGb : ∀ j, j < 32 → ∃ x, G[j]? = some x := fun j hj => ⟨_, List.getElem?_eq_getElem (by omega)⟩
  have hgl := fcs_len hG
  have hfl := fcs_len hF
  obtain ⟨D, hD⟩ : ∃ D, D = fcs G := ⟨_, rfl⟩
  obtain ⟨E, hE⟩ : ∃ E, E = fcs F := ⟨_, rfl⟩
  have hgr := Blk.all0 hg1
  simp only [← hD, ← hE] at hgr hbel1 hz1 hix hgl
  simp only [← hE] at hfl
  have hf2 : Blk 43 (((w.alloc (.cells E.toArray 43)).alloc (.cells D.toArray 43)).alloc (.cells zh.toArray 43)) w.heap.size (fcs F) := by rw [hD, hE]; exact hf1
  rw [← hD, ← hE]
  have Hix := Lib.hid hix
  have HGb := Lib.hid hGb
  have Hgl := Lib.hid hgl
  have Hfl := Lib.hid hfl
  clear hix hGb hgl hfl hD hE hf1 hg1
  go_enter Try.func125, Try.ntmps125
  go_wp2_with (refine wpList_loadW (o := ⟨some 7, _, _, _, _, _⟩) 43 (.tmp 3) (by rfl) (w.heap.size + 1) 0 (by rfl) aggHash' Hgl.out hgr (by rfl) ?_)
  go_loopw [8] (fun ix wr => ∃ k : Nat, k ≤ 32 ∧ ix = .int .i64 (k : Int) ∧ ∃ H : List UInt8, H.length = 32 ∧ Hid (∀ m, m < 256 → fb H m = (fb F m || (decide (m / 8 < k) && fb G m))) ∧ Blk 43 wr w.heap.size (fcs H) ∧ Blk 43 wr (w.heap.size + 1 + 1) zh ∧ Below w.heap.size w wr) (fun ix _ => 32 - (intOf ix).toNat)
  case atStart => exact ⟨0, by omega, rfl, F, hF, Lib.hid (fun m _ => by simp), hf2, hz1, hbel1⟩
  case round =>
    clear hf2 hgr hz1 hbel1
    obtain ⟨k, hk, rfl, H, hH, hfb, hB, hz, hbel⟩ := hrel
    by_cases hlt : k < 32
    · have hki : (k : Int) < 32 := by omega
      obtain ⟨g, hg⟩ := HGb.out k hlt
      obtain ⟨x, hx⟩ : ∃ x, H[k]? = some x := ⟨_, List.getElem?_eq_getElem (by omega)⟩
      have hi1 := Hix.out k g hg
      have hc := (hB.cell k).trans (fcs_at hx)
      have hfr := hB.free k
      have hlt2 : x.toNat ||| g.toNat < 256 := Nat.or_lt_two_pow (n := 8) x.toNat_lt g.toNat_lt
      obtain ⟨z, hz0⟩ : ∃ z, z = UInt8.ofNat (x.toNat ||| g.toNat) := ⟨_, rfl⟩
      have hzn : z.toNat = x.toNat ||| g.toNat := by rw [hz0, UInt8.toNat_ofNat', Nat.mod_eq_of_lt hlt2]
      have hor : bits .or .u8 (x.toNat : Int) (g.toNat : Int) = (z.toNat : Int) := by rw [u8_or_nat x.toNat g.toNat x.toNat_lt g.toNat_lt, hzn]
      have hset : (fcs H).set k (.int .u8 (z.toNat : Int)) = fcs (H.set k z) := by unfold fcs; rw [List.map_set]; rfl
      have hH2 : (H.set k z).length = 32 := by rw [List.length_set, hH]
      have hfb2 : Hid (∀ m, m < 256 → fb (H.set k z) m = (fb F m || (decide (m / 8 < k + 1) && fb G m))) := Lib.hid (fun m hm => by
        rw [fb_set H hH k hlt z m]
        have h0 := hfb.out m hm
        by_cases hmk : m / 8 = k
        · rw [if_pos hmk, hzn, Nat.testBit_or]
          have h1 : x.toNat.testBit (m % 8) = fb H m := by unfold fb; rw [hmk, hx, Option.getD_some]
          have h2 : g.toNat.testBit (m % 8) = fb G m := by unfold fb; rw [hmk, hg, Option.getD_some]
          rw [h1, h2, h0]
          have e1 : ¬ (m / 8 < k) := by omega
          have e2 : m / 8 < k + 1 := by omega
          simp [e1, e2]
        · rw [if_neg hmk, h0]
          have e1 : (m / 8 < k + 1) ↔ (m / 8 < k) := by omega
          simp [e1])
      have hB2 := hB.set k (.int .u8 (z.toNat : Int))
      rw [hset] at hB2
      have hz2 : Blk 43 (wr.setCell ⟨w.heap.size, k, none⟩ (.int .u8 (z.toNat : Int))) (w.heap.size + 1 + 1) zh := hz.other _ (by simp; omega) _
      have hbel2 := hbel.setCell (p := ⟨w.heap.size, k, none⟩) (Nat.le_refl _) (.int .u8 (z.toNat : Int))
      clear hg hx hzn hz0 hset hB hz hbel hfb hH
      go_wp2
      go_roundw
      case rel => exact ⟨k + 1, by omega, by go_num, H.set k z, hH2, hfb2, hB2, hz2, hbel2⟩
      case measure => simp [intOf]; omega
    · obtain rfl : k = 32 := by omega
      have hE : H = mkF (orB F G) 256 := mkF_is hH (fun m hm => by rw [hfb.out m hm]; unfold orB; have : m / 8 < 32 := by omega
                                                                   simp [this])
      have hcl : (fcs (mkF (orB F G) 256)).length = 32 := fcs_len (mkF_len _ _)
      have hco := fcs_one (mkF (orB F G) 256)
      rw [hE] at hB
      obtain ⟨C, hC⟩ : ∃ C, C = fcs (mkF (orB F G) 256) := ⟨_, rfl⟩
      rw [← hC] at hB hcl hco
      have HC := Lib.hid hC
      have Hcl := Lib.hid hcl
      have Hco := Lib.hid hco
      clear hcl hco hE hfb hH hC
      go_wp2_with (first
        | (refine wpList_loadA (o := ⟨some 19, _, _, _, _, _⟩) (by rfl) 43 (.tmp 2) (by rfl) w.heap.size (by rfl) aggHash' hB Hcl.out ?_)
        | (refine wpList_storeA (o := ⟨none, _, _, _, _, _⟩) (by rfl) 43 (.tmp 4) (.tmp 19) (by rfl) (w.heap.size + 1 + 1) C (by rfl) (by rfl) aggHash' hz Hcl.out (by rfl) Hco.out (Below.refl _ _) (Nat.le_refl _) ?_; intro w4 hh4 _ hg4; have hbel4 := hbel.grown hg4 hbel.size (fun j hj => by cases hj; omega)))
      exact bodyPost_ret (results_blk rfl _ _ (w.heap.size + 1 + 1) aggHash' hh4 Hcl.out rfl) rfl ⟨by rw [HC.out], hbel4⟩
end Go.Proofs.Ytljbbpcnoajfeaa
