/- The reference's SEach. -/
import Derived.Test.YtfedjbodcebdnaaSeach2
set_option linter.unusedSimpArgs false
set_option linter.unusedVariables false
namespace Go.Proofs.Ytfedjbodcebdnaa
open Go.RowKit
set_option maxHeartbeats 1000000 in
set_option maxRecDepth 100000 in
theorem seach_all (a : Option Addr) (n c : Nat) (ps : List (Value × List UInt8)) (hn : ps.length = n) (w : World) (h : Texts w (.slice a n c) ps) (hM : (cat ps n).length ≤ 1048576) (hN : n ≤ 1048576) :
    Calls Try.prog 30 #[.slice a n c] w (EachPost ps w) := by
  have hcl : ∀ k, (cat ps k).length ≤ 1048576 := fun k => Nat.le_trans (by rw [← hn]; exact cat_le ps k) hM
  have Hcl := Lib.hid hcl
  have Hn := Lib.hid hn
  clear hcl hn hM
  go_enter Try.func30, Try.ntmps30
  go_wp2
  go_loopw [3, 4, 9] (fun u v ix wr => ∃ k : Nat, k ≤ n ∧ ix = .int .i64 (k : Int) ∧ OwnOf b8 1 5 wr w.heap.size u (cat ps k) ∧ OwnOf scs 32 28 wr w.heap.size v (tops ps k) ∧ Apart2 u v ∧ Below w.heap.size w wr) (fun _ _ ix _ => n - (intOf ix).toNat)
  case atStart => exact ⟨0, by omega, rfl, OwnOf.nil b8 1 _ _ _, OwnOf.nil scs 32 _ _ _, Apart2.nil _, Below.refl _ _⟩
  case round =>
    obtain ⟨k, hk, rfl, hA, hO, hap, hbel⟩ := hrel
    by_cases hlt : k < n
    · have hki : (k : Int) < (n : Int) := by omega
      obtain ⟨b, off, p, rfl, hp, hc, hB⟩ := Texts.at (h.below hbel) k (by rw [Hn.out]; exact hlt)
      have hcs := cat_succ ps k p hp
      obtain ⟨pv, pl⟩ := p
      simp only at hc hB hcs
      have hts := tops_succ ps k
      have hTm := Hcl.out (k + 1)
      have hTk := Hcl.out k
      obtain ⟨T, hTT⟩ : ∃ T, T = cat ps (k + 1) := ⟨_, rfl⟩
      obtain ⟨T0, hT0⟩ : ∃ T0, T0 = cat ps k := ⟨_, rfl⟩
      rw [← hTT] at hcs hts hTm
      rw [← hT0] at hA hcs hTk
      have hTl : T0.length + pl.length ≤ 1048576 := by rw [hcs, List.length_append] at hTm; exact hTm
      have htl := tops_len ps k
      obtain ⟨C, hC⟩ : ∃ C, C = scs T := ⟨_, rfl⟩
      have cs1 := fun x a n c hn hB => ssum_any a n c T hn x hB (by omega)
      rw [show (sumB T).map u8v = C from hC.symm] at cs1
      have cr := fun x => tops_row T C hC x
      have hC32 : C.length = 32 := by rw [hC]; exact scs_len T
      obtain ⟨tn, htn⟩ : ∃ tn, tn = T.length := ⟨_, rfl⟩
      have Htn := Lib.hid htn
      have Cs1 := Lib.hid cs1
      have Cr := Lib.hid cr
      have Hts := Lib.hid hts
      have HTT := Lib.hid hTT
      have Hcs := Lib.hid hcs
      have Htl := Lib.hid htl
      have hown := OwnOf.lt hO
      have Hown := Lib.hid hown
      have hownA := OwnOf.lt hA
      have HownA := Lib.hid hownA
      have hbs := hbel.size
      clear cs1 cr hC hts hTT hcs htl hown hownA hp hT0 htn
      go_wp2_with (first
        | (refine wpList_appA (o := ⟨some 15, _, _, _, _, _⟩) (by rfl) (.tmp 13) (.tmp 14) 34 (by rfl) elU8 (by rfl) hA (by rfl) hB (by omega) (by omega) (by unfold maxLen; omega) ?_; intro v2 w2 hA2 hg2 hl2; rw [← Hcs.out] at hA2; have hbel2 := hbel.grown hg2 hbs (fun j hj => HownA.out j hj); have hO2 := hO.grown hg2 (fun j hj => hap j hj); have hap2 := hap.moved hO hl2; obtain ⟨a3, c3, rfl, _⟩ := hA2.form' tn Htn.out.symm)
        | (go_at_call 68; (with_reducible refine (Cs1.out _ a3 tn c3 Htn.out.symm hA2.row).mono ?_); rintro e w3 ⟨rfl, b3⟩; have hbel3 := Below.then hbel2 b3; have hO3 := hO2.kept b3; have hA3 := hA2.kept b3; have hr4 := Cr.out w3; have hO4 := hO3.alloc (.cells C.toArray 28); have hA4 := hA3.alloc (.cells C.toArray 28); have hbel4 := hbel3.alloc hbel3.size (.cells C.toArray 28))
        | (refine wpList_build1 (o := ⟨some 19, _, _, _, _, _⟩) (by rfl) (.tmp 18) 53 (by rfl) elHash (.agg C.toArray) C (by rfl) (by rfl) hC32 (by omega) ?_)
        | (refine wpList_appA (o := ⟨some 20, _, _, _, _, _⟩) (by rfl) (.tmp 16) (.tmp 19) 53 (by rfl) elHash (by rfl) hO4 (by rfl) hr4 (by have := hbel3.size; simp; omega) (by rw [Htl.out]; simp; omega) (by rw [Htl.out]; unfold maxLen; simp; omega) ?_; intro v' w5 hO5 hg5 hl5; have hbel5 := hbel4.grown hg5 hbel4.size (fun j hj => Hown.out j hj); have hA5 := hA4.grown hg5 (fun j hj e => hap2 j e hj); rw [← Hts.out] at hO5; have hap5 := (hap2.symm.moved hA4 hl5).symm))
      rw [HTT.out] at hA5
      go_roundw
      case rel => exact ⟨k + 1, by omega, by go_num, hA5, hO5, hap5, hbel5⟩
      case measure => simp [intOf]; omega
    · obtain rfl : k = n := by omega
      go_wp2
      go_ret
      exact ⟨_, rfl, by rw [Hn.out]; exact hO, hbel⟩
end Go.Proofs.Ytfedjbodcebdnaa
