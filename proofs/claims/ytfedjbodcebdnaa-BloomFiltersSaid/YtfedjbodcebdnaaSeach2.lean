/- sponge.Each, the reference's SEach. -/
import Derived.Test.YtfedjbodcebdnaaSeach1
set_option linter.unusedSimpArgs false
set_option linter.unusedVariables false
namespace Go.Proofs.Ytfedjbodcebdnaa
open Go.RowKit
theorem Texts.at {w : World} {a : Option Addr} {n c : Nat} {ps : List (Value × List UInt8)} (h : Texts w (.slice a n c) ps) (k : Nat) (hk : k < ps.length) :
    ∃ b off p, a = some ⟨b, off, none⟩ ∧ ps[k]? = some p ∧ w.cell? ⟨b, off + k, none⟩ = some p.1 ∧ Bytes w p.1 p.2 := by
  obtain ⟨b, off, ha, hc⟩ := RowOf.cells (f := tcell) (size := 1) (fun _ => rfl) h.1 k hk
  exact ⟨b, off, ps[k], ha, List.getElem?_eq_getElem hk, by simpa using hc 0 _ rfl, h.2 _ (List.getElem_mem hk)⟩
theorem tops_row (l : List UInt8) (C : List Value) (hC : C = scs l) (w : World) : RowOf scs 32 (w.alloc (.cells C.toArray 28)) (.slice (some ⟨w.heap.size, 0, none⟩) 1 1) [l] := by
  subst hC
  have h := Row.made w 32 ([l].flatMap scs) 28 1 (by simp [scs_len]) (by unfold maxLen; omega)
  have e : [l].flatMap scs = scs l := by simp
  unfold RowOf
  rw [e] at h ⊢
  exact h
theorem HashAt.grown {P : List UInt8} {t g : Nat} {w w' : World} {row : Option Nat} (h : HashAt P t g w) (hg : w.grownBy w' row) (hne : row ≠ some g) : HashAt P t g w' := by
  obtain ⟨pt, h1, h2, h3⟩ := h
  exact ⟨pt, h1, h2, h3.grown hg hne⟩
theorem HashAt.alloc {P : List UInt8} {t g : Nat} {w : World} (h : HashAt P t g w) (o : Obj) : HashAt P t g (w.alloc o) := h.kept ((Below.refl _ _).alloc (Nat.le_refl _) o)
def EachPost (ps : List (Value × List UInt8)) (w : World) (e : Ending) (w' : World) : Prop := ∃ v, e = .returned v ∧ OwnOf scs 32 28 w' w.heap.size v (tops ps ps.length) ∧ Below w.heap.size w w'
set_option maxHeartbeats 1000000 in
set_option maxRecDepth 100000 in
theorem each_all (a : Option Addr) (n c : Nat) (ps : List (Value × List UInt8)) (hn : ps.length = n) (w : World) (h : Texts w (.slice a n c) ps) (hM : (cat ps n).length ≤ 1048576) (hN : n ≤ 1048576) :
    Calls Try.prog 29 #[.slice a n c] w (EachPost ps w) := by
  obtain ⟨P, hP⟩ : ∃ P, P = cat ps n := ⟨_, rfl⟩
  have hpre : ∀ k i, i < (cat ps k).length → P[i]? = (cat ps k)[i]? := fun k i hi => by rw [hP, ← hn]; exact cat_pre ps k i hi
  have hcl : ∀ k, (cat ps k).length ≤ 1048576 := fun k => Nat.le_trans (by rw [← hn]; exact cat_le ps k) hM
  obtain ⟨H0, hH0⟩ : ∃ H0, H0 = hst (stB P 0) (List.replicate 32 0) 0 := ⟨_, rfl⟩
  obtain ⟨w1, hw1⟩ : ∃ w1, w1 = w.alloc (.cells H0.toArray 107) := ⟨_, rfl⟩
  have hb1 : HashAt P 0 w.heap.size w1 := ⟨List.replicate 32 0, by simp, fun i hi => by omega, by rw [hw1, ← hH0]; exact Blk.new w _ _⟩
  have hbel1 : Below w.heap.size w w1 := by rw [hw1]; exact (Below.refl _ _).alloc (Nat.le_refl _) _
  have hsz1 : w.heap.size < w1.heap.size := by rw [hw1]; simp
  have hH1 : H0.toArray = #[.int .u64 0, .int .u64 0, .int .u64 0, .int .u64 0, .int .u64 0, .int .u64 0, .int .u64 0, .int .u64 0, .int .u8 0, .int .u8 0, .int .u8 0, .int .u8 0, .int .u8 0, .int .u8 0, .int .u8 0, .int .u8 0, .int .u8 0, .int .u8 0, .int .u8 0, .int .u8 0, .int .u8 0, .int .u8 0, .int .u8 0, .int .u8 0, .int .u8 0, .int .u8 0, .int .u8 0, .int .u8 0, .int .u8 0, .int .u8 0, .int .u8 0, .int .u8 0, .int .u8 0, .int .u8 0, .int .u8 0, .int .u8 0, .int .u8 0, .int .u8 0, .int .u8 0, .int .u8 0, .int .i64 0] := by rw [hH0]; rfl
  rw [hH1] at hw1
  have Hpre := Lib.hid hpre
  have Hcl := Lib.hid hcl
  have Hw1 := Lib.hid hw1
  have Hn := Lib.hid hn
  have hT1 : Texts w1 (.slice a n c) ps := h.below hbel1
  clear hpre hcl hw1 hH1 hH0 hn hP hM
  go_enter Try.func29, Try.ntmps29
  go_wp2
  go_loopw [6, 13] (fun v ix wr => ∃ k : Nat, k ≤ n ∧ ix = .int .i64 (k : Int) ∧ HashAt P (cat ps k).length w.heap.size wr ∧ OwnOf scs 32 28 wr (w.heap.size + 1) v (tops ps k) ∧ Below w.heap.size w wr ∧ w.heap.size < wr.heap.size) (fun _ ix _ => n - (intOf ix).toNat)
  case atStart => rw [← Hw1.out]; exact ⟨0, by omega, rfl, hb1, OwnOf.nil scs 32 _ _ _, hbel1, hsz1⟩
  case round =>
    clear hb1 hbel1 hsz1 hT1
    obtain ⟨k, hk, rfl, hH, hO, hbel, hsz⟩ := hrel
    by_cases hlt : k < n
    · have hki : (k : Int) < (n : Int) := by omega
      obtain ⟨b, off, p, rfl, hp, hc, hB⟩ := Texts.at (h.below hbel) k (by rw [Hn.out]; exact hlt)
      have hcs := cat_succ ps k p hp
      have Hcs := Lib.hid hcs
      obtain ⟨pv, pl⟩ := p
      simp only at hc hB hcs
      obtain ⟨pa, pc, rfl, _, _⟩ := hB.form
      obtain ⟨pn, hpn⟩ : ∃ pn, pn = pl.length := ⟨_, rfl⟩
      rw [← hpn] at hc hB
      have hpl : ∀ i, i < pn → P[(cat ps k).length + i]? = pl[i]? := fun i hi => by
        rw [Hpre.out (k + 1) _ (by rw [hcs, List.length_append]; omega), hcs, List.getElem?_append_right (by omega), Nat.add_sub_cancel_left]
      have hlg : ∀ w', wr.grownBy w' (some w.heap.size) → Bytes w' (.slice pa pn pc) pl := fun w' hg => by
        have h0 : Texts w' (.slice (some ⟨b, off, none⟩) n c) ps := h.below (hbel.grown hg hbel.size (fun k hk => by cases hk; exact Nat.le_refl _))
        obtain ⟨_, _, p', _, hp', _, hB'⟩ := Texts.at h0 k (by rw [Hn.out]; exact hlt)
        rw [hp] at hp'
        cases hp'
        rw [hpn]; exact hB'
      have hT : (cat ps k).length + pn = (cat ps (k + 1)).length := by rw [hcs, List.length_append, hpn]
      obtain ⟨T, hTT⟩ : ∃ T, T = cat ps (k + 1) := ⟨_, rfl⟩
      have hts := tops_succ ps k
      have hpT := Hpre.out (k + 1)
      have hTm := Hcl.out (k + 1)
      rw [← hTT] at hT hts hpT hTm
      obtain ⟨C, hC⟩ : ∃ C, C = scs T := ⟨_, rfl⟩
      have cs1 := fun x hS => sumc_any T w.heap.size x hS
      rw [← hC] at cs1
      have cr := fun x => tops_row T C hC x
      have hC32 : C.length = 32 := by rw [hC]; exact scs_len T
      have Cs1 := Lib.hid cs1
      have Cr := Lib.hid cr
      clear cs1 cr hC
      have cw := fun x hB hlg hH => write_from P pl pa pn pc w.heap.size (cat ps k).length x hpn.symm hpl hB hlg hH
      rw [hT] at cw
      have htl := tops_len ps k
      have Cw := Lib.hid cw
      have Hlg := Lib.hid hlg
      have Hts := Lib.hid hts
      have HpT := Lib.hid hpT
      have HTT := Lib.hid hTT
      have Htl := Lib.hid htl
      have hown := OwnOf.lt hO
      have Hown := Lib.hid hown
      clear cw hlg hts hpT hTT htl hown hT hpl hcs hp hpn
      go_wp2_with (first
        | (go_at_call 65; (with_reducible refine (Cw.out _ hB Hlg.out hH).mono ?_); rintro e w2 ⟨rfl, hH2, hg2⟩; have hbel2 := hbel.grown hg2 hbel.size (fun k hk => by cases hk; exact Nat.le_refl _); have hO2 := hO.grown hg2 (fun k hk e => by cases hk; have := Hown.out _ e; omega); have hsz2 := Nat.lt_of_lt_of_le hsz hg2.size; have hS2 := hH2.same (fun i hi => (HpT.out i hi).trans (padL_head T i hi).symm))
        | (go_at_call 66; (with_reducible refine (Cs1.out _ hS2).mono ?_); rintro e w3 ⟨rfl, b3⟩; have hbel3 := Below.then hbel2 b3; have hO3 := hO2.kept b3; have hH3 := hH2.kept b3; have hsz3 := Nat.lt_of_lt_of_le hsz2 b3.size; have hr4 := Cr.out w3; have hO4 := hO3.alloc (.cells C.toArray 28); have hH4 := hH3.alloc (.cells C.toArray 28); have hbel4 := hbel3.alloc hbel3.size (.cells C.toArray 28))
        | (refine wpList_build1 (o := ⟨some 23, _, _, _, _, _⟩) (by rfl) (.tmp 22) 53 (by rfl) elHash (.agg C.toArray) C (by rfl) (by rfl) hC32 (by omega) ?_)
        | (refine wpList_appA (o := ⟨some 24, _, _, _, _, _⟩) (by rfl) (.tmp 20) (.tmp 23) 53 (by rfl) elHash (by rfl) hO4 (by rfl) hr4 (by simp; omega) (by rw [Htl.out]; simp; omega) (by rw [Htl.out]; unfold maxLen; simp; omega) ?_; intro v' w5 hO5 hg5 _; have hbel5 := hbel4.grown hg5 (by simp; omega) (fun j hj => by have := Hown.out j hj; omega); have hH5 := hH4.grown hg5 (fun e => by have := Hown.out _ e; omega); rw [← Hts.out] at hO5; have hsz5 := Nat.lt_of_lt_of_le (show w.heap.size < (w3.alloc (.cells C.toArray 28)).heap.size by simp; omega) hg5.size))
      rw [HTT.out] at hH5
      go_roundw
      case rel => exact ⟨k + 1, by omega, by go_num, hH5, hO5, hbel5, hsz5⟩
      case measure => simp [intOf]; omega
    · obtain rfl : k = n := by omega
      go_wp2
      go_ret
      exact ⟨_, rfl, by rw [Hn.out]; exact hO.lower (by omega), hbel⟩
end Go.Proofs.Ytfedjbodcebdnaa
