/- chain.Shared. -/
import Derived.Test.YtfedjbodcebdnaaChain3
set_option linter.unusedSimpArgs false
set_option linter.unusedVariables false
namespace Go.Proofs.Ytfedjbodcebdnaa
open Go.RowKit
set_option maxHeartbeats 1000000 in
set_option maxRecDepth 100000 in
theorem shared_any (a b : Option Addr) (n m c d : Nat) (ls ms : List Hdr) (hn : ls.length = n) (hm : ms.length = m) (w : World) (h1 : RowOf hdc 204 w (.slice a n c) ls) (h2 : RowOf hdc 204 w (.slice b m d) ms) :
    Calls Try.prog 16 #[.slice a n c, .slice b m d] w fun e w' => e = .returned (.int .i64 (shn ls ms : Int)) ∧ Below w.heap.size w w' := by
  have hsm := h1.small
  have hsm2 := h2.small
  unfold maxLen at hsm hsm2
  rw [hn] at hsm
  rw [hm] at hsm2
  have hle := shn_le ls ms
  have hnx := fun k x h1 h2 h3 => @shn_next ls ms k x h1 h2 h3
  have hny := fun k x y h1 h2 h3 => @shn_ne ls ms k x y h1 h2 h3
  obtain ⟨s, hs⟩ : ∃ s, s = shn ls ms := ⟨_, rfl⟩
  rw [← hs] at hle hnx hny
  rw [← hs]
  rw [hn, hm] at hle
  have Hnx := Lib.hid hnx
  have Hny := Lib.hid hny
  have Hn := Lib.hid hn
  have Hm := Lib.hid hm
  clear hnx hny hn hm hs
  rcases (by omega : m < n ∨ ¬ m < n) with hmn | hmn
  all_goals
    go_enter Try.func16, Try.ntmps16
    go_wp2
    go_loopw [5] (fun ix wr => ∃ k : Nat, k ≤ s ∧ ix = .int .i64 (k : Int) ∧ Below w.heap.size w wr) (fun ix _ => s - (intOf ix).toNat)
    case atStart => exact ⟨0, by omega, rfl, Below.refl _ _⟩
    case round =>
      obtain ⟨k, hks, rfl, hbel⟩ := hrel
      by_cases hlt : k < n ∧ k < m
      · have hki : (k : Int) < (n : Int) := by omega
        have hki2 : (k : Int) < (m : Int) := by omega
        have hkn := hlt.1
        have hkm := hlt.2
        obtain ⟨x, hx⟩ : ∃ x, ls[k]? = some x := ⟨_, List.getElem?_eq_getElem (by rw [Hn.out]; exact hkn)⟩
        obtain ⟨y, hy⟩ : ∃ y, ms[k]? = some y := ⟨_, List.getElem?_eq_getElem (by rw [Hm.out]; exact hkm)⟩
        have l1 := hdc_len x
        have l2 := hdc_len y
        have g1 := guard_eqH x y
        have q1 := run_eqH x y
        obtain ⟨b1, o1, rfl, hr1⟩ := RowOf.ats (h1.below hbel) hx
        obtain ⟨b2, o2, rfl, hr2⟩ := RowOf.ats (h2.below hbel) hy
        obtain ⟨q, hq⟩ : ∃ q, q = decide (x = y) := ⟨_, rfl⟩
        rw [← hq] at q1
        have Hx := Lib.hid hx
        have Hy := Lib.hid hy
        have Hq := Lib.hid hq
        clear hq hx hy
        generalize hdc x = C at *
        generalize hdc y = D at *
        have G1 := Lib.hid g1
        have Q1 := Lib.hid q1
        have R1 := Lib.hid hr1
        have R2 := Lib.hid hr2
        clear g1 q1 hr1 hr2 hlt
        go_wp2
        refine wp_region_typed wr 16 (by kernel_rfl) (by kernel_rfl) (Below.refl _ _) ?_; simp only [List.take_succ_cons, List.take_zero, List.take_nil]
        iterate 11 (refine wpX_step (by rfl) (fun K hK => ?_); go_simp; first | (refine hK _ ?_; clear hK K) | (apply Exists.intro; refine ⟨fun _ => ?_, hK _ ?_⟩; fail; clear hK K))
        (refine wpX_step (by rfl) (fun K hK => ?_); rw [if_pos (by rfl)]; refine ⟨_, fun u => const_loadm _ (.tmp 16) (by rfl) _ _ (by rfl) aggH l1 (rangeAt.ext R1.out u), hK _ ?_⟩; clear hK K; simp only [Act.put, List.setIfInBounds_toArray, List.set_cons_zero, List.set_cons_succ])
        iterate 3 (refine wpX_step (by rfl) (fun K hK => ?_); go_simp; first | (refine hK _ ?_; clear hK K) | (apply Exists.intro; refine ⟨fun _ => ?_, hK _ ?_⟩; fail; clear hK K))
        (refine wpX_step (by rfl) (fun K hK => ?_); rw [if_pos (by rfl)]; refine ⟨_, fun u => const_loadm _ (.tmp 20) (by rfl) _ _ (by rfl) aggH l2 (rangeAt.ext R2.out u), hK _ ?_⟩; clear hK K; simp only [Act.put, List.setIfInBounds_toArray, List.set_cons_zero, List.set_cons_succ])
        refine wpX_nil ?_
        intro u2 hb2
        have hbel2 := Below.then hbel hb2
        change wpList _ _ _ [_, _] _ _
        have g1 := G1.out
        have q1 := Q1.out
        cases q with
        | true =>
          go_wp2
          have hxy := of_decide_eq_true Hq.out.symm
          have hk1 := Hnx.out k x Hx.out (by rw [hxy]; exact Hy.out) hks
          go_roundw
          case rel => exact ⟨k + 1, hk1, by go_num, hbel2⟩
          case measure => simp [intOf]; omega
        | false =>
          have hxy : ¬ k < s := fun h => of_decide_eq_false Hq.out.symm (Hny.out k x y Hx.out Hy.out h)
          obtain rfl : k = s := by omega
          go_wp2
          go_ret
          exact ⟨rfl, hbel2⟩
      · have hki : ¬ ((k : Int) < (n : Int) ∧ (k : Int) < (m : Int)) := by omega
        obtain rfl : k = s := by omega
        have hkk : ¬ k < m ∨ ¬ k < n := by omega
        first
          | (have hk9 : ¬ k < m := (by omega))
          | (have hk9 : ¬ k < n := (by omega))
        go_wp2
        refine wp_region_typed wr 16 (by kernel_rfl) (by kernel_rfl) (Below.refl _ _) ?_; simp only [List.take_succ_cons, List.take_zero, List.take_nil]
        iterate 16 (refine wpX_step (by rfl) (fun K hK => ?_); go_simp; first | (refine hK _ ?_; clear hK K) | (apply Exists.intro; refine ⟨fun _ => ?_, hK _ ?_⟩; fail; clear hK K))
        refine wpX_nil ?_
        intro u2 hb2
        have hbel2 := Below.then hbel hb2
        change wpList _ _ _ [_, _] _ _
        go_wp2
        go_ret
        exact ⟨rfl, hbel2⟩
end Go.Proofs.Ytfedjbodcebdnaa
