/- The reference's SameHeaders. -/
import Derived.Test.YtfedjbodcebdnaaChain1
set_option linter.unusedSimpArgs false
set_option linter.unusedVariables false
namespace Go.Proofs.Ytfedjbodcebdnaa
open Go.RowKit
theorem take_next {ls ms : List Hdr} {k : Nat} (h : ls.take k = ms.take k) (he : ls[k]? = ms[k]?) : ls.take (k + 1) = ms.take (k + 1) := by
  rw [List.take_add_one, List.take_add_one, h, he]
theorem at_len {ls : List Hdr} {k : Nat} {x : Hdr} (h : ls[k]? = some x) : k < ls.length := (List.getElem?_eq_some_iff.1 h).1
theorem RowOf.ats {w : World} {a : Option Addr} {n c : Nat} {l : List Hdr} (h : RowOf hdc 204 w (.slice a n c) l) {k : Nat} {x : Hdr} (hk : l[k]? = some x) : ∃ b off, a = some ⟨b, off, none⟩ ∧ w.rangeAt b (off + k * 204) (hdc x) := by
  obtain ⟨h1, h2⟩ := List.getElem?_eq_some_iff.1 hk
  rw [← h2]
  exact RowOf.range hdc_len h k h1
set_option maxHeartbeats 1000000 in
set_option maxRecDepth 100000 in
theorem same_any (a b : Option Addr) (n m c d : Nat) (ls ms : List Hdr) (hn : ls.length = n) (hm : ms.length = m) (w : World) (h1 : RowOf hdc 204 w (.slice a n c) ls) (h2 : RowOf hdc 204 w (.slice b m d) ms) :
    Calls Try.prog 17 #[.slice a n c, .slice b m d] w fun e w' => e = .returned (.bool (decide (ls = ms))) ∧ Below w.heap.size w w' := by
  by_cases hnm : n = m
  · have Hn := Lib.hid hn
    have Hm := Lib.hid hm
    have hsm := h1.small
    unfold maxLen at hsm
    rw [hn] at hsm
    subst hnm
    clear hn hm
    go_enter Try.func17, Try.ntmps17
    go_wp2
    go_loopw [13] (fun ix wr => ∃ k : Nat, k ≤ n ∧ ix = .int .i64 (k : Int) ∧ Hid (ls.take k = ms.take k) ∧ Below w.heap.size w wr) (fun ix _ => n - (intOf ix).toNat)
    case atStart => exact ⟨0, by omega, rfl, Lib.hid (by simp), Below.refl _ _⟩
    case round =>
      obtain ⟨k, hk, rfl, Ht, hbel⟩ := hrel
      by_cases hlt : k < n
      · have hki : (k : Int) < (n : Int) := by omega
        obtain ⟨x, hx⟩ : ∃ x, ls[k]? = some x := ⟨_, List.getElem?_eq_getElem (by rw [Hn.out]; exact hlt)⟩
        obtain ⟨y, hy⟩ : ∃ y, ms[k]? = some y := ⟨_, List.getElem?_eq_getElem (by rw [Hm.out]; exact hlt)⟩
        have l1 := hdc_len x
        have l2 := hdc_len y
        have g1 := guard_neH x y
        have q1 := run_neH x y
        obtain ⟨b1, o1, rfl, hr1⟩ := RowOf.ats (h1.below hbel) hx
        obtain ⟨b2, o2, rfl, hr2⟩ := RowOf.ats (h2.below hbel) hy
        obtain ⟨q, hq⟩ : ∃ q, q = decide (x = y) := ⟨_, rfl⟩
        rw [← hq] at q1
        have Hx := Lib.hid hx
        have Hy := Lib.hid hy
        have Hq := Lib.hid hq
        clear hq hx hy
        generalize hdc x = C at *
        generalize hdc y = D at *
        have G1 := Lib.hid g1
        have Q1 := Lib.hid q1
        have R1 := Lib.hid hr1
        have R2 := Lib.hid hr2
        clear g1 q1 hr1 hr2
        go_wp2
        refine wp_region_typed wr 8 (by kernel_rfl) (by kernel_rfl) (Below.refl _ _) ?_; simp only [List.take_succ_cons, List.take_zero, List.take_nil]
        iterate 3 (refine wpX_step (by rfl) (fun K hK => ?_); go_simp; first | (refine hK _ ?_; clear hK K) | (apply Exists.intro; refine ⟨fun _ => ?_, hK _ ?_⟩; fail; clear hK K))
        (refine wpX_step (by rfl) (fun K hK => ?_); rw [if_pos (by rfl)]; refine ⟨_, fun u => const_loadm _ (.tmp 18) (by rfl) _ _ (by rfl) aggH l1 (rangeAt.ext R1.out u), hK _ ?_⟩; clear hK K; simp only [Act.put, List.setIfInBounds_toArray, List.set_cons_zero, List.set_cons_succ])
        iterate 3 (refine wpX_step (by rfl) (fun K hK => ?_); go_simp; first | (refine hK _ ?_; clear hK K) | (apply Exists.intro; refine ⟨fun _ => ?_, hK _ ?_⟩; fail; clear hK K))
        (refine wpX_step (by rfl) (fun K hK => ?_); rw [if_pos (by rfl)]; refine ⟨_, fun u => const_loadm _ (.tmp 22) (by rfl) _ _ (by rfl) aggH l2 (rangeAt.ext R2.out u), hK _ ?_⟩; clear hK K; simp only [Act.put, List.setIfInBounds_toArray, List.set_cons_zero, List.set_cons_succ])
        refine wpX_nil ?_
        intro u2 hb2
        have hbel2 := Below.then hbel hb2
        change wpList _ _ _ [_] _ _
        have g1 := G1.out
        have q1 := Q1.out
        cases q with
        | true =>
          go_wp2
          go_roundw
          case rel => exact ⟨k + 1, by omega, by go_num, Lib.hid (take_next Ht.out (by rw [Hx.out, Hy.out, of_decide_eq_true Hq.out.symm])), hbel2⟩
          case measure => simp [intOf]; omega
        | false =>
          go_wp2
          go_ret
          refine ⟨?_, hbel2⟩
          rw [decide_eq_false (fun e => of_decide_eq_false Hq.out.symm (by have := Hx.out; rw [e, Hy.out] at this; exact (Option.some.inj this).symm))]; rfl
      · obtain rfl : k = n := by omega
        go_wp2
        go_ret
        refine ⟨?_, hbel⟩
        have := Ht.out
        rw [List.take_of_length_le (by rw [Hn.out]; omega), List.take_of_length_le (by rw [Hm.out]; omega)] at this
        rw [decide_eq_true this]; rfl
  · have hne : decide (ls = ms) = false := decide_eq_false (fun e => hnm (by rw [← hn, ← hm, e]))
    rw [hne]
    have hs1 := h1.small
    have hs2 := h2.small
    unfold maxLen at hs1 hs2
    have hni : ((n : Int) == (m : Int)) = false := by simpa using (by omega : ¬ (n : Int) = (m : Int))
    clear hn hm h1 h2 hne
    go_enter Try.func17, Try.ntmps17
    go_wp2
    go_ret
    exact ⟨rfl, Below.refl _ _⟩
end Go.Proofs.Ytfedjbodcebdnaa
