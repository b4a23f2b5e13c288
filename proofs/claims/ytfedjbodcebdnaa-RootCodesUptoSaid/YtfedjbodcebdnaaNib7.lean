/- The reference's NTag; nib.Untag. -/
import Derived.Test.YtfedjbodcebdnaaNib6
set_option linter.unusedSimpArgs false
set_option linter.unusedVariables false
namespace Go.Proofs.Ytfedjbodcebdnaa
open Go.RowKit
set_option maxHeartbeats 400000 in
set_option maxRecDepth 100000 in
theorem ntag_any (a : Option Addr) (n c : Nat) (p : List UInt8) (leaf : Bool) (hn : p.length = n) (w : World) (h : Bytes w (.slice a n c) p) (hl : n + 2 ≤ 140737488355328) :
    Calls Try.prog 108 #[.slice a n c, .bool leaf] w fun e w' => ∃ v, e = .returned (.tuple #[v, .int .i64 (joinE (tagL p leaf))]) ∧ Bytes w' v (joinR (tagL p leaf)) ∧ Below w.heap.size w w' := by
  have Hn := Lib.hid hn
  rcases Nat.mod_two_eq_zero_or_one n with hm | hm
  · have ht : (n : Int) % 2 = 0 := by omega
    have hT := tagL_even (leaf := leaf) (show p.length % 2 = 0 by omega)
    obtain ⟨T, hTT⟩ : ∃ T, T = tagL p leaf := ⟨_, rfl⟩
    rw [← hTT] at hT ⊢
    have HT := Lib.hid hT
    clear hn hT hTT
    have own0 := fun (x : UInt8) (y : Int) (hy : (x.toNat : Int) = y) => (OwnOf.made b8 1 5 w w.heap.size [x, 0] #[.int .u8 y, .int .u8 0] 2 (by rw [← hy]; rfl) rfl rfl (Nat.le_refl _) (by decide))
    have o0 := own0 0 0 rfl
    have o2 := own0 2 2 rfl
    have b0 := fun y : Int => ((Below.refl w.heap.size w).alloc (Nat.le_refl _) (.cells #[.int .u8 y, .int .u8 0] 5))
    clear own0
    cases leaf
    all_goals
      go_enter Try.func108, Try.ntmps108
      go_wp2_with (first
        | (at_builtin; refine wpList_app (by rfl) (.tmp 26) (.tmp 27) 34 (by rfl) elU8 (by rfl) (by first | exact o0 | exact o2) (by rfl) (h.below (b0 _)) (b0 _) (by simp) (by have := Hn.out; simp; omega) (by have := Hn.out; simp [maxLen]; omega) ?_; intro v3 w3 hv3 hg3 _ hB3; obtain ⟨a3, c3, rfl, _⟩ := hv3.form' (2 + n) (by have := Hn.out; simp; omega))
        | (go_at_call 120; (with_reducible refine (njoin_l a3 (2 + n) c3 _ (by have := Hn.out; simp; omega) _ hv3.row (by omega)).mono ?_); rintro e w4 ⟨v4, rfl, h4, b4⟩; have hb4 := hg3.trans (b4.mono hB3)))
      go_ret2
      exact ⟨_, by rw [HT.out]; rfl, by rw [HT.out]; exact h4, hb4⟩
  · have ht : (n : Int) % 2 = 1 := by omega
    have hT := tagL_odd (leaf := leaf) (show p.length % 2 = 1 by omega)
    obtain ⟨T, hTT⟩ : ∃ T, T = tagL p leaf := ⟨_, rfl⟩
    rw [← hTT] at hT ⊢
    have HT := Lib.hid hT
    clear hn hT hTT
    have own0 := fun (x : UInt8) (y : Int) (hy : (x.toNat : Int) = y) => (OwnOf.made b8 1 5 w w.heap.size [x] #[.int .u8 y] 1 (by rw [← hy]; rfl) rfl rfl (Nat.le_refl _) (by decide))
    have o0 := own0 1 1 rfl
    have o2 := own0 3 3 rfl
    have b0 := fun y : Int => (Below.refl w.heap.size w).alloc (Nat.le_refl _) (.cells #[.int .u8 y] 5)
    clear own0
    cases leaf
    all_goals
      go_enter Try.func108, Try.ntmps108
      go_wp2_with (first
        | (at_builtin; refine wpList_app (by rfl) (.tmp 26) (.tmp 27) 34 (by rfl) elU8 (by rfl) (by first | exact o0 | exact o2) (by rfl) (h.below (b0 _)) (b0 _) (by simp) (by have := Hn.out; simp; omega) (by have := Hn.out; simp [maxLen]; omega) ?_; intro v3 w3 hv3 hg3 _ hB3; obtain ⟨a3, c3, rfl, _⟩ := hv3.form' (1 + n) (by have := Hn.out; simp; omega))
        | (go_at_call 120; (with_reducible refine (njoin_l a3 (1 + n) c3 _ (by have := Hn.out; simp; omega) _ hv3.row (by omega)).mono ?_); rintro e w4 ⟨v4, rfl, h4, b4⟩; have hb4 := hg3.trans (b4.mono hB3)))
      go_ret2
      exact ⟨_, by rw [HT.out]; rfl, by rw [HT.out]; exact h4, hb4⟩
theorem halves_l (a : Option Addr) (n c m : Nat) (l : List UInt8) (hn : l.length = n) (hm : m = 2 * n) (w : World) (h : Bytes w (.slice a n c) l) (hl : 2 * n ≤ 140737488355328) :
    Calls Try.prog 74 #[.slice a n c] w fun e w' => ∃ a' c', e = .returned (.slice a' m c') ∧ Bytes w' (.slice a' m c') (halvesL l) ∧ Below w.heap.size w w' := by
  subst hn; subst hm
  refine (halves_any a c l w h hl).mono ?_
  rintro e w' ⟨v, rfl, h2, h3⟩
  obtain ⟨a', c', rfl, _⟩ := h2.form' (2 * l.length) (halves_len l)
  exact ⟨a', c', rfl, h2.row, h3⟩
theorem nhalves_l (a : Option Addr) (n c m : Nat) (l : List UInt8) (hn : l.length = n) (hm : m = 2 * n) (w : World) (h : Bytes w (.slice a n c) l) (hl : 2 * n ≤ 140737488355328) :
    Calls Try.prog 75 #[.slice a n c] w fun e w' => ∃ a' c', e = .returned (.slice a' m c') ∧ Bytes w' (.slice a' m c') (halvesL l) ∧ Below w.heap.size w w' := by
  subst hn; subst hm
  refine (nhalves_any a c l w h hl).mono ?_
  rintro e w' ⟨v, rfl, h2, h3⟩
  obtain ⟨a', c', rfl, _⟩ := h2.form' (2 * l.length) (halves_len l)
  exact ⟨a', c', rfl, h2.row, h3⟩
theorem u8_four (x : UInt8) (h : ¬ 3 < x.toNat) : x = 0 ∨ x = 1 ∨ x = 2 ∨ x = 3 := by
  rcases (show x.toNat = 0 ∨ x.toNat = 1 ∨ x.toNat = 2 ∨ x.toNat = 3 from by omega) with h | h | h | h
  · exact .inl (UInt8.toNat_inj.1 h)
  · exact .inr (.inl (UInt8.toNat_inj.1 h))
  · exact .inr (.inr (.inl (UInt8.toNat_inj.1 h)))
  · exact .inr (.inr (.inr (UInt8.toNat_inj.1 h)))
theorem un_at (b : List UInt8) (x y : UInt8) (r : List UInt8) (h : halvesL b = x :: y :: r) (k : Nat) (leaf : Bool)
    (hk : k = if 3 < x.toNat then 0 else if x.toNat % 2 = 1 then 1 else if y.toNat = 0 then 2 else 0) (hf : leaf = (k != 0 && decide (2 ≤ x.toNat))) :
    unLeaf b = leaf ∧ unP b = (if k = 0 then [] else (halvesL b).drop k) ∧ unE b = (if k = 0 then 1 else 0) := by
  have h1 : unAt b = k := by rw [hk]; unfold unAt; rw [h]
  refine ⟨?_, by unfold unP; rw [h1], by unfold unE; rw [h1]⟩
  rw [hf]; unfold unLeaf; rw [h1, h]
end Go.Proofs.Ytfedjbodcebdnaa
