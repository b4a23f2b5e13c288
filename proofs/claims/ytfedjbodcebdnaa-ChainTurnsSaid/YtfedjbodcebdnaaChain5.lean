/- slices.Clone at headers. -/
import Derived.Test.YtfedjbodcebdnaaChain3
set_option linter.unusedSimpArgs false
set_option linter.unusedVariables false
namespace Go.Proofs.Ytfedjbodcebdnaa
open Go.RowKit
set_option maxHeartbeats 1000000 in
set_option maxRecDepth 100000 in
theorem hclone_any (a : Option Addr) (n c : Nat) (ls : List Hdr) (hn : ls.length = n) (w : World) (h : RowOf hdc 204 w (.slice a n c) ls) (hB : n * 232 ≤ 140737488355328) :
    Calls Try.prog 52 #[.slice a n c] w fun e w' => ∃ v, e = .returned v ∧ OwnOf hdc 204 33 w' w.heap.size v ls ∧ Below w.heap.size w w' := by
  have hsm := h.small
  cases a with
  | none =>
    have h0 : ls = [] ∧ n = 0 := by
      obtain ⟨_, _, _, hv, _, _, h3⟩ := h
      rcases h3 with ⟨h1, h2, h3⟩ | ⟨b, off, s, h1, h2, h3⟩
      · exact ⟨List.eq_nil_of_length_eq_zero (by omega), by omega⟩
      · simp only [Value.slice.injEq] at hv
        rw [← hv.1] at h1
        simp at h1
    obtain ⟨rfl, rfl⟩ := h0
    have he : ∀ w : World, (binOp .eql 22 (.slice none 0 c) (.slice none 0 0)).run Try.prog w = .ok (.bool true) w := fun _ => rfl
    go_enter Try.func52, Try.ntmps52
    go_wp2
    go_ret
    exact ⟨_, rfl, OwnOf.nil hdc 204 _ _ _, Below.refl _ _⟩
  | some p =>
    have Hn := Lib.hid hn
    have he : ∀ w : World, (binOp .eql 22 (.slice (some p) n c) (.slice none 0 0)).run Try.prog w = .ok (.bool false) w := fun _ => rfl
    go_enter Try.func52, Try.ntmps52
    go_wp2_with (refine wpList_appA (o := ⟨some 7, _, _, _, _, _⟩) (by rfl) (.tmp 5) (.tmp 6) 22 (by rfl) elHdr (by rfl) (OwnOf.empty hdc 204 33 w w.heap.size (Nat.le_refl _)) (by rfl) (h.alloc _) (by simp) (by simp [Hn.out]; omega) (by simp only [List.length_nil]; omega) ?_; intro v2 w2 hA2 hg2 hl2)
    go_ret
    refine ⟨_, rfl, hA2, ?_⟩
    exact ((Below.refl _ _).alloc (Nat.le_refl _) (.cells #[] 33)).grown hg2 (by simp) (fun j hj => OwnOf.lt (OwnOf.empty hdc 204 33 w w.heap.size (Nat.le_refl _)) j hj)
end Go.Proofs.Ytfedjbodcebdnaa
