/- slices.Reverse at headers: the library's contract, laid here. -/
import Derived.Test.YtfedjbodcebdnaaChain5
import Derived.Shelf.SlGeneric
import Derived.Shelf.SlicesQ.Reverse
import Derived.Ground.SlgnProg
set_option linter.unusedSimpArgs false
set_option linter.unusedVariables false
namespace Go.Proofs.Ytfedjbodcebdnaa
open Go.RowKit Go.Shelf Go.Lib Go.Sort
shelf_lay_g SlLaysE0.n35 Slgn 35 at Try 53 as Try.reverseH
theorem holdsH [Inhabited Hdr] {w : World} {B g n c : Nat} {ls : List Hdr} (h : OwnOf hdc 204 33 w B (.slice (some ⟨g, 0, none⟩) n c) ls) : HoldsK hdc 204 w g 0 ls.toArray := by
  obtain ⟨h1, h2⟩ := h
  rcases h2 with ⟨h2, h3⟩ | ⟨g', cap, cur, h2, h3, h4, h5, h6, h7, h8⟩
  · cases h2
  · simp only [Value.slice.injEq, Option.some.injEq, Addr.mk.injEq, and_true] at h2
    obtain ⟨rfl, rfl, rfl⟩ := h2
    intro j hj
    rw [size_flatK, List.size_toArray] at hj
    rw [get_flatK hdc 204 _ j (by simpa using hj)]
    have hi : j / 204 < ls.length := (Nat.div_lt_iff_lt_mul (by omega)).2 hj
    have hr : j % 204 < 204 := Nat.mod_lt _ (by omega)
    have hf := flat_get hdc_len ls (j / 204) hi (j % 204) hr
    rw [show j / 204 * 204 + j % 204 = j by omega, ← h8, List.getElem?_take, if_pos hj] at hf
    refine ⟨?_, frozen_of_row w g (0 + j) cur _ h4⟩
    rw [cell_of_row w g (0 + j) cur _ (0, 0) h4, Nat.zero_add]
    rw [Array.getElem?_toList] at hf
    rw [hf, getElem!_pos ls.toArray (j / 204) (by simpa using hi), List.getElem_toArray, List.getElem?_eq_getElem (by rw [hdc_len]; exact hr), getElem!_pos (hdc ls[j / 204]) (j % 204) (by rw [hdc_len]; exact hr)]
    rfl
theorem rowH [Inhabited Hdr] {w : World} {g n c : Nat} {ls : List Hdr} (h : HoldsK hdc 204 w g 0 ls.toArray) (hn : ls.length = n) (hnc : n ≤ c) (hm : c ≤ maxLen) : RowOf hdc 204 w (.slice (some ⟨g, 0, none⟩) n c) ls := by
  subst hn
  refine ⟨flat_len hdc_len ls, _, _, rfl, hnc, hm, Or.inr ⟨g, 0, none, rfl, .inl rfl, fun j u hu => ?_⟩⟩
  have hj := (List.getElem?_eq_some_iff.1 hu).1
  rw [flat_len hdc_len] at hj
  have hi : j / 204 < ls.length := (Nat.div_lt_iff_lt_mul (by omega)).2 hj
  have hr : j % 204 < 204 := Nat.mod_lt _ (by omega)
  have hf := flat_get hdc_len ls (j / 204) hi (j % 204) hr
  rw [show j / 204 * 204 + j % 204 = j by omega, hu] at hf
  have hc := (h.cell (i := j / 204) (c := j % 204) (by simpa using hi) hr).1
  rw [show 0 + j / 204 * 204 + j % 204 = 0 + j by omega] at hc
  rw [hc, getElem!_pos ls.toArray (j / 204) (by simpa using hi), List.getElem_toArray, getElem!_pos (hdc ls[j / 204]) (j % 204) (by rw [hdc_len]; exact hr)]
  rw [List.getElem?_eq_getElem (by rw [hdc_len]; exact hr)] at hf
  exact hf.symm
theorem below_putRow {B : Nat} {w0 w : World} (h : Below B w0 w) (g m : Nat) (hg : B ≤ g) (F : Array Value) : Below B w0 (putRow id (Sort.ahead w m) g 0 F) := by
  refine ⟨h.os, h.tape, h.output, by rw [size_putRow]; exact h.size, fun k hk => ?_⟩
  rw [← h.block k hk]
  unfold putRow mapBlock
  simp only [Array.getElem?_modify, heap_ahead]
  rw [if_neg (by omega)]
set_option maxRecDepth 100000 in
theorem hrev_any (a : Option Addr) (n c B : Nat) (ls : List Hdr) (hn : ls.length = n) (w : World) (h : OwnOf hdc 204 33 w B (.slice a n c) ls) :
    Calls Try.prog 53 #[.slice a n c] w fun e w' => e = .returned (.tuple #[]) ∧ RowOf hdc 204 w' (.slice a n c) ls.reverse ∧ ∀ w0, Below B w0 w → Below B w0 w' := by
  cases ls with
  | nil =>
    obtain rfl : n = 0 := hn.symm
    have hcon := AnyQ.slices_Reverse_empty Try.reverseH a c w
    refine Calls.mono hcon ?_
    rintro e w' ⟨rfl, rfl⟩
    exact ⟨rfl, h.row, fun w0 h0 => h0⟩
  | cons x xs =>
    have hsm := h.row.small
    have hr := h.row.fits
    haveI : Inhabited Hdr := ⟨x⟩
    have h' := h
    obtain ⟨_, h2⟩ := h'
    rcases h2 with ⟨h2, h3⟩ | ⟨g, cap, cur, h2, h3, h4, h5, h6, h7, h8⟩
    · simp at h3
    · simp only [Value.slice.injEq] at h2
      obtain ⟨rfl, _, rfl⟩ := h2
      have hH := holdsH h
      have hcon := AnyQ.slices_Reverse Try.reverseH 204 Try.isAgg33 Try.sizeOf33 hdc hdc_len (fun x v hv => elHdr.h1 x v hv) g 0 c (x :: xs).toArray w hH (by simpa [maxLen] using hsm)
      rw [List.size_toArray, hn] at hcon
      refine Calls.mono hcon ?_
      rintro e w' ⟨rfl, m, rfl⟩
      refine ⟨rfl, ?_, fun w0 h0 => below_putRow h0 g m h3 _⟩
      have h9 := holdsK_putRowK (enc := hdc) (k := 204) (Sort.ahead w m) g 0 (x :: xs).toArray (x :: xs).toArray.reverse (holdsK_ahead hdc 204 w m g 0 _ hH) (by simp)
      have e9 : (x :: xs).toArray.reverse = ((x :: xs).reverse).toArray := by simp
      rw [e9] at h9 ⊢
      exact rowH h9 (by rw [List.length_reverse]; exact hn) hr.2.1 hr.2.2
end Go.Proofs.Ytfedjbodcebdnaa
