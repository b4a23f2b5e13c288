/- tree.Right: halves, ends, right, rightFork. -/
import Derived.Test.YtnhbfnegpjkojaaNode1
set_option linter.unusedSimpArgs false
set_option linter.unusedVariables false
namespace Go.Proofs.Ytnhbfnegpjkojaa
open Go.RowKit
theorem Ext.nd {w : World} (u : Ext w) {k : Nd} (h : IsNd w k) : IsNd u.val k := h.kept u.property
theorem half_step (l : List UInt8) (k : Nat) (hk : k < l.length) : half (l.take (k + 1)) = (half (l.take k) && decide (l[k].toNat ≤ 15)) := by
  unfold half
  rw [List.take_succ_eq_append_getElem hk, List.all_append]
  simp
theorem half_not {l : List UInt8} {k : Nat} (hk : k < l.length) (h : ¬ l[k].toNat ≤ 15) : half l = false := by
  unfold half
  rw [List.all_eq_false]
  exact ⟨l[k], List.getElem_mem hk, by simpa using h⟩
set_option maxHeartbeats 1000000 in
set_option maxRecDepth 100000 in
theorem tree_halves_any (a : Option Addr) (n c : Nat) (l : List UInt8) (hn : l.length = n) (w : World) (h : Bytes w (.slice a n c) l) : Calls Try.prog 160 #[.slice a n c] w fun e w' => e = .returned (.bool (half l)) ∧ Below w.heap.size w w' := by
  obtain ⟨R, hR⟩ : ∃ R, R = half l := ⟨_, rfl⟩
  rw [← hR]
  have Hn := Lib.hid hn
  have HR := Lib.hid hR
  have hnn : n ≤ 9223372036854775807 := by have h1 := h.fits.2.1; have h2 := h.fits.2.2; unfold maxLen at h2; omega
  clear hn hR
  go_enter Try.func160, Try.ntmps160
  go_wp2
  go_loopw [7] (fun ix wr => ∃ k : Nat, k ≤ n ∧ ix = .int .i64 (k : Int) ∧ half (l.take k) = true ∧ Below w.heap.size w wr) (fun ix _ => n - (intOf ix).toNat)
  case atStart => exact ⟨0, by omega, rfl, rfl, Below.refl _ _⟩
  case round =>
    obtain ⟨k, hkk, rfl, hall, hbel⟩ := hrel
    by_cases hlt : k < n
    · have hki : (k : Int) < (n : Int) := by omega
      have hkl : k < l.length := by rw [Hn.out]; exact hlt
      obtain ⟨b, off, rfl, hc⟩ := Bytes.at (h.below hbel) k hkl
      obtain ⟨x, hx⟩ : ∃ x, x = l[k] := ⟨_, rfl⟩
      rw [← hx] at hc
      have hst := half_step l k hkl
      rw [hall, ← hx, Bool.true_and] at hst
      have Hx := Lib.hid hx
      by_cases h15 : x.toNat ≤ 15
      · have hi15 : (x.toNat : Int) ≤ 15 := by omega
        rw [decide_eq_true h15] at hst
        clear hx hall
        go_wp2
        go_roundw
        case rel => exact ⟨k + 1, by omega, by go_num, hst, hbel⟩
        case measure => simp [intOf]; omega
      · have hi15 : (15 : Int) < (x.toNat : Int) := by omega
        have hRf : R = false := by rw [HR.out]; exact half_not hkl (by rw [← Hx.out]; exact h15)
        subst hRf
        clear hx hall hst
        go_wp2
        go_ret
        exact ⟨rfl, hbel⟩
    · obtain rfl : k = n := by omega
      have hRt : R = true := by rw [HR.out, ← hall, ← Hn.out, List.take_length]
      subst hRt
      go_wp2
      go_ret
      exact ⟨rfl, hbel⟩
set_option maxRecDepth 100000 in
theorem ends_any (d : Nat) (w : World) : Calls Try.prog 161 #[.int .i64 (d : Int)] w fun e w' => e = .returned (.bool (endsP d)) ∧ Below w.heap.size w w' := by
  have hm : (d : Int).tmod 2 = ((d % 2 : Nat) : Int) := by rw [Int.tmod_eq_emod_of_nonneg (by omega)]; omega
  by_cases h2 : d % 2 = 0
  · by_cases h64 : d ≤ 64
    · have hi : (d : Int) ≤ 64 := by omega
      have hR : endsP d = true := (endsP_iff d).2 ⟨h2, h64⟩
      rw [h2] at hm
      rw [hR]
      go_enter Try.func161, Try.ntmps161
      go_wp2
      go_ret
      exact ⟨rfl, Below.refl _ _⟩
    · have hi : ((d : Int) ≤ 64) = False := eq_false (by omega)
      have hR : endsP d = false := by rw [← Bool.not_eq_true, endsP_iff]; omega
      rw [h2] at hm
      rw [hR]
      go_enter Try.func161, Try.ntmps161
      go_wp2
      go_ret
      exact ⟨rfl, Below.refl _ _⟩
  · have h1 : d % 2 = 1 := by omega
    have hR : endsP d = false := by rw [← Bool.not_eq_true, endsP_iff]; omega
    rw [h1] at hm
    rw [hR]
    go_enter Try.func161, Try.ntmps161
    go_wp2
    go_ret
    exact ⟨rfl, Below.refl _ _⟩
end Go.Proofs.Ytnhbfnegpjkojaa
