/- The reference's LNext and LLandings; slices.Equal of []int. -/
import Derived.Test.YtkgfijdodbkkgaaDoorCode2
set_option linter.unusedSimpArgs false
set_option linter.unusedVariables false
namespace Go.Proofs.YtkgfijdodbkkgaaDoor
open Go.RowKit
set_option maxHeartbeats 400000 in
set_option maxRecDepth 100000 in
theorem lnext_any (a : Option Addr) (c : Nat) (l : List UInt8) (pc : Int) (hpc : (Lit.int .i64 pc).wf = true) (w : World) (h : Bytes w (.slice a l.length c) l) (hl : l.length ≤ 140737488355328) :
    Calls Tryd.prog 15 #[.slice a l.length c, .int .i64 pc] w fun e w' => e = .returned (.int .i64 (nextI l pc)) ∧ w' = w := by
  have hb := bounds_i64 hpc
  by_cases h0 : pc < 0
  · have d0 : decide (pc < 0) = true := by rw [decide_eq_true_eq]; exact h0
    rw [next_out l pc (.inl h0)]
    go_enter Tryd.func15, Tryd.ntmps15
    go_wp2
    go_ret
    exact ⟨rfl, rfl⟩
  · have d0 : decide (pc < 0) = false := by rw [decide_eq_false_iff_not]; exact h0
    obtain ⟨k, rfl⟩ := Int.eq_ofNat_of_zero_le (by omega : 0 ≤ pc)
    by_cases h1 : l.length ≤ k
    · have d1 : decide (l.length ≤ k) = true := by rw [decide_eq_true_eq]; exact h1
      rw [next_out l _ (.inr (by omega))]
      go_enter Tryd.func15, Tryd.ntmps15
      go_wp2
      go_ret
      exact ⟨rfl, rfl⟩
    · have d1 : decide (l.length ≤ k) = false := by rw [decide_eq_false_iff_not]; exact h1
      have hlt : k < l.length := by omega
      rw [next_in l k hlt]
      obtain ⟨b, off, rfl, hc⟩ := h.at k hlt
      obtain ⟨x, hx⟩ : ∃ x, x = l[k] := ⟨_, rfl⟩
      rw [← hx] at hc ⊢
      have hp := push_le x
      have hki : (k : Int) < (l.length : Int) := by omega
      clear hx
      by_cases h2 : l.length < k + 1 + push x
      · have d2 : decide ((l.length : Int) - (k : Int) - 1 < (push x : Int)) = true := by rw [decide_eq_true_eq]; omega
        go_enter Tryd.func15, Tryd.ntmps15
        go_wp2_with (go_at_call 17; refine (lpush_any x _).mono ?_; rintro e w' ⟨rfl, rfl⟩)
        go_ret
        exact ⟨ret_int (by omega), rfl⟩
      · have d2 : decide ((l.length : Int) - (k : Int) - 1 < (push x : Int)) = false := by rw [decide_eq_false_iff_not]; omega
        go_enter Tryd.func15, Tryd.ntmps15
        go_wp2_with (go_at_call 17; refine (lpush_any x _).mono ?_; rintro e w' ⟨rfl, rfl⟩)
        go_ret
        exact ⟨ret_int (by omega), rfl⟩
theorem Ints.at {w : World} {a : Option Addr} {n c : Nat} {l : List Int} (h : RowOf bi64 1 w (.slice a n c) l) (k : Nat) (hk : k < l.length) :
    ∃ b off, a = some ⟨b, off, none⟩ ∧ w.cell? ⟨b, off + k, none⟩ = some (.int .i64 l[k]) := by
  obtain ⟨b, off, ha, hc⟩ := RowOf.cells (f := bi64) (size := 1) (fun _ => rfl) h k hk
  exact ⟨b, off, ha, by simpa using hc 0 _ rfl⟩
end Go.Proofs.YtkgfijdodbkkgaaDoor
