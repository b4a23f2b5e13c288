/- bytes.Equal. -/
import Derived.Test.YtnhbfnegpjkojaaEncB
set_option linter.unusedSimpArgs false
set_option linter.unusedVariables false
namespace Go.Proofs.Ytnhbfnegpjkojaa
open Go.RowKit
set_option maxHeartbeats 1000000 in
theorem bequal_any (a a' : Option Addr) (n c n' c' : Nat) (l l' : List UInt8) (w : World) (h : Bytes w (.slice a n c) l) (h' : Bytes w (.slice a' n' c') l') : Calls Try.prog 85 #[.slice a n c, .slice a' n' c'] w fun e w' => e = .returned (.bool (l == l')) ∧ w' = w := by
  have c1 := run_str (P := Try.prog) (src := 22) (dst := 9) elU8.ht (by kernel_rfl) (by kernel_rfl) h
  have c2 := run_str (P := Try.prog) (src := 22) (dst := 9) elU8.ht (by kernel_rfl) (by kernel_rfl) h'
  clear h h'
  go_enter Try.func85, Try.ntmps85
  go_wp2_with fail
  go_ret
  exact ⟨rfl, rfl⟩
end Go.Proofs.Ytnhbfnegpjkojaa
