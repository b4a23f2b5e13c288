/- pack.Text, pack.List and the reference's. -/
import Derived.Test.YtohenjgegkgncaaEnc2
import Derived.Test.YtohenjgegkgncaaApp
set_option linter.unusedSimpArgs false
set_option linter.unusedVariables false
namespace Go.Proofs.Ytohenjgegkgncaa
open Go.RowKit
theorem elItem : El0 Try.prog 23 25 (.agg #[.bool false, .slice none 0 0, .slice none 0 0]) 3 56 icells := ⟨by kernel_rfl, by kernel_rfl, rfl, by omega, icells_len⟩
set_option maxRecDepth 100000 in
theorem text_any (a : Option Addr) (n c : Nat) (w : World) : Calls Try.prog 84 #[.slice a n c] w fun e w' => e = .returned (.agg #[.bool false, .slice a n c, .slice none 0 0]) ∧ Below w.heap.size w w' := by
  have hb := Blk.new w 25 [.bool false, .slice a n c, .slice none 0 0]
  have hbel : Below w.heap.size w (w.alloc (.cells #[.bool false, .slice a n c, .slice none 0 0] 25)) := (Below.refl _ _).alloc (Nat.le_refl _) _
  go_enter Try.func84, Try.ntmps84
  go_wp2
  exact bodyPost_ret (results_blk rfl _ _ w.heap.size aggItem hb rfl rfl) rfl ⟨rfl, hbel⟩
set_option maxRecDepth 100000 in
theorem ptext_any (a : Option Addr) (n c : Nat) (w : World) : Calls Try.prog 74 #[.slice a n c] w fun e w' => e = .returned (.agg #[.bool false, .slice a n c, .slice none 0 0]) ∧ Below w.heap.size w w' := by
  have hb := Blk.new w 25 [.bool false, .slice a n c, .slice none 0 0]
  have hbel : Below w.heap.size w (w.alloc (.cells #[.bool false, .slice a n c, .slice none 0 0] 25)) := (Below.refl _ _).alloc (Nat.le_refl _) _
  go_enter Try.func74, Try.ntmps74
  go_wp2
  exact bodyPost_ret (results_blk rfl _ _ w.heap.size aggItem hb rfl rfl) rfl ⟨rfl, hbel⟩
set_option maxRecDepth 100000 in
theorem list_any (a : Option Addr) (n c : Nat) (w : World) : Calls Try.prog 83 #[.slice a n c] w fun e w' => e = .returned (.agg #[.bool true, .slice none 0 0, .slice a n c]) ∧ Below w.heap.size w w' := by
  have hb := Blk.new w 25 [.bool true, .slice none 0 0, .slice a n c]
  have hbel : Below w.heap.size w (w.alloc (.cells #[.bool true, .slice none 0 0, .slice a n c] 25)) := (Below.refl _ _).alloc (Nat.le_refl _) _
  go_enter Try.func83, Try.ntmps83
  go_wp2
  exact bodyPost_ret (results_blk rfl _ _ w.heap.size aggItem hb rfl rfl) rfl ⟨rfl, hbel⟩
set_option maxRecDepth 100000 in
theorem plist_any (a : Option Addr) (n c : Nat) (w : World) : Calls Try.prog 75 #[.slice a n c] w fun e w' => e = .returned (.agg #[.bool true, .slice none 0 0, .slice a n c]) ∧ Below w.heap.size w w' := by
  have hb := Blk.new w 25 [.bool true, .slice none 0 0, .slice a n c]
  have hbel : Below w.heap.size w (w.alloc (.cells #[.bool true, .slice none 0 0, .slice a n c] 25)) := (Below.refl _ _).alloc (Nat.le_refl _) _
  go_enter Try.func75, Try.ntmps75
  go_wp2
  exact bodyPost_ret (results_blk rfl _ _ w.heap.size aggItem hb rfl rfl) rfl ⟨rfl, hbel⟩
end Go.Proofs.Ytohenjgegkgncaa
