/- The walk of the law PriceOps. -/
import Derived.Test.YtikndlkfmjhgdaaDoorPriceO4
set_option linter.unusedSimpArgs false
set_option linter.unusedVariables false
namespace Go.Proofs.YtikndlkfmjhgdaaDoor
open Go.RowKit
set_option maxRecDepth 100000 in
theorem priceOps_walk (x : Nat) (hx : x < 256) (w : World) (ht : Lib.TabIs Tryd.prog w "strings.asciiSpace" .u8 Lib.asciiSpaceTab) (hm : MaxHas w) :
    Calls Tryd.prog 4 #[.int .u8 (x : Int)] w fun e w' => e = .returned (.bool true) ∧ Below w.heap.size w w' := by
  have c1 := op_any x hx w
  have c2 := fun (u : World) (hu : Below w.heap.size w u) => mop_any x hx u (ptab_below ht hu) (hm.below hu)
  rw [ln_nm x hx, ← op_mo x hx] at c2
  obtain ⟨L, hL⟩ : ∃ L, L = opP x := ⟨_, rfl⟩
  rw [← hL] at c1
  simp only [← hL] at c2
  have C1 := Lib.hid c1
  have C2 := Lib.hid c2
  clear c1 c2 hL ht hm
  go_enter Tryd.func4, Tryd.ntmps4
  go_wp2_with (first
    | (go_at_call 7; (with_reducible refine C1.out.mono ?_); rintro e w1 ⟨rfl, b1⟩)
    | (go_at_call 8; (with_reducible refine (C2.out _ b1).mono ?_); rintro e w2 ⟨rfl, b2⟩))
  go_ret
  exact ⟨rfl, Below.then b1 b2⟩
end Go.Proofs.YtikndlkfmjhgdaaDoor
