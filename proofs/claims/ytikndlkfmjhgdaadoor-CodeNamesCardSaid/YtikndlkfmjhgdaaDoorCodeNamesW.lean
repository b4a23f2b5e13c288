/- The walk of the law CodeNames. -/
import Derived.Test.YtikndlkfmjhgdaaDoorCname4
set_option linter.unusedSimpArgs false
set_option linter.unusedVariables false
namespace Go.Proofs.YtikndlkfmjhgdaaDoor
open Go.RowKit
theorem tab_below {w w' : World} {zs : List Int} (h : Lib.TabIs Tryd.prog w "strings.asciiSpace" .u8 zs) (hb : Below w.heap.size w w') : Lib.TabIs Tryd.prog w' "strings.asciiSpace" .u8 zs := by
  have hgn : Tryd.prog.globalNamed "strings.asciiSpace" = some 0 := by kernel_rfl
  unfold Lib.TabIs World.var? at h ⊢
  rw [hgn] at h ⊢
  simp only [Option.bind_some] at h ⊢
  have hlt : 0 < w.heap.size := by
    rcases Nat.lt_or_ge 0 w.heap.size with h' | h'
    · exact h'
    · rw [Array.getElem?_eq_none h'] at h; cases h
  rw [hb.block 0 hlt]
  exact h
set_option maxRecDepth 100000 in
theorem codeNames_walk (x : Nat) (hx : x < 256) (w : World) (ht : Lib.TabIs Tryd.prog w "strings.asciiSpace" .u8 Lib.asciiSpaceTab) :
    Calls Tryd.prog 3 #[.int .u8 (x : Int)] w fun e w' => e = .returned (.bool true) ∧ Below w.heap.size w w' := by
  have c1 := name_any x hx w
  have c2 := fun (u : World) (hu : Below w.heap.size w u) => lname_any x hx u (tab_below ht hu)
  rw [ln_nm x hx] at c2
  obtain ⟨L, hL⟩ : ∃ L, L = nmP x := ⟨_, rfl⟩
  rw [← hL] at c1
  simp only [← hL] at c2
  have hbe : (L == L) = true := beq_self_eq_true L
  have C1 := Lib.hid c1
  have C2 := Lib.hid c2
  clear c1 c2 hL ht
  go_enter Tryd.func3, Tryd.ntmps3
  go_wp2_with (first
    | (go_at_call 5; (with_reducible refine C1.out.mono ?_); rintro e w1 ⟨rfl, b1⟩)
    | (go_at_call 6; (with_reducible refine (C2.out _ b1).mono ?_); rintro e w2 ⟨rfl, b2⟩))
  go_ret
  exact ⟨rfl, Below.then b1 b2⟩
end Go.Proofs.YtikndlkfmjhgdaaDoor
