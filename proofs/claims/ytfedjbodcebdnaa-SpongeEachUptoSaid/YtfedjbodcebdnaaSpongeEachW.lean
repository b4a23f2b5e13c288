/- The walk of the law SpongeEach. -/
import Derived.Test.YtfedjbodcebdnaaSeach3
import Derived.Test.YtfedjbodcebdnaaSeach4
set_option linter.unusedSimpArgs false
set_option linter.unusedVariables false
namespace Go.Proofs.Ytfedjbodcebdnaa
open Go.RowKit
set_option maxHeartbeats 400000 in
set_option maxRecDepth 100000 in
theorem spongeEach_walk (a : Option Addr) (n c : Nat) (ps : List (Value × List UInt8)) (hn : ps.length = n) (w : World) (h : Texts w (.slice a n c) ps) (hM : (ps.flatMap (·.2)).length ≤ 1048576) (hN : n ≤ 1048576) :
    Calls Try.prog 8 #[.slice a n c] w fun e w' => e = .returned (.bool true) ∧ Below w.heap.size w w' := by
  have hM' : (cat ps n).length ≤ 1048576 := by unfold cat; rw [← hn, List.take_length]; exact hM
  have c1 := fun w h => each_all a n c ps hn w h hM' hN
  have c2 := fun w h => seach_all a n c ps hn w h hM' hN
  have htl : (tops ps n).length = n := tops_len ps n
  unfold EachPost at c1 c2
  rw [hn] at c1 c2
  have C1 := Lib.hid c1
  have C2 := Lib.hid c2
  have Htl := Lib.hid htl
  clear c1 c2 htl hn hM hM'
  go_enter Try.func8, Try.ntmps8
  go_wp2_with (first
    | (go_at_call 29; refine (C1.out _ h).mono ?_; rintro e w1 ⟨v1, rfl, o1, b1⟩; obtain ⟨a1, c1, rfl, _⟩ := o1.form' n Htl.out)
    | (go_at_call 30; refine (C2.out _ (h.below b1)).mono ?_; rintro e w2 ⟨v2, rfl, o2, b2⟩; obtain ⟨a2, c2, rfl, _⟩ := o2.form' n Htl.out; have b12 := Below.then b1 b2)
    | (go_at_call 28; refine (equalH_any a1 a2 n c1 c2 _ Htl.out _ (o1.row.kept b2) o2.row).mono ?_; rintro e w3 ⟨rfl, b3⟩; have b123 := Below.then b12 b3))
  go_ret
  exact ⟨rfl, b123⟩
end Go.Proofs.Ytfedjbodcebdnaa
