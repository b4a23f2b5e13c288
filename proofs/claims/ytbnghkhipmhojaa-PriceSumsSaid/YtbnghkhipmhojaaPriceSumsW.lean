/- The walk of the law PriceSums. -/
import Derived.Test.YtbnghkhipmhojaaPrice1
namespace Go.Proofs.Ytbnghkhipmhojaa
open Go.RowKit
set_option maxHeartbeats 400000 in
theorem priceSums_walk (n left asked : Int) (a : Option Addr) (c : Nat) (l : List UInt8) (m : Bool) (w : World) (h0 : 0 ≤ n ∧ n ≤ 18446744073709551615) (h1 : 0 ≤ left ∧ left ≤ 18446744073709551615) (h2 : 0 ≤ asked ∧ asked ≤ 18446744073709551615)
    (h : Bytes w (.slice a l.length c) l) (hl : l.length ≤ 140737488355328) :
    Calls Try.prog 5 #[.int .u64 n, .int .u64 left, .int .u64 asked, .slice a l.length c, .bool m] w fun e w' => e = .returned (.bool true) ∧ Below w.heap.size w w' := by
  go_enter Try.func5, Try.ntmps5
  go_wp2_with (first
    | (go_at_call 19; refine (words_any n h0 _).mono ?_; rintro e w1 ⟨rfl, rfl⟩)
    | (go_at_call 20; refine (mwords_any n h0 _).mono ?_; rintro e w1 ⟨rfl, rfl⟩)
    | (go_at_call 21; refine (room_any left asked h1 h2 _).mono ?_; rintro e w1 ⟨rfl, rfl⟩)
    | (go_at_call 22; refine (mroom_any left asked h1 h2 _).mono ?_; rintro e w1 ⟨rfl, rfl⟩)
    | (go_at_call 23; refine (intrinsic_any a c l m _ h hl).mono ?_; rintro e w1 ⟨rfl, rfl⟩)
    | (go_at_call 24; refine (mintrinsic_any a c l m _ h hl).mono ?_; rintro e w1 ⟨rfl, rfl⟩))
  all_goals go_ret
  all_goals exact ⟨rfl, Below.refl _ _⟩
end Go.Proofs.Ytbnghkhipmhojaa
