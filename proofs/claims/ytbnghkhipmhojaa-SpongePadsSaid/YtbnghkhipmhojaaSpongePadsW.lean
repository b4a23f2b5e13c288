/- The walk of the law SpongePads. -/
import Derived.Test.YtbnghkhipmhojaaSponge1
import Derived.Deep.RegionWith
namespace Go.Proofs.Ytbnghkhipmhojaa
open Go.RowKit
set_option maxHeartbeats 400000 in
theorem spongePads_walk (a : Option Addr) (c : Nat) (l : List UInt8) (w : World) (h : Bytes w (.slice a l.length c) l) (hl : l.length + 64 ≤ 140737488355328) :
    Calls Try.prog 3 #[.slice a l.length c] w fun e w' => e = .returned (.bool true) ∧ Below w.heap.size w w' := by
  have hcv : ∀ (w1 : World) (v : Value), Bytes w1 v (padL l) → (convert 22 9 v).run Try.prog w1 = .ok (str (padL l)) w1 :=
    fun w1 v h1 => run_str elU8.ht (by kernel_rfl) (by kernel_rfl) h1
  go_enter Try.func3, Try.ntmps3
  go_wp2
  go_region_with (first
    | (go_at_call 15; refine (pad_any a c l _ (by exact h) hl).mono ?_; rintro e w1 ⟨v1, rfl, h1, b1⟩; have c1 := hcv w1 v1 h1)
    | (go_at_call 16; refine (spad_any a c l _ (by exact RowOf.kept (w := w.drew) h b1) hl).mono ?_; rintro e w2 ⟨v2, rfl, h2, b2⟩; have c2 := hcv w2 v2 h2; have c3 := hcv w2 v1 (RowOf.kept h1 b2)))
  all_goals go_wp2
  all_goals go_ret
  all_goals exact ⟨rfl, Below.then (undrew b1) b2⟩
end Go.Proofs.Ytbnghkhipmhojaa
