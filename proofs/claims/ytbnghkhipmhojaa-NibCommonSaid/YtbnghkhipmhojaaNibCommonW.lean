/- The walk of the law NibCommon. -/
import Derived.Test.YtbnghkhipmhojaaNib1
namespace Go.Proofs.Ytbnghkhipmhojaa
open Go.RowKit
theorem below_drewN (w : World) (m : Nat) : Below w.heap.size w (w.drewN m) := ⟨rfl, rfl, rfl, Nat.le_refl _, fun _ _ => rfl⟩
set_option maxHeartbeats 400000 in
theorem nibCommon_walk (a b : Option Addr) (c d : Nat) (p q : List UInt8) (w : World) (hp : Bytes w (.slice a p.length c) p) (hq : Bytes w (.slice b q.length d) q) :
    Calls Try.prog 4 #[.slice a p.length c, .slice b q.length d] w fun e w' => e = .returned (.bool true) ∧ Below w.heap.size w w' := by
  go_enter Try.func4, Try.ntmps4
  go_wp2_with (first
    | (go_at_call 17; refine (common_any a b c d p q _ (by exact hp) (by exact hq)).mono ?_; rintro e w1 ⟨rfl, m1, rfl⟩)
    | (go_at_call 18; refine (ncommon_any p q a b c d _ (by exact hp) (by exact hq)).mono ?_; rintro e w2 ⟨rfl, m2, rfl⟩))
  go_ret
  exact ⟨ret_bool (by simp), by first | exact below_drewN _ _ | (rw [World.drewN_drewN]; exact below_drewN _ _)⟩
end Go.Proofs.Ytbnghkhipmhojaa
