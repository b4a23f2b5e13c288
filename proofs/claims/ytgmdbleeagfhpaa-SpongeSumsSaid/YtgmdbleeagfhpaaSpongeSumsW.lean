/- The walk of the law SpongeSums. -/
import Derived.Test.YtgmdbleeagfhpaaSum5
import Derived.Test.YtgmdbleeagfhpaaEq
set_option linter.unusedSimpArgs false
set_option linter.unusedVariables false
namespace Go.Proofs.Ytgmdbleeagfhpaa
open Go.RowKit
theorem run_eq_agg (l : List UInt8) (hl : l.length = 32) (w1 : World) : (binOp .eql 43 (.agg (l.map u8v).toArray) (.agg (l.map u8v).toArray)).run Try.prog w1 = .ok (.bool true) w1 := by
  have h2 : (l.map fun x => (x.toNat : Int)).map (Value.int .u8) = l.map u8v := by rw [List.map_map]; rfl
  have := run_eqA (P := Try.prog) w1 Try.underlying43 Try.underlying5 (by kernel_rfl) (l.map fun x => (x.toNat : Int)) (l.map fun x => (x.toNat : Int)) (by rw [List.length_map, hl]) (by rw [List.length_map, hl])
  rw [h2, beq_self_eq_true] at this
  exact this
theorem guard_agg (l : List UInt8) (o1 o2 : Operand) (w1 : World) : (eqGuard .eql 43 o1 o2 (.agg (l.map u8v).toArray) (.agg (l.map u8v).toArray)).run Try.prog w1 = .ok () w1 := by
  exact run_eqGuard_agg (P := Try.prog) (w := w1) .eql 43 o1 o2 _ _ (by kernel_rfl)
set_option maxHeartbeats 400000 in
set_option maxRecDepth 100000 in
theorem spongeSums_walk (a : Option Addr) (n c : Nat) (l : List UInt8) (hn : l.length = n) (w : World) (h : Bytes w (.slice a n c) l) (hl : n + 64 ≤ 140737488355328) :
    Calls Try.prog 9 #[.slice a n c] w fun e w' => e = .returned (.bool true) ∧ Below w.heap.size w w' := by
  have Hn := Lib.hid hn
  have c1 := fun w h => sum_any a n c l hn w h
  have c2 := fun w h => ssum_any a n c l hn w h hl
  have q1 := run_eq_agg (sumB l) (by unfold sumB; rw [outB_len])
  have g1 := guard_agg (sumB l)
  generalize (Value.agg ((sumB l).map u8v).toArray) = X at *
  have C1 := Lib.hid c1
  have C2 := Lib.hid c2
  clear hn c1 c2
  go_enter Try.func9, Try.ntmps9
  go_wp2_with (first
    | (go_at_call 44; refine (C1.out _ h).mono ?_; rintro e w1 ⟨rfl, b1⟩)
    | (go_at_call 45; refine (C2.out _ (h.below b1)).mono ?_; rintro e w2 ⟨rfl, b2⟩; have b12 := Below.then b1 b2))
  go_ret
  exact ⟨rfl, b12⟩
end Go.Proofs.Ytgmdbleeagfhpaa
