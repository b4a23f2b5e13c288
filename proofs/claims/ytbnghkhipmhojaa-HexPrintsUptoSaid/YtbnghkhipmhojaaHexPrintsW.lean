/- The walk of the law HexPrints. -/
import Derived.Test.YtbnghkhipmhojaaHex6
namespace Go.Proofs.Ytbnghkhipmhojaa
open Go.RowKit
set_option maxHeartbeats 400000 in
set_option maxRecDepth 100000 in
theorem hexPrints_walk (a : Option Addr) (c : Nat) (l : List UInt8) (s : ByteArray) (w : World) (h : Bytes w (.slice a l.length c) l) (hl : 2 * l.length + 2 ≤ 140737488355328) (hs : s.size ≤ 140737488351232) :
    Calls Try.prog 14 #[.slice a l.length c, .string s] w fun e w' => e = .returned (.bool true) ∧ Below w.heap.size w w' := by
  have c1 := fun w1 => parse_any s hs w1
  have c2 := fun w1 => xparse_any s hs w1
  have c3 := fun w1 h => print_any a c l w1 h hl
  have c4 := fun w1 h => xprint_any a c l w1 h hl
  generalize parseR s.data.toList = R at c1 c2
  generalize parseE s.data.toList = E at c1 c2
  generalize printL l = T at c3 c4
  have C1 := Lib.hid c1
  have C2 := Lib.hid c2
  have C3 := Lib.hid c3
  have C4 := Lib.hid c4
  clear c1 c2 c3 c4
  go_enter Try.func14, Try.ntmps14
  go_wp2_with (first
    | (go_at_call 63; refine (C1.out _).mono ?_; rintro e w1 ⟨v1, rfl, h1, b1⟩)
    | (go_at_call 64; refine (C2.out _).mono ?_; rintro e w2 ⟨v2, rfl, h2, b2⟩; have b12 := Below.then b1 b2; have r1 := RowOf.kept h1.row b2)
    | (go_at_call 65; refine (C3.out _ (h.below b12)).mono ?_; rintro e w3 ⟨rfl, b3⟩; have b13 := Below.then b12 b3; have r3 := RowOf.kept r1 b3; have q3 := RowOf.kept h2.row b3)
    | (go_at_call 66; refine (C4.out _ (h.below b13)).mono ?_; rintro e w4 ⟨rfl, b4⟩; have b14 := Below.then b13 b4; have hc1 := run_str (P := Try.prog) (src := 22) (dst := 9) elU8.ht (by kernel_rfl) (by kernel_rfl) (RowOf.kept r3 b4); have hc2 := run_str (P := Try.prog) (src := 22) (dst := 9) elU8.ht (by kernel_rfl) (by kernel_rfl) (RowOf.kept q3 b4)))
  go_ret
  exact ⟨rfl, b14⟩
end Go.Proofs.Ytbnghkhipmhojaa
