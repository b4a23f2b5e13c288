/- The reference's phead. -/
import Derived.Test.YtohenjgegkgncaaEnc3
set_option linter.unusedSimpArgs false
set_option linter.unusedVariables false
namespace Go.Proofs.Ytohenjgegkgncaa
open Go.RowKit
def baseOf (b : Bool) : Nat := if b = true then 192 else 128
set_option maxHeartbeats 1000000 in
set_option maxRecDepth 100000 in
theorem phead_any (n : Nat) (b : Bool) (hn : n ≤ 4611686018427387904) (w : World) :
    Calls Try.prog 137 #[.int .i64 (n : Int), .bool b] w fun e w' => e = .returned (str (headB (baseOf b) n)) ∧ Below w.heap.size w w' := by
  by_cases h48 : n < 48
  · have hni : (n : Int) < 48 := by omega
    have hH : headB (baseOf b) n = [UInt8.ofNat (baseOf b + n)] := by unfold headB; rw [if_pos h48]
    have hx : u8v (UInt8.ofNat (baseOf b + n)) = .int .u8 ((baseOf b : Int) + (n : Int)) := by
      unfold u8v baseOf
      rw [UInt8.toNat_ofNat', Nat.mod_eq_of_lt (by split <;> omega)]; simp
    obtain ⟨X, hX⟩ : ∃ X, X = UInt8.ofNat (baseOf b + n) := ⟨_, rfl⟩
    obtain ⟨xi, hxi⟩ : ∃ xi : Int, xi = (baseOf b : Int) + (n : Int) := ⟨_, rfl⟩
    rw [← hX] at hH hx
    rw [← hxi] at hx
    have hrow : Bytes (w.alloc (.cells #[.int .u8 xi] 5)) (.slice (some ⟨w.heap.size, 0, none⟩) 1 1) [X] :=
      OwnOf.row (OwnOf.made b8 1 5 w w.heap.size [X] #[.int .u8 xi] 1 (by rw [flat_b8, List.map_cons, hx]; rfl) rfl rfl (Nat.le_refl _) (by unfold maxLen; omega))
    have hc1 := run_str (P := Try.prog) (src := 22) (dst := 9) elU8.ht (by kernel_rfl) (by kernel_rfl) hrow
    have hbel1 : Below w.heap.size w (w.alloc (.cells #[.int .u8 xi] 5)) := (Below.refl _ _).alloc (Nat.le_refl _) _
    have HH := Lib.hid hH
    clear hH hx hX hrow
    cases b with
    | true =>
      have w1 : IntKind.i64.wrap (192 + (n : Int)) = 192 + (n : Int) := IntWalk.i64_in _ (by omega)
      have w2 : IntKind.u8.wrap (192 + (n : Int)) = xi := by rw [hxi]; exact IntWalk.u8_in _ (by omega)
      clear hxi
      go_enter Try.func137, Try.ntmps137
      go_wp2_with (refine wpList_build1 (o := ⟨some 14, _, _, _, _, _⟩) (by rfl) (.tmp 13) 22 (by rfl) elU8 (.int .u8 xi) [.int .u8 xi] (by rfl) (by rfl) rfl (by omega) ?_)
      go_ret
      exact ⟨by rw [HH.out]; rfl, hbel1⟩
    | false =>
      have w1 : IntKind.i64.wrap (128 + (n : Int)) = 128 + (n : Int) := IntWalk.i64_in _ (by omega)
      have w2 : IntKind.u8.wrap (128 + (n : Int)) = xi := by rw [hxi]; exact IntWalk.u8_in _ (by omega)
      clear hxi
      go_enter Try.func137, Try.ntmps137
      go_wp2_with (refine wpList_build1 (o := ⟨some 14, _, _, _, _, _⟩) (by rfl) (.tmp 13) 22 (by rfl) elU8 (.int .u8 xi) [.int .u8 xi] (by rfl) (by rfl) rfl (by omega) ?_)
      go_ret
      exact ⟨by rw [HH.out]; rfl, hbel1⟩
  · have hni : ¬ (n : Int) < 48 := by omega
    have hL8 := numB_8 n (by omega)
    have hL1 := numB_pos n (by omega) (by unfold W256; omega)
    have hH : headB (baseOf b) n = [UInt8.ofNat (baseOf b + 48 + ((numB n).length - 1))] ++ numB n := by unfold headB; rw [if_neg h48]; rfl
    have hx : u8v (UInt8.ofNat (baseOf b + 48 + ((numB n).length - 1))) = .int .u8 ((baseOf b : Int) + 47 + ((numB n).length : Int)) := by
      have hb : baseOf b ≤ 192 := by unfold baseOf; split <;> omega
      unfold u8v; rw [UInt8.toNat_ofNat', Nat.mod_eq_of_lt (by omega)]; congr 1; omega
    have cn := fun w => pnum_any n w
    have ci := fun w => wint_any n (by omega) w
    obtain ⟨B, hB⟩ : ∃ B, B = numB n := ⟨_, rfl⟩
    rw [← hB] at hL8 hL1 hH hx
    simp only [← hB] at cn
    obtain ⟨L, hL⟩ : ∃ L, L = B.length := ⟨_, rfl⟩
    rw [← hL] at hL8 hL1 hH hx
    obtain ⟨X, hX⟩ : ∃ X, X = UInt8.ofNat (baseOf b + 48 + (L - 1)) := ⟨_, rfl⟩
    rw [← hX] at hH hx
    obtain ⟨xi, hxi⟩ : ∃ xi : Int, xi = (baseOf b : Int) + 47 + (L : Int) := ⟨_, rfl⟩
    rw [← hxi] at hx
    have hBl : B.length ≤ 8 := by omega
    have eadd : Ending.returned (.string ((⟨#[X]⟩ : ByteArray) ++ ⟨B.toArray⟩)) = .returned (str ([X] ++ B)) := congrArg (fun x => Ending.returned (Value.string x)) (ByteArray.mk_append_mk [X] B)
    have Eadd := Lib.hid eadd
    clear eadd
    have crow : ∀ w2 : World, Bytes (w2.alloc (.cells #[.int .u8 xi] 5)) (.slice (some ⟨w2.heap.size, 0, none⟩) 1 1) [X] := fun w2 =>
      OwnOf.row (OwnOf.made b8 1 5 w2 w2.heap.size [X] #[.int .u8 xi] 1 (by rw [flat_b8, List.map_cons, hx]; rfl) rfl rfl (Nat.le_refl _) (by unfold maxLen; omega))
    have w0 : IntKind.u64.wrap (n : Int) = (n : Int) := IntWalk.u64_in _ (by omega)
    have HH := Lib.hid hH
    have HL := Lib.hid hL
    have Cn := Lib.hid cn
    have Ci := Lib.hid ci
    have Crow := Lib.hid crow
    clear hH hx hB hL hX cn ci crow
    cases b with
    | true =>
      have w1 : IntKind.i64.wrap ((192 : Int) + 47) = 239 := IntWalk.i64_in _ (by omega)
      have w2 : IntKind.i64.wrap (239 + (L : Int)) = 239 + (L : Int) := IntWalk.i64_in _ (by omega)
      have w3 : IntKind.u8.wrap (239 + (L : Int)) = xi := by rw [hxi]; exact IntWalk.u8_in _ (by omega)
      clear hxi
      go_enter Try.func137, Try.ntmps137
      go_wp2_with (first
        | (go_at_call 91; (with_reducible refine (Ci.out _).mono ?_); rintro e w1 ⟨rfl, b1⟩)
        | (go_at_call 90; (with_reducible refine (Cn.out _).mono ?_); rintro e w2 ⟨v, rfl, o2, b2⟩; have b12 := Below.then b1 b2; obtain ⟨a2, c2, rfl, _⟩ := o2.form' L HL.out.symm)
        | (refine wpList_build1 (o := ⟨some 26, _, _, _, _, _⟩) (by rfl) (.tmp 25) 22 (by rfl) elU8 (.int .u8 xi) [.int .u8 xi] (by rfl) (by rfl) rfl (by omega) ?_; have b4 := b12.alloc b12.size (.cells #[.int .u8 xi] 5); have hc1 := run_str (P := Try.prog) (src := 22) (dst := 9) elU8.ht (by kernel_rfl) (by kernel_rfl) (Crow.out w2); have hc2 := run_str (P := Try.prog) (src := 22) (dst := 9) elU8.ht (by kernel_rfl) (by kernel_rfl) (o2.alloc (.cells #[.int .u8 xi] 5))))
      go_ret
      exact ⟨by rw [HH.out]; exact Eadd.out, b4⟩
    | false =>
      have w1 : IntKind.i64.wrap ((128 : Int) + 47) = 175 := IntWalk.i64_in _ (by omega)
      have w2 : IntKind.i64.wrap (175 + (L : Int)) = 175 + (L : Int) := IntWalk.i64_in _ (by omega)
      have w3 : IntKind.u8.wrap (175 + (L : Int)) = xi := by rw [hxi]; exact IntWalk.u8_in _ (by omega)
      clear hxi
      go_enter Try.func137, Try.ntmps137
      go_wp2_with (first
        | (go_at_call 91; (with_reducible refine (Ci.out _).mono ?_); rintro e w1 ⟨rfl, b1⟩)
        | (go_at_call 90; (with_reducible refine (Cn.out _).mono ?_); rintro e w2 ⟨v, rfl, o2, b2⟩; have b12 := Below.then b1 b2; obtain ⟨a2, c2, rfl, _⟩ := o2.form' L HL.out.symm)
        | (refine wpList_build1 (o := ⟨some 26, _, _, _, _, _⟩) (by rfl) (.tmp 25) 22 (by rfl) elU8 (.int .u8 xi) [.int .u8 xi] (by rfl) (by rfl) rfl (by omega) ?_; have b4 := b12.alloc b12.size (.cells #[.int .u8 xi] 5); have hc1 := run_str (P := Try.prog) (src := 22) (dst := 9) elU8.ht (by kernel_rfl) (by kernel_rfl) (Crow.out w2); have hc2 := run_str (P := Try.prog) (src := 22) (dst := 9) elU8.ht (by kernel_rfl) (by kernel_rfl) (o2.alloc (.cells #[.int .u8 xi] 5))))
      go_ret
      exact ⟨by rw [HH.out]; exact Eadd.out, b4⟩
end Go.Proofs.Ytohenjgegkgncaa
