/- Items as data; the heads of what they are written as. -/
import Derived.Test.YtohenjgegkgncaaConv
import Derived.Test.YtohenjgegkgncaaPack2
set_option linter.unusedSimpArgs false
set_option linter.unusedVariables false
namespace Go.Proofs.Ytohenjgegkgncaa
open Go.RowKit
/-- the head of a text or a list -/
def headB (base n : Nat) : List UInt8 := if n < 48 then [UInt8.ofNat (base + n)] else UInt8.ofNat (base + 48 + ((numB n).length - 1)) :: numB n
theorem bare_split (l : List UInt8) : ∃ k, l = List.replicate k 0 ++ bare l := by
  induction l with
  | nil => exact ⟨0, rfl⟩
  | cons x l ih =>
    by_cases h : x = 0
    · obtain ⟨k, hk⟩ := ih
      refine ⟨k + 1, ?_⟩
      rw [h, bare_zero, List.replicate_succ, List.cons_append, ← hk]
    · exact ⟨0, by rw [bare_else x l h]; rfl⟩
theorem numL_bare (l : List UInt8) : numL (bare l) = numL l := by
  obtain ⟨k, hk⟩ := bare_split l
  rw [hk, numL_pad]
  rw [bare_pad, bare_same _ (bare_head l)]
theorem numL_ge (l : List UInt8) (h : l.head? ≠ some 0) (hl : l ≠ []) : 256 ^ (l.length - 1) ≤ numL l := by
  cases l with
  | nil => exact absurd rfl hl
  | cons x l =>
    have hx : 1 ≤ x.toNat := by
      have : x ≠ 0 := by simpa using h
      rcases Nat.eq_zero_or_pos x.toNat with h0 | h0
      · exact absurd (UInt8.toNat_inj.1 (by rw [h0]; rfl)) this
      · exact h0
    simp only [numL, List.length_cons, Nat.add_sub_cancel]
    have : 1 * 256 ^ l.length ≤ x.toNat * 256 ^ l.length := Nat.mul_le_mul_right _ hx
    omega
theorem numB_num (N : Nat) (h : N < W256) : numL (numB N) = N := by unfold numB; rw [numL_bare, numL_wb N h]
theorem numB_len (N k : Nat) (h : N < 256 ^ k) (hW : N < W256) : (numB N).length ≤ k := by
  by_cases hn : numB N = []
  · rw [hn]; simp
  · have h1 := numL_ge (numB N) (bare_head _) hn
    rw [numB_num N hW] at h1
    rcases Nat.lt_or_ge k (numB N).length with h2 | h2
    · have : (256 : Nat) ^ k ≤ 256 ^ ((numB N).length - 1) := Nat.pow_le_pow_right (by omega) (by omega)
      omega
    · exact h2
theorem numB_pos (N : Nat) (h : 0 < N) (hW : N < W256) : 1 ≤ (numB N).length := by
  rcases Nat.eq_zero_or_pos (numB N).length with h0 | h0
  · have := numB_num N hW
    rw [List.eq_nil_of_length_eq_zero h0] at this
    simp [numL] at this; omega
  · exact h0
theorem numB_8 (n : Nat) (h : n < 18446744073709551616) : (numB n).length ≤ 8 :=
  numB_len n 8 (by rw [show (256 : Nat) ^ 8 = 18446744073709551616 from rfl]; exact h) (by unfold W256; omega)
theorem headB_len (base n : Nat) (h : n < 18446744073709551616) : (headB base n).length ≤ 9 := by
  unfold headB
  split
  · simp
  · have := numB_8 n h; simp; omega
set_option maxHeartbeats 400000 in
set_option maxRecDepth 100000 in
theorem head_any (base n : Nat) (hb : base ≤ 192) (hn : n ≤ 4611686018427387904) (w : World) :
    Calls Try.prog 135 #[.int .u8 (base : Int), .int .i64 (n : Int)] w fun e w' => ∃ v, e = .returned v ∧ OwnOf b8 1 5 w' w.heap.size v (headB base n) ∧ Below w.heap.size w w' := by
  by_cases h48 : n < 48
  · have hni : (n : Int) < 48 := by omega
    have w1 : IntKind.u8.wrap (n : Int) = (n : Int) := IntWalk.u8_in _ (by omega)
    have w2 : IntKind.u8.wrap ((base : Int) + (n : Int)) = (base : Int) + (n : Int) := IntWalk.u8_in _ (by omega)
    have hH : headB base n = [UInt8.ofNat (base + n)] := by unfold headB; rw [if_pos h48]
    have hx : u8v (UInt8.ofNat (base + n)) = .int .u8 ((base : Int) + (n : Int)) := by unfold u8v; rw [UInt8.toNat_ofNat', Nat.mod_eq_of_lt (by omega)]; simp
    have HH := Lib.hid hH
    have Hx := Lib.hid hx
    clear hH hx
    go_enter Try.func135, Try.ntmps135
    go_wp2
    go_ret
    refine ⟨_, rfl, OwnOf.made b8 1 _ w w.heap.size _ _ 1 ?_ (by rw [HH.out]; rfl) (by simp) (Nat.le_refl _) (by unfold maxLen; omega), (Below.refl _ _).alloc (Nat.le_refl _) _⟩
    rw [HH.out, flat_b8, List.map_cons, Hx.out]; rfl
  · have hni : ¬ (n : Int) < 48 := by omega
    have hL8 := numB_8 n (by omega)
    have hL1 := numB_pos n (by omega) (by unfold W256; omega)
    have hH : headB base n = [UInt8.ofNat (base + 48 + ((numB n).length - 1))] ++ numB n := by unfold headB; rw [if_neg h48]; rfl
    have hx : u8v (UInt8.ofNat (base + 48 + ((numB n).length - 1))) = .int .u8 ((base : Int) + 48 + (((numB n).length : Int) - 1)) := by unfold u8v; rw [UInt8.toNat_ofNat', Nat.mod_eq_of_lt (by omega)]; congr 1; omega
    have cn := fun w => num_any n w
    have ci := fun w => int_any n (by omega) w
    obtain ⟨B, hB⟩ : ∃ B, B = numB n := ⟨_, rfl⟩
    rw [← hB] at hL8 hL1 hH hx
    simp only [← hB] at cn
    obtain ⟨L, hL⟩ : ∃ L, L = B.length := ⟨_, rfl⟩
    rw [← hL] at hL8 hL1 hH hx
    obtain ⟨X, hX⟩ : ∃ X, X = UInt8.ofNat (base + 48 + (L - 1)) := ⟨_, rfl⟩
    rw [← hX] at hH hx
    obtain ⟨xi, hxi⟩ : ∃ xi : Int, xi = (base : Int) + 48 + ((L : Int) - 1) := ⟨_, rfl⟩
    have w0 : IntKind.u64.wrap (n : Int) = (n : Int) := IntWalk.u64_in _ (by omega)
    have w1 : IntKind.u8.wrap ((base : Int) + 48) = (base : Int) + 48 := IntWalk.u8_in _ (by omega)
    have w2 : IntKind.i64.wrap ((L : Int) - 1) = (L : Int) - 1 := IntWalk.i64_in _ (by omega)
    have w3 : IntKind.u8.wrap ((L : Int) - 1) = (L : Int) - 1 := IntWalk.u8_in _ (by omega)
    have w4 : IntKind.u8.wrap ((base : Int) + 48 + ((L : Int) - 1)) = xi := by rw [hxi]; exact IntWalk.u8_in _ (by omega)
    rw [← hxi] at hx
    have HH := Lib.hid hH
    have Hx := Lib.hid hx
    have HL := Lib.hid hL
    have Cn := Lib.hid cn
    have Ci := Lib.hid ci
    clear hH hx hB hL hX hxi cn ci
    go_enter Try.func135, Try.ntmps135
    go_wp2_with (first
      | (go_at_call 86; (with_reducible refine (Ci.out _).mono ?_); rintro e w1 ⟨rfl, b1⟩)
      | (go_at_call 85; (with_reducible refine (Cn.out _).mono ?_); rintro e w2 ⟨v, rfl, o2, b2⟩; have b12 := Below.then b1 b2; have hs2 := b1.size; obtain ⟨a2, c2, rfl, _⟩ := o2.form' L HL.out.symm)
      | (refine wpList_build1 (o := ⟨some 24, _, _, _, _, _⟩) (by rfl) (.tmp 23) 22 (by rfl) elU8 (.int .u8 xi) [.int .u8 xi] (by rfl) (by rfl) rfl (by omega) ?_; have o3 := OwnOf.made b8 1 5 w2 w.heap.size [X] #[.int .u8 xi] 1 (by rw [flat_b8, List.map_cons, Hx.out]; rfl) rfl rfl b12.size (by unfold maxLen; omega); have o4 := o2.row.alloc (.cells #[.int .u8 xi] 5); have b4 := b12.alloc b12.size (.cells #[.int .u8 xi] 5))
      | (refine wpList_appA (o := ⟨some 26, _, _, _, _, _⟩) (by rfl) (.tmp 24) (.tmp 25) 22 (by rfl) elU8 (by rfl) o3 (by rfl) o4 (by have := b12.size; simp; omega) (by rw [← HL.out]; simp; omega) (by rw [← HL.out]; unfold maxLen; simp; omega) ?_; intro v5 w5 o5 g5 _; have b5 := b4.grown g5 b4.size (fun j hj => by cases hj; exact b12.size)))
    go_ret
    exact ⟨_, rfl, by rw [HH.out]; exact o5, b5⟩
end Go.Proofs.Ytohenjgegkgncaa
