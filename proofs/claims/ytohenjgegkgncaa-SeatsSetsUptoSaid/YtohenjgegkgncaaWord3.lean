/- word.Int and the reference's WInt, WLess, WCmp. -/
import Derived.Test.YtohenjgegkgncaaWord2
import Derived.Sort.Walk0
set_option linter.unusedSimpArgs false
set_option linter.unusedVariables false
namespace Go.Proofs.Ytohenjgegkgncaa
open Go.RowKit
/-- the number that bytes are, the greatest first -/
def numL : List UInt8 → Nat
  | [] => 0
  | x :: l => x.toNat * 256 ^ l.length + numL l
theorem numL_snoc (l : List UInt8) (x : UInt8) : numL (l ++ [x]) = numL l * 256 + x.toNat := by
  induction l with
  | nil => simp [numL]
  | cons y l ih =>
    simp only [List.cons_append, numL, ih, List.length_append, List.length_singleton, Nat.pow_succ, Nat.add_mul, Nat.mul_assoc]
    omega
theorem numL_lt (l : List UInt8) : numL l < 256 ^ l.length := by
  induction l with
  | nil => simp [numL]
  | cons x l ih =>
    have hx := x.toNat_lt
    have : x.toNat * 256 ^ l.length + 256 ^ l.length ≤ 256 * 256 ^ l.length := by rw [← Nat.succ_mul]; exact Nat.mul_le_mul_right _ (by omega)
    simp only [numL, List.length_cons, Nat.pow_succ]
    omega
theorem numL_take (N k : Nat) (h : k ≤ 32) : numL ((wb N).take k) = N / 2 ^ (8 * (32 - k)) % 256 ^ k := by
  induction k with
  | zero => simp [numL, Nat.mod_one]
  | succ k ih =>
    rw [wb_snoc N k (by omega), numL_snoc, ih (by omega), wbyte, UInt8.toNat_ofNat', show 2 ^ 8 = 256 from rfl]
    have e : N / 2 ^ (8 * (32 - k)) = N / 2 ^ (8 * (31 - k)) / 256 := by
      rw [Nat.div_div_eq_div_mul, show (256 : Nat) = 2 ^ 8 from rfl, ← Nat.pow_add, show 8 * (31 - k) + 8 = 8 * (32 - k) from by omega]
    rw [e, show 32 - (k + 1) = 31 - k from by omega, Nat.pow_succ, Nat.mul_comm (256 ^ k) 256, Nat.mod_mul]
    omega
theorem numL_wb (N : Nat) (h : N < W256) : numL (wb N) = N := by
  have := numL_take N 32 (by omega)
  rw [List.take_of_length_le (by rw [wb_len]; omega)] at this
  rw [this]
  simp only [Nat.sub_self, Nat.mul_zero, Nat.pow_zero, Nat.div_one]
  exact Nat.mod_eq_of_lt h
theorem lex_num : ∀ (l m : List UInt8), l.length = m.length → (l < m ↔ numL l < numL m)
  | [], [], _ => by simp [numL]
  | [], _ :: _, h => by simp at h
  | _ :: _, [], h => by simp at h
  | x :: l, y :: m, h => by
    have hl : l.length = m.length := by simpa using h
    have ih := lex_num l m hl
    have b1 := numL_lt l
    have b2 := numL_lt m
    rw [hl] at b1
    simp only [List.cons_lt_cons_iff, ih, numL, hl]
    generalize hP : 256 ^ m.length = P at *
    rcases Nat.lt_trichotomy x.toNat y.toNat with h1 | h1 | h1
    · have : (x.toNat + 1) * P ≤ y.toNat * P := Nat.mul_le_mul_right _ h1
      rw [Nat.add_mul, Nat.one_mul] at this
      have hx : x < y := UInt8.lt_iff_toNat_lt.2 h1
      exact ⟨fun _ => by omega, fun _ => .inl hx⟩
    · obtain rfl : x = y := UInt8.toNat_inj.1 h1
      have : ¬ x < x := UInt8.lt_irrefl x
      simp [this]
    · have : (y.toNat + 1) * P ≤ x.toNat * P := Nat.mul_le_mul_right _ h1
      rw [Nat.add_mul, Nat.one_mul] at this
      refine ⟨fun h2 => ?_, fun h2 => by omega⟩
      rcases h2 with h2 | h2
      · have := UInt8.lt_iff_toNat_lt.1 h2; omega
      · rw [h2.1] at h1; omega
theorem wb_less (N M : Nat) (hN : N < W256) (hM : M < W256) : Op.bytesLess (wb N) (wb M) = decide (N < M) := by
  rw [bytesLess_eq]
  have := lex_num (wb N) (wb M) (by rw [wb_len, wb_len])
  rw [numL_wb N hN, numL_wb M hM] at this
  simp [this]
theorem wcs_small (n : Nat) (h : n < 18446744073709551616) : wcs n = [.int .u64 (n : Int), .int .u64 0, .int .u64 0, .int .u64 0] := by
  have e0 : lim n 0 = n := by rw [lim0]; omega
  have e1 : lim n 1 = 0 := by rw [lim1]; omega
  have e2 : lim n 2 = 0 := by rw [lim2]; omega
  have e3 : lim n 3 = 0 := by rw [lim3]; omega
  unfold wcs limI
  rw [e0, e1, e2, e3]; rfl
def z4 : List Value := [.int .u64 0, .int .u64 0, .int .u64 0, .int .u64 0]
set_option maxHeartbeats 400000 in
set_option maxRecDepth 100000 in
theorem int_any (n : Nat) (h : n < 18446744073709551616) (w : World) :
    Calls Try.prog 86 #[.int .u64 (n : Int)] w fun e w' => e = .returned (wv n) ∧ Below w.heap.size w w' := by
  have hz := Blk.new w 73 z4
  have hbel : Below w.heap.size w (w.alloc (.cells z4.toArray 73)) := (Below.refl _ _).alloc (Nat.le_refl _) _
  have hws := wcs_small n h
  go_enter Try.func86, Try.ntmps86
  go_wp2_with (first
    | (refine wpList_storeA rfl 73 (.tmp 2) (.tmp 4) rfl (w.heap.size) [.int .u64 (n : Int), .int .u64 0, .int .u64 0, .int .u64 0] rfl rfl aggWord hz rfl rfl (by rw [← hws]; exact wcs_one n) hbel (by omega) ?_; intro w2 hb2 hbel2 _))
  exact bodyPost_ret (results_blk rfl _ _ (w.heap.size) aggWord hb2 rfl rfl) rfl ⟨by unfold wv; rw [hws], hbel2⟩
set_option maxHeartbeats 400000 in
set_option maxRecDepth 100000 in
theorem wint_any (n : Nat) (h : n < 18446744073709551616) (w : World) :
    Calls Try.prog 91 #[.int .u64 (n : Int)] w fun e w' => e = .returned (wv n) ∧ Below w.heap.size w w' := by
  have hz := Blk.new w 73 z4
  have hbel : Below w.heap.size w (w.alloc (.cells z4.toArray 73)) := (Below.refl _ _).alloc (Nat.le_refl _) _
  have hws := wcs_small n h
  go_enter Try.func91, Try.ntmps91
  go_wp2_with (first
    | (refine wpList_storeA rfl 73 (.tmp 2) (.tmp 4) rfl (w.heap.size) [.int .u64 (n : Int), .int .u64 0, .int .u64 0, .int .u64 0] rfl rfl aggWord hz rfl rfl (by rw [← hws]; exact wcs_one n) hbel (by omega) ?_; intro w2 hb2 hbel2 _))
  exact bodyPost_ret (results_blk rfl _ _ (w.heap.size) aggWord hb2 rfl rfl) rfl ⟨by unfold wv; rw [hws], hbel2⟩
end Go.Proofs.Ytohenjgegkgncaa
