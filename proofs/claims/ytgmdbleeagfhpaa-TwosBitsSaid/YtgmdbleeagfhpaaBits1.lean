/- Words as lists of bits: plain laws; the reference's bitsOf. -/
import Derived.Test.YtgmdbleeagfhpaaWord19
set_option linter.unusedSimpArgs false
set_option linter.unusedVariables false
namespace Go.Proofs.Ytgmdbleeagfhpaa
open Go.RowKit
theorem one_bbool : ∀ x : Bool, ∀ u ∈ bbool x, u.oneCell' = true := by intro x u hu; simp [bbool] at hu; subst hu; rfl
theorem elBool : El Try.prog 87 4 (.bool false) 1 1 bbool := ⟨by kernel_rfl, by kernel_rfl, rfl, by omega, fun _ => rfl, one_bbool⟩
/-- the number that bits make, the least first -/
def ofL : List Bool → Nat
  | [] => 0
  | b :: l => b.toNat + 2 * ofL l
def bitsL (N : Nat) : List Bool := (List.range 256).map N.testBit
theorem bitsL_len (N : Nat) : (bitsL N).length = 256 := by simp [bitsL]
theorem bitsL_at (N i : Nat) (h : i < 256) : (bitsL N)[i]? = some (N.testBit i) := by simp [bitsL, h]
theorem ofL_bit : ∀ (l : List Bool) (i : Nat), (ofL l).testBit i = l.getD i false
  | [], i => by simp [ofL]
  | b :: l, 0 => by
    rw [Nat.testBit_zero, ofL]
    cases b <;> simp <;> omega
  | b :: l, i + 1 => by
    rw [Nat.testBit_succ, ofL]
    have : (b.toNat + 2 * ofL l) / 2 = ofL l := by cases b <;> simp <;> omega
    rw [this, ofL_bit l i]; simp
theorem ofL_lt : ∀ (l : List Bool), ofL l < 2 ^ l.length
  | [] => by simp [ofL]
  | b :: l => by
    have := ofL_lt l
    rw [ofL, List.length_cons, Nat.pow_succ]
    cases b <;> simp <;> omega
theorem ofL_snoc : ∀ (l : List Bool) (b : Bool), ofL (l ++ [b]) = ofL l + b.toNat * 2 ^ l.length
  | [], b => by simp [ofL]
  | c :: l, b => by
    rw [List.cons_append, ofL, ofL_snoc l b, ofL, List.length_cons, Nat.pow_succ, Nat.mul_add, Nat.mul_left_comm 2]
    rw [Nat.mul_comm (2 ^ l.length) 2]; omega
theorem lt_of_bits {N : Nat} (h : ∀ i, 256 ≤ i → N.testBit i = false) : N < W256 := Nat.lt_pow_two_of_testBit N h
theorem bit_high {N : Nat} (h : N < W256) (i : Nat) (hi : 256 ≤ i) : N.testBit i = false :=
  Nat.testBit_lt_two_pow (Nat.lt_of_lt_of_le h (Nat.pow_le_pow_right (n := 2) (by omega) hi))
theorem ofL_bitsL (N : Nat) (h : N < W256) : ofL (bitsL N) = N := by
  apply Nat.eq_of_testBit_eq
  intro i
  rw [ofL_bit]
  rcases Nat.lt_or_ge i 256 with hi | hi
  · rw [List.getD_eq_getElem?_getD, bitsL_at N i hi]; rfl
  · rw [bit_high h i hi, List.getD_eq_getElem?_getD, List.getElem?_eq_none (by rw [bitsL_len]; exact hi)]; rfl
theorem bitsL_snoc (N i : Nat) (h : i < 256) : (bitsL N).take (i + 1) = (bitsL N).take i ++ [N.testBit i] := by
  rw [List.take_add_one, bitsL_at N i h]; rfl
/-- A bit is added above a number. -/
theorem lim_addbit (Q i j r : Nat) (hi : i = 64 * j + r) (hr : r < 64) (hQ : Q < 2 ^ i) : lim Q j + 2 ^ r < 18446744073709551616 ∧ lim (Q + 2 ^ i) j = lim Q j + 2 ^ r ∧ ∀ k, k ≠ j → lim (Q + 2 ^ i) k = lim Q k := by
  have hP : 0 < 2 ^ (64 * j) := Nat.two_pow_pos _
  have e1 : 2 ^ i = 2 ^ (64 * j) * 2 ^ r := by rw [← Nat.pow_add, ← hi]
  have h1 : Q / 2 ^ (64 * j) < 2 ^ r := by rw [Nat.div_lt_iff_lt_mul hP, Nat.mul_comm, ← e1]; exact hQ
  have h2 : (Q + 2 ^ i) / 2 ^ (64 * j) = Q / 2 ^ (64 * j) + 2 ^ r := by rw [e1, Nat.add_mul_div_left _ _ hP]
  have h3 : 2 * 2 ^ r ≤ 18446744073709551616 := by
    have : 2 ^ (r + 1) ≤ 2 ^ 64 := Nat.pow_le_pow_right (by omega) (by omega)
    rw [Nat.pow_succ, Nat.mul_comm] at this; exact this
  have h4 : lim Q j = Q / 2 ^ (64 * j) := by unfold lim; exact Nat.mod_eq_of_lt (by omega)
  refine ⟨by omega, ?_, fun k hk => ?_⟩
  · rw [h4]; unfold lim; rw [h2]; exact Nat.mod_eq_of_lt (by omega)
  · unfold lim
    rcases Nat.lt_or_ge k j with h | h
    · obtain ⟨s, hs⟩ : ∃ s, i = 64 * k + 64 + s := ⟨i - 64 * k - 64, by omega⟩
      have hPk : 0 < 2 ^ (64 * k) := Nat.two_pow_pos _
      rw [hs, Nat.pow_add, Nat.pow_add, Nat.mul_assoc, Nat.add_mul_div_left _ _ hPk]
      exact Nat.add_mul_mod_self_left _ _ _
    · have h5 : 2 ^ (i + 1) ≤ 2 ^ (64 * k) := Nat.pow_le_pow_right (by omega) (by omega)
      rw [Nat.pow_succ] at h5
      rw [Nat.div_eq_of_lt (show Q + 2 ^ i < 2 ^ (64 * k) by omega), Nat.div_eq_of_lt (show Q < 2 ^ (64 * k) by omega)]
theorem wcs_addbit (Q i j r : Nat) (hi : i = 64 * j + r) (hr : r < 64) (hj : j < 4) (hQ : Q < 2 ^ i) : (wcs Q).set j (.int .u64 ((lim Q j + 2 ^ r : Nat) : Int)) = wcs (Q + 2 ^ i) := by
  obtain ⟨_, h2, h3⟩ := lim_addbit Q i j r hi hr hQ
  unfold wcs limI
  rw [← h2]
  rcases (show j = 0 ∨ j = 1 ∨ j = 2 ∨ j = 3 from by omega) with rfl | rfl | rfl | rfl
  · rw [h3 1 (by omega), h3 2 (by omega), h3 3 (by omega)]; rfl
  · rw [h3 0 (by omega), h3 2 (by omega), h3 3 (by omega)]; rfl
  · rw [h3 0 (by omega), h3 1 (by omega), h3 3 (by omega)]; rfl
  · rw [h3 0 (by omega), h3 1 (by omega), h3 2 (by omega)]; rfl
set_option maxHeartbeats 400000 in
set_option maxRecDepth 100000 in
theorem bitsOf_any (N : Nat) (w : World) :
    Calls Try.prog 79 #[wv N] w fun e w' => ∃ v, e = .returned v ∧ OwnOf bbool 1 4 w' w.heap.size v (bitsL N) ∧ Below w.heap.size w w' := by
  have hb0 := boxW w N
  have hbel0 : Below w.heap.size w (w.alloc (.cells (wcs N).toArray 24)) := (Below.refl _ _).alloc (Nat.le_refl _) _
  show Calls Try.prog 79 #[.agg (wcs N).toArray] w _
  go_enter Try.func79, Try.ntmps79
  go_wp2
  go_loopw [3, 5] (fun v ix wr => ∃ i : Nat, i ≤ 256 ∧ ix = .int .i64 (i : Int) ∧ OwnOf bbool 1 4 wr (w.heap.size + 1) v ((bitsL N).take i) ∧ Blk 24 wr w.heap.size (wcs N) ∧ Below w.heap.size w wr ∧ w.heap.size + 1 ≤ wr.heap.size) (fun _ i _ => 256 - (intOf i).toNat)
  case atStart => exact ⟨0, by omega, rfl, OwnOf.nil _ _ _ _ _, hb0, hbel0, by simp⟩
  case round =>
    clear hb0 hbel0
    obtain ⟨i, hi, rfl, hown, hb, hbel, hsz⟩ := hrel
    by_cases hlt : i < 256
    · have hii : (i : Int) < 256 := by omega
      have hsn := bitsL_snoc N i hlt
      have hln : ((bitsL N).take i).length = i := by rw [List.length_take, bitsL_len]; omega
      obtain ⟨L, hL⟩ : ∃ L, L = (bitsL N).take i := ⟨_, rfl⟩
      rw [← hL] at hown hsn hln
      obtain ⟨q, hq⟩ : ∃ q, q = i / 64 := ⟨_, rfl⟩
      obtain ⟨r, hr⟩ : ∃ r, r = i % 64 := ⟨_, rfl⟩
      have hbit := lim_bit N i
      rw [← hq, ← hr] at hbit
      have hq4 : q < 4 := by omega
      have e1 : (i : Int) / 64 = (q : Int) := by omega
      have e2 : (i : Int) % 64 = (r : Int) := by omega
      have hqi : (q : Int) < 4 := by omega
      have hr64 : (r : Int) < 64 := by omega
      have hl64 := lim_lt N q
      have hdiv : lim N q / 2 ^ r < 18446744073709551616 := Nat.lt_of_le_of_lt (Nat.div_le_self _ _) hl64
      obtain ⟨y, hy⟩ : ∃ y, y = lim N q / 2 ^ r := ⟨_, rfl⟩
      have e4 : (lim N q : Int) / 2 ^ r = (y : Int) := by rw [hy]; simp
      rw [← hy] at hbit hdiv
      have e5 : ((y : Int) % 2 == 1) = N.testBit i := by rw [← hbit, Bool.eq_iff_iff]; simp; omega
      have hc := hb.wat q hq4
      have Hsn := Lib.hid hsn
      have Hln := Lib.hid hln
      have hne : ∀ v : Value, (∀ k, v.ownBlock = some k → w.heap.size + 1 ≤ k) → v.ownBlock ≠ some w.heap.size := fun v h e => by have := h _ e; omega
      have Hne := Lib.hid hne
      clear hsn hln hL hq hr hbit hy hne
      go_wp2_with (at_builtin; (refine wpList_app (by rfl) (.tmp 8) (.tmp 18) 87 (by rfl) elBool (by rfl) (hown.alloc _) (by rfl) (RowOf.made bbool 1 _ [N.testBit i] _ _ 1 (by rfl) (by rfl) (by rfl) (by decide)) ((Below.refl (w.heap.size + 1) wr).alloc hsz _) (by simp; omega) (by have := Hln.out; simp; omega) (by have := Hln.out; simp [maxLen]; omega) ?_; intro v4 w4 hv4 hg4 hgr hB4))
      rw [← Hsn.out] at hv4
      go_roundw
      case rel => exact ⟨i + 1, by omega, by go_num, hv4, hb.below hg4 (by omega), hbel.trans (hg4.mono (by omega)), hB4⟩
      case measure => simp [intOf]; omega
    · obtain rfl : i = 256 := by omega
      rw [List.take_of_length_le (by rw [bitsL_len]; omega)] at hown
      go_wp2
      go_ret
      exact ⟨_, rfl, World.ownsRow.mono hown (by omega), hbel⟩
end Go.Proofs.Ytgmdbleeagfhpaa
