/- pack.ToNum and the reference's PToNum. -/
import Derived.Test.YtohenjgegkgncaaPack1
import Derived.Test.YtohenjgegkgncaaWord10
set_option linter.unusedSimpArgs false
set_option linter.unusedVariables false
namespace Go.Proofs.Ytohenjgegkgncaa
open Go.RowKit
theorem bare_head (l : List UInt8) : (bare l).head? ≠ some 0 := by
  induction l with
  | nil => simp [bare]
  | cons x l ih =>
    by_cases h : x = 0
    · rw [h, bare_zero]; exact ih
    · rw [bare_else x l h]; simpa using h
theorem bare_same (l : List UInt8) (h : l.head? ≠ some 0) : bare l = l := by
  cases l with
  | nil => rfl
  | cons x l => exact bare_else x l (by simpa using h)
theorem bare_pad (k : Nat) (l : List UInt8) : bare (List.replicate k 0 ++ l) = bare l := by
  induction k with
  | zero => rfl
  | succ k ih => rw [List.replicate_succ, List.cons_append, bare_zero, ih]
theorem numL_pad (k : Nat) (l : List UInt8) : numL (List.replicate k 0 ++ l) = numL l := by
  induction k with
  | zero => rfl
  | succ k ih => rw [List.replicate_succ, List.cons_append, numL, ih]; simp
theorem numL_inj : ∀ (l m : List UInt8), l.length = m.length → numL l = numL m → l = m
  | [], [], _, _ => rfl
  | [], _ :: _, h, _ => by simp at h
  | _ :: _, [], h, _ => by simp at h
  | x :: l, y :: m, h, e => by
    have hl : l.length = m.length := by simpa using h
    have b1 := numL_lt l
    have b2 := numL_lt m
    simp only [numL] at e
    rw [hl] at b1 e
    have ih := numL_inj l m hl
    generalize 256 ^ m.length = P at *
    rcases Nat.lt_trichotomy x.toNat y.toNat with h1 | h1 | h1
    · have : (x.toNat + 1) * P ≤ y.toNat * P := Nat.mul_le_mul_right _ h1
      rw [Nat.add_mul, Nat.one_mul] at this; omega
    · obtain rfl : x = y := UInt8.toNat_inj.1 h1
      rw [ih (by omega)]
    · have : (y.toNat + 1) * P ≤ x.toNat * P := Nat.mul_le_mul_right _ h1
      rw [Nat.add_mul, Nat.one_mul] at this; omega
theorem numL_small (l : List UInt8) (h : l.length ≤ 32) : numL l < W256 :=
  Nat.lt_of_lt_of_le (numL_lt l) (by
    have : (256 : Nat) ^ l.length ≤ 256 ^ 32 := Nat.pow_le_pow_right (by omega) h
    exact this)
theorem wb_num (l : List UInt8) (h : l.length ≤ 32) : wb (numL l) = List.replicate (32 - l.length) 0 ++ l := by
  apply numL_inj
  · rw [wb_len]; simp; omega
  · rw [numL_wb _ (numL_small l h), numL_pad]
def okNum (l : List UInt8) : Bool := decide (l.length ≤ 32) && !(l.head? == some 0)
def numE (l : List UInt8) : Int := if okNum l = true then 0 else 1
def numV (l : List UInt8) : Nat := if okNum l = true then numL l else 0
theorem num_yes {l : List UInt8} (h : okNum l = true) : numE l = 0 ∧ numV l = numL (last32 l) := by
  unfold numE numV
  rw [if_pos h, if_pos h]
  unfold okNum at h
  simp only [Bool.and_eq_true, decide_eq_true_eq] at h
  rw [last_small l h.1]; exact ⟨rfl, rfl⟩
theorem num_no {l : List UInt8} (h : okNum l = false) : numE l = 1 ∧ numV l = 0 := by
  unfold numE numV
  rw [h]; exact ⟨rfl, rfl⟩
theorem num_same (l : List UInt8) : (numB (numL (last32 l)) == l) = okNum l := by
  cases h : okNum l with
  | true =>
    unfold okNum at h
    simp only [Bool.and_eq_true, decide_eq_true_eq, Bool.not_eq_true', beq_eq_false_iff_ne] at h
    rw [last_small l h.1, numB, wb_num l h.1, bare_pad, bare_same l h.2]
    simp
  | false =>
    rw [beq_eq_false_iff_ne]
    intro e
    have h1 := bare_head (wb (numL (last32 l)))
    have h2 := bare_len (wb (numL (last32 l)))
    rw [wb_len] at h2
    unfold numB at e
    rw [e] at h1 h2
    have : okNum l = true := by
      unfold okNum
      simp only [Bool.and_eq_true, decide_eq_true_eq, Bool.not_eq_true', beq_eq_false_iff_ne]
      exact ⟨h2, h1⟩
    rw [h] at this; cases this
set_option maxHeartbeats 400000 in
set_option maxRecDepth 100000 in
theorem tonum_any (a : Option Addr) (c : Nat) (l : List UInt8) (w : World) (h : Bytes w (.slice a l.length c) l) :
    Calls Try.prog 113 #[.slice a l.length c] w fun e w' => e = .returned (.tuple #[wv (numV l), .int .i64 (numE l)]) ∧ Below w.heap.size w w' := by
  have hz := Blk.new w 73 z4
  have hbel : Below w.heap.size w (w.alloc (.cells z4.toArray 73)) := (Below.refl _ _).alloc (Nat.le_refl _) _
  have hlm := h.small
  unfold maxLen at hlm
  by_cases h32 : 32 < l.length
  · have hno := num_no (l := l) (by unfold okNum; rw [decide_eq_false (by omega)]; rfl)
    rw [hno.1, hno.2]
    have g1 : decide (32 < l.length) = true := by rw [decide_eq_true_eq]; exact h32
    have g2 : decide ((32 : Int) < (l.length : Int)) = true := by rw [decide_eq_true_eq]; omega
    clear hno
    go_enter Try.func113, Try.ntmps113
    go_wp2_with (first
      | (refine wpList_storeA rfl 73 (.tmp 2) (.tmp 18) rfl w.heap.size z4 rfl rfl aggWord hz rfl rfl (by rw [← z4_zero]; exact wcs_one 0) hbel (by omega) ?_; intro w2 hb2 hbel2 _))
    exact bodyPost_ret (results_blk_tmp rfl _ _ w.heap.size aggWord hb2 rfl rfl rfl) rfl ⟨by unfold wv; rw [z4_zero]; rfl, hbel2⟩
  · have g1 : decide (32 < l.length) = false := by rw [decide_eq_false_iff_not]; exact h32
    have g2 : decide ((32 : Int) < (l.length : Int)) = false := by rw [decide_eq_false_iff_not]; omega
    cases l with
    | nil =>
      have hyes := num_yes (l := []) rfl
      rw [hyes.1, hyes.2]
      clear hyes
      have g3 : decide (0 < 0) = false := rfl
      go_enter Try.func113, Try.ntmps113
      simp only [List.length_nil] at *
      go_wp2_with (first
        | (go_at_call 151; refine (read_any a c [] _ (h.alloc _)).mono ?_; rintro e w3 ⟨rfl, b3⟩; have hz3 := hz.kept b3; have hbel3 := hbel.trans (b3.mono hbel.size))
        | (refine wpList_storeA rfl 73 (.tmp 2) (.tmp 20) rfl w.heap.size (wcs (numL (last32 []))) rfl rfl aggWord hz3 (wcs_len _) rfl (wcs_one _) hbel3 (by omega) ?_; intro w2 hb2 hbel2 _))
      exact bodyPost_ret (results_blk_tmp rfl _ _ w.heap.size aggWord hb2 rfl rfl rfl) rfl ⟨rfl, hbel2⟩
    | cons x t =>
      obtain ⟨n, hn⟩ : ∃ n, n = (x :: t).length := ⟨_, rfl⟩
      have hn1 : n = t.length + 1 := by simpa using hn
      obtain ⟨b, off, rfl, hc⟩ := h.at 0 (by simp)
      simp only [List.getElem_cons_zero, Nat.add_zero] at hc
      have hc1 : (w.alloc (.cells #[.int .u64 0, .int .u64 0, .int .u64 0, .int .u64 0] 73)).cell? ⟨b, off, none⟩ = some (.int .u8 (x.toNat : Int)) := (Below.cell (Below.alloc (Below.refl w.heap.size w) (Nat.le_refl _) (.cells z4.toArray 73)) (World.block_lt_of_cell? w _ hc)).trans hc
      rw [← hn] at h hlm h32 g1 g2 ⊢
      have g3 : decide (0 < n) = true := by rw [decide_eq_true_eq]; omega
      have g4 : decide ((0 : Int) < (n : Int)) = true := by rw [decide_eq_true_eq]; omega
      have g5 : 0 < n := by omega
      have g6 : (0 : Int) < (n : Int) := by omega
      by_cases hx : x = 0
      · have hno := num_no (l := x :: t) (by unfold okNum; rw [hx]; simp)
        rw [hno.1, hno.2]
        have hxz : ((x.toNat : Int) == 0) = true := by rw [hx]; rfl
        clear hno hn hn1 hx
        go_enter Try.func113, Try.ntmps113
        go_wp2_with (first
          | (refine wpList_storeA rfl 73 (.tmp 2) (.tmp 18) rfl w.heap.size z4 rfl rfl aggWord hz rfl rfl (by rw [← z4_zero]; exact wcs_one 0) hbel (by omega) ?_; intro w2 hb2 hbel2 _))
        exact bodyPost_ret (results_blk_tmp rfl _ _ w.heap.size aggWord hb2 rfl rfl rfl) rfl ⟨by unfold wv; rw [z4_zero]; rfl, hbel2⟩
      · have hyes := num_yes (l := x :: t) (by
          unfold okNum
          simp only [Bool.and_eq_true, decide_eq_true_eq, Bool.not_eq_true', beq_eq_false_iff_ne]
          exact ⟨by rw [← hn]; omega, by simpa using hx⟩)
        rw [hyes.1, hyes.2]
        have hxz := u8_nz x hx
        have hn' := Lib.hid hn
        clear hyes hn hn1
        go_enter Try.func113, Try.ntmps113
        go_wp2_with (first
          | (go_at_call 151; have hr := h.alloc (.cells z4.toArray 73); rw [hn'.out] at hr ⊢; refine (read_any _ c (x :: t) _ hr).mono ?_; rintro e w3 ⟨rfl, b3⟩; have hz3 := hz.kept b3; have hbel3 := hbel.trans (b3.mono hbel.size))
          | (refine wpList_storeA rfl 73 (.tmp 2) (.tmp 20) rfl w.heap.size (wcs (numL (last32 (x :: t)))) rfl rfl aggWord hz3 (wcs_len _) rfl (wcs_one _) hbel3 (by omega) ?_; intro w2 hb2 hbel2 _))
        exact bodyPost_ret (results_blk_tmp rfl _ _ w.heap.size aggWord hb2 rfl rfl rfl) rfl ⟨rfl, hbel2⟩
end Go.Proofs.Ytohenjgegkgncaa
