/- pack.Num and the reference's PNum. -/
import Derived.Test.YtohenjgegkgncaaWord6
import Derived.Laws.ResultCell
set_option linter.unusedSimpArgs false
set_option linter.unusedVariables false
namespace Go.Proofs.Ytohenjgegkgncaa
open Go.RowKit
/-- the bytes without noughts ahead -/
def bare (l : List UInt8) : List UInt8 := l.dropWhile (· == 0)
def numB (N : Nat) : List UInt8 := bare (wb N)
theorem bare_zero (l : List UInt8) : bare (0 :: l) = bare l := by simp [bare]
theorem bare_else (x : UInt8) (l : List UInt8) (h : x ≠ 0) : bare (x :: l) = x :: l := by simp [bare, h]
theorem bare_len (l : List UInt8) : (bare l).length ≤ l.length := by
  induction l with
  | nil => simp [bare]
  | cons x l ih =>
    by_cases h : x = 0
    · rw [h, bare_zero]; simp; omega
    · rw [bare_else x l h]; exact Nat.le_refl _
theorem u8_nz (x : UInt8) (h : x ≠ 0) : ((x.toNat : Int) == 0) = false := by
  rw [beq_eq_false_iff_ne]; intro e; apply h; exact UInt8.toNat_inj.1 (by have : (0 : UInt8).toNat = 0 := rfl; omega)
set_option maxHeartbeats 400000 in
set_option maxRecDepth 100000 in
theorem num_any (N : Nat) (w : World) :
    Calls Try.prog 85 #[wv N] w fun e w' => ∃ v, e = .returned v ∧ OwnOf b8 1 5 w' w.heap.size v (numB N) ∧ Below w.heap.size w w' := by
  have hb0 := boxW w N
  have hbel0 : Below w.heap.size w (w.alloc (.cells (wcs N).toArray 73)) := (Below.refl _ _).alloc (Nat.le_refl _) _
  show Calls Try.prog 85 #[.agg (wcs N).toArray] w _
  go_enter Try.func85, Try.ntmps85
  go_wp2_with (first
    | (refine wpList_loadA rfl 73 (.tmp 1) rfl w.heap.size rfl aggWord hb0 (wcs_len _) ?_)
    | (go_at_call 118; refine (bytes_any N _).mono ?_; rintro e w2 ⟨rfl, b2⟩)
    | (refine wpList_storeA rfl 46 (.tmp 3) (.tmp 6) rfl w2.heap.size (hcs N) rfl rfl aggHash (Blk.new w2 46 z32) (hcs_len _) rfl (hcs_one _) (Below.alloc (Below.refl w2.heap.size w2) (Nat.le_refl _) _) (Nat.le_refl _) ?_; intro w3 hh3 b3 _))
  have hbel3 := hbel0.trans ((b2.trans (b3.mono b2.size)).mono hbel0.size)
  have hhrow : Bytes w3 (.slice (some ⟨w2.heap.size, 0, none⟩) 32 32) (wb N) := hh3.row (wb N) 32 32 (fun _ => rfl) (wb_len N) (fun j u hj => by rw [flat_b8] at hj; exact hj) (Nat.le_refl _) (by unfold maxLen; omega)
  have hsz := hbel3.size
  clear hb0 hbel0 b2 b3
  go_loop [4] (fun v => ∃ (l' : List UInt8) (n : Nat) (a : Option Addr) (c : Nat), l'.length = n ∧ n ≤ 32 ∧ v = .slice a n c ∧ Bytes w3 v l' ∧ numB N = bare l') (fun v => lenV v)
  case atStart => exact ⟨wb N, 32, _, _, wb_len N, Nat.le_refl _, rfl, hhrow, rfl⟩
  case round =>
    clear hhrow
    obtain ⟨l', n, a, c, hn, hn32, rfl, hr, hbare⟩ := hrel
    cases l' with
    | nil =>
      obtain rfl : n = 0 := by simpa using hn.symm
      have hb : numB N = [] := hbare
      have Hb := Lib.hid hb
      clear hbare hb hn
      go_wp2_with (at_builtin; (refine wpList_app rfl (.tmp 19) (.tmp 20) 22 rfl elU8 rfl (OwnOf.empty b8 1 5 w3 w.heap.size hsz) rfl (hr.alloc _) (hbel3.alloc hsz _) (by simp; omega) (by simp) (by simp [maxLen]) ?_; intro v4 w4 hv4 hg4 _ hB4))
      go_ret
      exact ⟨_, rfl, by rw [Hb.out]; exact hv4, hg4⟩
    | cons x t =>
      have hpos : 0 < n := by rw [← hn]; simp
      have hposi : (0 : Int) < (n : Int) := by omega
      have hd : decide ((0 : Int) < (n : Int)) = true := by rw [decide_eq_true_eq]; omega
      have hd' : decide (0 < n) = true := by rw [decide_eq_true_eq]; omega
      obtain ⟨b, off, rfl, hc⟩ := hr.at 0 (by simp)
      simp only [List.getElem_cons_zero, Nat.add_zero] at hc
      by_cases hx : x = 0
      · subst hx
        rw [bare_zero] at hbare
        obtain ⟨a', c', s1, r1⟩ := RowOf.from elU8 hr 1 (by omega) 1 rfl
        obtain ⟨m, hm⟩ : ∃ m, m = n - 1 := ⟨_, rfl⟩
        rw [← hm] at s1 r1
        have hmt : t.length = m := by simp at hn; omega
        have hmn : m < n := by omega
        have hm32 : m ≤ 32 := by omega
        simp only [List.drop_succ_cons, List.drop_zero] at r1
        have Hb := Lib.hid hbare
        clear hm hn hbare
        go_wp2
        go_round
        case rel => exact ⟨t, m, a', c', hmt, hm32, rfl, r1, Hb.out⟩
        case measure => simpa [lenV] using hmn
      · have hxz := u8_nz x hx
        rw [bare_else x t hx] at hbare
        have Hb := Lib.hid hbare
        have hn' := Lib.hid hn
        clear hbare hn
        go_wp2_with (at_builtin; (refine wpList_app rfl (.tmp 19) (.tmp 20) 22 rfl elU8 rfl (OwnOf.empty b8 1 5 w3 w.heap.size hsz) rfl (hr.alloc _) (hbel3.alloc hsz _) (by simp; omega) (by rw [hn'.out]; simp; omega) (by rw [hn'.out]; simp [maxLen]; omega) ?_; intro v4 w4 hv4 hg4 _ hB4))
        go_ret
        exact ⟨_, rfl, by rw [Hb.out]; exact hv4, hg4⟩
theorem u8_nz' (x : UInt8) (h : x ≠ 0) : ((x.toNat : Int) != 0) = true := by
  have := u8_nz x h; simp [bne, this]
set_option maxHeartbeats 400000 in
set_option maxRecDepth 100000 in
theorem pnum_any (N : Nat) (w : World) :
    Calls Try.prog 90 #[wv N] w fun e w' => ∃ v, e = .returned v ∧ Bytes w' v (numB N) ∧ Below w.heap.size w w' := by
  have hb0 := boxW w N
  have hbel0 : Below w.heap.size w (w.alloc (.cells (wcs N).toArray 73)) := (Below.refl _ _).alloc (Nat.le_refl _) _
  show Calls Try.prog 90 #[.agg (wcs N).toArray] w _
  go_enter Try.func90, Try.ntmps90
  go_wp2_with (first
    | (refine wpList_loadA rfl 73 (.tmp 1) rfl w.heap.size rfl aggWord hb0 (wcs_len _) ?_)
    | (go_at_call 119; refine (wbytes_any N _).mono ?_; rintro e w2 ⟨v, rfl, hv, b2⟩; obtain ⟨a, c, rfl, _⟩ := hv.form' 32 (wb_len N)))
  have hbel2 := hbel0.trans (b2.mono hbel0.size)
  have hr : Bytes w2 (.slice a 32 c) (wb N) := hv.row
  clear hbel0 b2 hv hb0
  go_loop [4, 5, 10] (fun _ _ i => ∃ k : Nat, k ≤ 32 ∧ i = .int .i64 (k : Int) ∧ numB N = bare ((wb N).drop k)) (fun _ _ i => 32 - (intOf i).toNat)
  case atStart => exact ⟨0, by omega, rfl, rfl⟩
  case round =>
    obtain ⟨k, hk, rfl, hbare⟩ := hrel
    by_cases hlt : k < 32
    · obtain ⟨b, off, rfl, hc⟩ := hr.at k (by rw [wb_len]; exact hlt)
      rw [List.drop_eq_getElem_cons (by rw [wb_len]; exact hlt)] at hbare
      obtain ⟨x, hx⟩ : ∃ x, x = (wb N)[k]'(by rw [wb_len]; exact hlt) := ⟨_, rfl⟩
      rw [← hx] at hc hbare
      have hki : (k : Int) < 32 := by omega
      by_cases h0 : x = 0
      · subst h0
        rw [bare_zero] at hbare
        have Hb := Lib.hid hbare
        clear hbare hx
        go_wp2
        go_round
        case rel => exact ⟨k + 1, by omega, by go_num, Hb.out⟩
        case measure => simp [intOf]; omega
      · have hxz := u8_nz' x h0
        rw [bare_else x _ h0, hx, ← List.drop_eq_getElem_cons] at hbare
        have Hb := Lib.hid hbare
        obtain ⟨a', c', s1, r1⟩ := RowOf.from elU8 hr k (by omega) (k : Int) rfl
        obtain ⟨m, hm⟩ : ∃ m, m = 32 - k := ⟨_, rfl⟩
        rw [← hm] at s1 r1
        have hk' : k ≤ 32 := by omega
        clear hbare hx hm
        go_wp2
        go_ret
        exact ⟨_, rfl, by rw [Hb.out]; exact r1, hbel2⟩
    · obtain rfl : k = 32 := by omega
      rw [List.drop_eq_nil_of_le (by rw [wb_len]; omega)] at hbare
      have hb : numB N = [] := hbare
      have Hb := Lib.hid hb
      clear hbare hb
      go_wp2
      go_ret
      exact ⟨_, rfl, by rw [Hb.out]; exact RowOf.nil _ _ _, hbel2⟩
end Go.Proofs.Ytohenjgegkgncaa
