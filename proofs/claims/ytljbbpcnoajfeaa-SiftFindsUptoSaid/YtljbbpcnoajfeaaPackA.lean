/- word.Sub. | word.Sub: the store lies in a region that draws its order: go_region_held3. | A store into an own slice of bytes; the sums of bytes. | The reference's WSub. | pack.Num and the reference's PNum. | pack.ToNum and the reference's PToNum. | The reference's PToNum. -/
import Derived.Test.YtljbbpcnoajfeaaWordA
import Derived.Shelf.Spec.BitsCarry
import Derived.Deep.RegionHeld3
import Derived.Test.YtljbbpcnoajfeaaBase
import Derived.Laws.ResultCell
/- (Word7) word.Sub. -/
set_option linter.unusedSimpArgs false
set_option linter.unusedVariables false
namespace Go.Proofs.Ytljbbpcnoajfeaa
open Go.RowKit
/-- the difference, rest 2^256 -/
def subN (N M : Nat) : Nat := (N + W256 - M) % W256
def bor (N M k : Nat) : Nat := if N % 2 ^ (64 * k) < M % 2 ^ (64 * k) then 1 else 0
theorem bor_le (N M k : Nat) : bor N M k ≤ 1 := by unfold bor; split <;> omega
theorem bor_zero (N M : Nat) : bor N M 0 = 0 := by unfold bor; simp [Nat.mod_one]
theorem mod_step (N k : Nat) : N % 2 ^ (64 * (k + 1)) = 2 ^ (64 * k) * lim N k + N % 2 ^ (64 * k) := by
  rw [show 64 * (k + 1) = 64 * k + 64 from by omega, Nat.pow_add, Nat.mod_mul, Nat.add_comm]; rfl
theorem bor_step (N M k : Nat) : bor N M (k + 1) = if lim N k < lim M k + bor N M k then 1 else 0 := by
  unfold bor
  rw [mod_step, mod_step]
  have hP : 0 < 2 ^ (64 * k) := Nat.two_pow_pos _
  have h1 : N % 2 ^ (64 * k) < 2 ^ (64 * k) := Nat.mod_lt _ hP
  have h2 : M % 2 ^ (64 * k) < 2 ^ (64 * k) := Nat.mod_lt _ hP
  generalize N % 2 ^ (64 * k) = a at *
  generalize M % 2 ^ (64 * k) = b at *
  generalize 2 ^ (64 * k) = P at *
  generalize lim N k = x at *
  generalize lim M k = y at *
  rcases Nat.lt_trichotomy x y with h | h | h
  · have : P * (x + 1) ≤ P * y := Nat.mul_le_mul_left _ h
    rw [Nat.mul_add, Nat.mul_one] at this
    rw [if_pos (by omega), if_pos (by split <;> omega)]
  · subst h
    by_cases hab : a < b
    · rw [if_pos (by omega), if_pos (by rw [if_pos hab]; omega)]
    · rw [if_neg (by omega), if_neg (by rw [if_neg hab]; omega)]
  · have : P * (y + 1) ≤ P * x := Nat.mul_le_mul_left _ h
    rw [Nat.mul_add, Nat.mul_one] at this
    rw [if_neg (by omega), if_neg (by split <;> omega)]
theorem sub_step (N M k : Nat) (hk : k < 4) (hM : M < W256) : (lim N k + 18446744073709551616 - lim M k - bor N M k) % 18446744073709551616 = lim (subN N M) k := by
  unfold subN bor W256 at *
  rcases (show k = 0 ∨ k = 1 ∨ k = 2 ∨ k = 3 from by omega) with rfl | rfl | rfl | rfl
  · rw [lim0, lim0, lim0, if_neg (by simp [Nat.mod_one])]; omega
  · rw [lim1, lim1, lim1, show 2 ^ (64 * 1) = 18446744073709551616 from rfl]; split <;> omega
  · rw [lim2, lim2, lim2, show 2 ^ (64 * 2) = 340282366920938463463374607431768211456 from rfl]; split <;> omega
  · rw [lim3, lim3, lim3, show 2 ^ (64 * 3) = 6277101735386680763835789423207666416102355444464034512896 from rfl]; split <;> omega
end Go.Proofs.Ytljbbpcnoajfeaa
/- (Word8) word.Sub: the store lies in a region that draws its order: go_region_held3. -/
namespace Go.Proofs.Ytljbbpcnoajfeaa
open Go.RowKit
end Go.Proofs.Ytljbbpcnoajfeaa
/- (Word9) A store into an own slice of bytes; the sums of bytes. -/
namespace Go.Proofs.Ytljbbpcnoajfeaa
open Go.RowKit
/-- What an own slice of bytes is. -/
theorem OwnOf.parts {e : TypeId} {w : World} {B : Nat} {a : Option Addr} {n c : Nat} {l : List UInt8} (h : OwnOf b8 1 e w B (.slice a n c) l) (hn : 0 < n) :
    ∃ g cur, a = some ⟨g, 0, none⟩ ∧ B ≤ g ∧ w.heap[g]? = some (.cells cur e (0, 0)) ∧ n ≤ c ∧ cur.size = c ∧ n = l.length := by
  obtain ⟨h1, h2⟩ := h
  rcases h2 with ⟨h2, h3⟩ | ⟨g, cap, cur, h2, h3, h4, h5, h6, h7, h8⟩
  · simp only [Value.slice.injEq] at h2; omega
  · simp only [Value.slice.injEq] at h2
    obtain ⟨rfl, rfl, rfl⟩ := h2
    exact ⟨g, cur, rfl, h3, h4, h5, by omega, rfl⟩
theorem OwnOf.set {e : TypeId} {w : World} {B g n c : Nat} {l : List UInt8} (h : OwnOf b8 1 e w B (.slice (some ⟨g, 0, none⟩) n c) l) (k : Nat) (x : UInt8) :
    OwnOf b8 1 e (w.setCell ⟨g, k, none⟩ (u8v x)) B (.slice (some ⟨g, 0, none⟩) n c) (l.set k x) := by
  obtain ⟨h1, h2⟩ := h
  refine ⟨by rw [flat_b8, List.length_map, Nat.mul_one], ?_⟩
  rcases h2 with ⟨h2, h3⟩ | ⟨g', cap, cur, h2, h3, h4, h5, h6, h7, h8⟩
  · cases h2
  · simp only [Value.slice.injEq, Option.some.injEq, Addr.mk.injEq, and_true] at h2
    obtain ⟨rfl, rfl, rfl⟩ := h2
    refine .inr ⟨g, c, cur.setIfInBounds k (u8v x), ?_, h3, ?_, ?_, h6, ?_, ?_⟩
    · rw [List.length_set]
    · exact heap_setCell_same w g k cur e (u8v x) h4
    · rw [List.length_set]; exact h5
    · simpa using h7
    · rw [flat_b8] at h8 ⊢
      rw [List.length_set, Array.toList_setIfInBounds, List.map_set, ← h8]
      rw [List.take_set]
/-- byte k of N, the least first -/
def byteN (N k : Nat) : Nat := N / 2 ^ (8 * k) % 256
theorem wbyte_nat (N i : Nat) : (wbyte N i).toNat = byteN N (31 - i) := by
  unfold wbyte byteN; rw [UInt8.toNat_ofNat']
def bor8 (N M k : Nat) : Nat := if N % 2 ^ (8 * k) < M % 2 ^ (8 * k) then 1 else 0
theorem bor8_le (N M k : Nat) : bor8 N M k ≤ 1 := by unfold bor8; split <;> omega
theorem bor8_zero (N M : Nat) : bor8 N M 0 = 0 := by unfold bor8; simp [Nat.mod_one]
theorem mod_step8 (N k : Nat) : N % 2 ^ (8 * (k + 1)) = 2 ^ (8 * k) * byteN N k + N % 2 ^ (8 * k) := by
  rw [show 8 * (k + 1) = 8 * k + 8 from by omega, Nat.pow_add, Nat.mod_mul, Nat.add_comm]; rfl
theorem bor8_step (N M k : Nat) : bor8 N M (k + 1) = if byteN N k < byteN M k + bor8 N M k then 1 else 0 := by
  unfold bor8
  rw [mod_step8, mod_step8]
  have hP : 0 < 2 ^ (8 * k) := Nat.two_pow_pos _
  have h1 : N % 2 ^ (8 * k) < 2 ^ (8 * k) := Nat.mod_lt _ hP
  have h2 : M % 2 ^ (8 * k) < 2 ^ (8 * k) := Nat.mod_lt _ hP
  generalize N % 2 ^ (8 * k) = a at *
  generalize M % 2 ^ (8 * k) = b at *
  generalize 2 ^ (8 * k) = P at *
  generalize byteN N k = x at *
  generalize byteN M k = y at *
  rcases Nat.lt_trichotomy x y with h | h | h
  · have : P * (x + 1) ≤ P * y := Nat.mul_le_mul_left _ h
    rw [Nat.mul_add, Nat.mul_one] at this
    rw [if_pos (by omega), if_pos (by split <;> omega)]
  · subst h
    by_cases hab : a < b
    · rw [if_pos (by omega), if_pos (by rw [if_pos hab]; omega)]
    · rw [if_neg (by omega), if_neg (by rw [if_neg hab]; omega)]
  · have : P * (y + 1) ≤ P * x := Nat.mul_le_mul_left _ h
    rw [Nat.mul_add, Nat.mul_one] at this
    rw [if_neg (by omega), if_neg (by split <;> omega)]
theorem sub8_step (N M k : Nat) (hk : k < 32) (hM : M < W256) : (byteN N k + 256 - byteN M k - bor8 N M k) % 256 = byteN (subN N M) k := by
  unfold subN byteN bor8
  obtain ⟨R, hR⟩ : ∃ R, R = 2 ^ (248 - 8 * k) := ⟨_, rfl⟩
  have hW : W256 = 2 ^ (8 * k) * (256 * R) := by
    rw [hR, show (256 : Nat) = 2 ^ 8 from rfl, ← Nat.pow_add, ← Nat.pow_add, show 8 * k + (8 + (248 - 8 * k)) = 256 from by omega]; rfl
  have hP : 0 < 2 ^ (8 * k) := Nat.two_pow_pos _
  rw [hW] at hM ⊢
  rw [Nat.mod_mul_right_div_self, Nat.mod_mod_of_dvd _ ⟨R, rfl⟩]
  clear hW hR
  have hn := Nat.div_add_mod N (2 ^ (8 * k))
  have hm := Nat.div_add_mod M (2 ^ (8 * k))
  have hn0 := Nat.mod_lt N hP
  have hm0 := Nat.mod_lt M hP
  have hmm : M / 2 ^ (8 * k) < 256 * R := by rw [Nat.div_lt_iff_lt_mul hP, Nat.mul_comm]; exact hM
  generalize N % 2 ^ (8 * k) = n0 at *
  generalize M % 2 ^ (8 * k) = m0 at *
  generalize N / 2 ^ (8 * k) = nn at *
  generalize M / 2 ^ (8 * k) = mm at *
  generalize 2 ^ (8 * k) = P at *
  have key : (N + P * (256 * R) - M) / P = nn + 256 * R - mm - (if n0 < m0 then 1 else 0) := by
    subst hn hm
    have hle : P * (mm + 1) ≤ P * (256 * R) := Nat.mul_le_mul_left _ hmm
    rw [Nat.mul_add, Nat.mul_one] at hle
    split
    · rename_i h
      have e : P * nn + n0 + P * (256 * R) - (P * mm + m0) = P * (nn + 256 * R - mm - 1) + (P + n0 - m0) := by
        rw [Nat.mul_sub, Nat.mul_sub, Nat.mul_add, Nat.mul_one]; omega
      rw [e, Nat.mul_add_div hP, Nat.div_eq_of_lt (by omega)]; omega
    · rename_i h
      have e : P * nn + n0 + P * (256 * R) - (P * mm + m0) = P * (nn + 256 * R - mm) + (n0 - m0) := by
        rw [Nat.mul_sub, Nat.mul_add]; omega
      rw [e, Nat.mul_add_div hP, Nat.div_eq_of_lt (by omega)]; omega
  rw [key]
  split <;> omega
end Go.Proofs.Ytljbbpcnoajfeaa
/- (Word10) The reference's WSub. -/
namespace Go.Proofs.Ytljbbpcnoajfeaa
open Go.RowKit
theorem z4_zero : wcs 0 = z4 := wcs_small 0 (by omega)
/-- The worlds behind w0. -/
def Beh (w0 : World) : World → Prop := fun w' => Below w0.heap.size w0 w'
theorem Beh.cell {w0 : World} {p : Addr} {v : Value} (h : w0.cell? p = some v) : ∀ u : In (Beh w0), u.val.cell? p = some v := fun u => by
  have hb : Below w0.heap.size w0 u.val := u.held
  rw [hb.cell (World.block_lt_of_cell? w0 _ h)]; exact h
end Go.Proofs.Ytljbbpcnoajfeaa
/- (Pack1) pack.Num and the reference's PNum. -/
namespace Go.Proofs.Ytljbbpcnoajfeaa
open Go.RowKit
/-- the bytes without noughts ahead -/
def bare (l : List UInt8) : List UInt8 := l.dropWhile (· == 0)
def numB (N : Nat) : List UInt8 := bare (wb N)
theorem bare_zero (l : List UInt8) : bare (0 :: l) = bare l := by simp [bare]
theorem bare_else (x : UInt8) (l : List UInt8) (h : x ≠ 0) : bare (x :: l) = x :: l := by simp [bare, h]
theorem bare_len (l : List UInt8) : (bare l).length ≤ l.length := by
  induction l with
  | nil => simp [bare]
  | cons x l ih =>
    by_cases h : x = 0
    · rw [h, bare_zero]; simp; omega
    · rw [bare_else x l h]; exact Nat.le_refl _
theorem u8_nz (x : UInt8) (h : x ≠ 0) : ((x.toNat : Int) == 0) = false := by
  rw [beq_eq_false_iff_ne]; intro e; apply h; exact UInt8.toNat_inj.1 (by have : (0 : UInt8).toNat = 0 := rfl; omega)
set_option maxHeartbeats 400000 in
set_option maxRecDepth 100000 in
theorem num_any (N : Nat) (w : World) :
    Calls Try.prog 107 #[wv N] w fun e w' => ∃ v, e = .returned v ∧ OwnOf b8 1 5 w' w.heap.size v (numB N) ∧ Below w.heap.size w w' := by
  have hb0 := boxW w N
  have hbel0 : Below w.heap.size w (w.alloc (.cells (wcs N).toArray 142)) := (Below.refl _ _).alloc (Nat.le_refl _) _
  show Calls Try.prog 107 #[.agg (wcs N).toArray] w _
  go_enter Try.func107, Try.ntmps107
  go_wp2_with (first
    | (refine wpList_loadA rfl 142 (.tmp 1) rfl w.heap.size rfl aggWord hb0 (wcs_len _) ?_)
    | (go_at_call 66; refine (bytes_any N _).mono ?_; rintro e w2 ⟨rfl, b2⟩)
    | (refine wpList_storeA rfl 43 (.tmp 3) (.tmp 6) rfl w2.heap.size (hcs N) rfl rfl aggHash (Blk.new w2 43 z32) (hcs_len _) rfl (hcs_one _) (Below.alloc (Below.refl w2.heap.size w2) (Nat.le_refl _) _) (Nat.le_refl _) ?_; intro w3 hh3 b3 _))
  have hbel3 := hbel0.trans ((b2.trans (b3.mono b2.size)).mono hbel0.size)
  have hhrow : Bytes w3 (.slice (some ⟨w2.heap.size, 0, none⟩) 32 32) (wb N) := hh3.row (wb N) 32 32 (fun _ => rfl) (wb_len N) (fun j u hj => by rw [flat_b8] at hj; exact hj) (Nat.le_refl _) (by unfold maxLen; omega)
  have hsz := hbel3.size
  clear hb0 hbel0 b2 b3
  go_loop [4] (fun v => ∃ (l' : List UInt8) (n : Nat) (a : Option Addr) (c : Nat), l'.length = n ∧ n ≤ 32 ∧ v = .slice a n c ∧ Bytes w3 v l' ∧ numB N = bare l') (fun v => lenV v)
  case atStart => exact ⟨wb N, 32, _, _, wb_len N, Nat.le_refl _, rfl, hhrow, rfl⟩
  case round =>
    clear hhrow
    obtain ⟨l', n, a, c, hn, hn32, rfl, hr, hbare⟩ := hrel
    cases l' with
    | nil =>
      obtain rfl : n = 0 := by simpa using hn.symm
      have hb : numB N = [] := hbare
      have Hb := Lib.hid hb
      clear hbare hb hn
      go_wp2_with (at_builtin; (refine wpList_app rfl (.tmp 19) (.tmp 20) 22 rfl elU8 rfl (OwnOf.empty b8 1 5 w3 w.heap.size hsz) rfl (hr.alloc _) (hbel3.alloc hsz _) (by simp; omega) (by simp) (by simp [maxLen]) ?_; intro v4 w4 hv4 hg4 _ hB4))
      go_ret
      exact ⟨_, rfl, by rw [Hb.out]; exact hv4, hg4⟩
    | cons x t =>
      have hpos : 0 < n := by rw [← hn]; simp
      have hposi : (0 : Int) < (n : Int) := by omega
      have hd : decide ((0 : Int) < (n : Int)) = true := by rw [decide_eq_true_eq]; omega
      have hd' : decide (0 < n) = true := by rw [decide_eq_true_eq]; omega
      obtain ⟨b, off, rfl, hc⟩ := hr.at 0 (by simp)
      simp only [List.getElem_cons_zero, Nat.add_zero] at hc
      by_cases hx : x = 0
      · subst hx
        rw [bare_zero] at hbare
        obtain ⟨a', c', s1, r1⟩ := RowOf.from elU8 hr 1 (by omega) 1 rfl
        obtain ⟨m, hm⟩ : ∃ m, m = n - 1 := ⟨_, rfl⟩
        rw [← hm] at s1 r1
        have hmt : t.length = m := by simp at hn; omega
        have hmn : m < n := by omega
        have hm32 : m ≤ 32 := by omega
        simp only [List.drop_succ_cons, List.drop_zero] at r1
        have Hb := Lib.hid hbare
        clear hm hn hbare
        go_wp2
        go_round
        case rel => exact ⟨t, m, a', c', hmt, hm32, rfl, r1, Hb.out⟩
        case measure => simpa [lenV] using hmn
      · have hxz := u8_nz x hx
        rw [bare_else x t hx] at hbare
        have Hb := Lib.hid hbare
        have hn' := Lib.hid hn
        clear hbare hn
        go_wp2_with (at_builtin; (refine wpList_app rfl (.tmp 19) (.tmp 20) 22 rfl elU8 rfl (OwnOf.empty b8 1 5 w3 w.heap.size hsz) rfl (hr.alloc _) (hbel3.alloc hsz _) (by simp; omega) (by rw [hn'.out]; simp; omega) (by rw [hn'.out]; simp [maxLen]; omega) ?_; intro v4 w4 hv4 hg4 _ hB4))
        go_ret
        exact ⟨_, rfl, by rw [Hb.out]; exact hv4, hg4⟩
theorem u8_nz' (x : UInt8) (h : x ≠ 0) : ((x.toNat : Int) != 0) = true := by
  have := u8_nz x h; simp [bne, this]
set_option maxHeartbeats 400000 in
set_option maxRecDepth 100000 in
theorem pnum_any (N : Nat) (w : World) :
    Calls Try.prog 114 #[wv N] w fun e w' => ∃ v, e = .returned v ∧ Bytes w' v (numB N) ∧ Below w.heap.size w w' := by
  have hb0 := boxW w N
  have hbel0 : Below w.heap.size w (w.alloc (.cells (wcs N).toArray 142)) := (Below.refl _ _).alloc (Nat.le_refl _) _
  show Calls Try.prog 114 #[.agg (wcs N).toArray] w _
  go_enter Try.func114, Try.ntmps114
  go_wp2_with (first
    | (refine wpList_loadA rfl 142 (.tmp 1) rfl w.heap.size rfl aggWord hb0 (wcs_len _) ?_)
    | (go_at_call 65; refine (wbytes_any N _).mono ?_; rintro e w2 ⟨v, rfl, hv, b2⟩; obtain ⟨a, c, rfl, _⟩ := hv.form' 32 (wb_len N)))
  have hbel2 := hbel0.trans (b2.mono hbel0.size)
  have hr : Bytes w2 (.slice a 32 c) (wb N) := hv.row
  clear hbel0 b2 hv hb0
  go_loop [4, 5, 10] (fun _ _ i => ∃ k : Nat, k ≤ 32 ∧ i = .int .i64 (k : Int) ∧ numB N = bare ((wb N).drop k)) (fun _ _ i => 32 - (intOf i).toNat)
  case atStart => exact ⟨0, by omega, rfl, rfl⟩
  case round =>
    obtain ⟨k, hk, rfl, hbare⟩ := hrel
    by_cases hlt : k < 32
    · obtain ⟨b, off, rfl, hc⟩ := hr.at k (by rw [wb_len]; exact hlt)
      rw [List.drop_eq_getElem_cons (by rw [wb_len]; exact hlt)] at hbare
      obtain ⟨x, hx⟩ : ∃ x, x = (wb N)[k]'(by rw [wb_len]; exact hlt) := ⟨_, rfl⟩
      rw [← hx] at hc hbare
      have hki : (k : Int) < 32 := by omega
      by_cases h0 : x = 0
      · subst h0
        rw [bare_zero] at hbare
        have Hb := Lib.hid hbare
        clear hbare hx
        go_wp2
        go_round
        case rel => exact ⟨k + 1, by omega, by go_num, Hb.out⟩
        case measure => simp [intOf]; omega
      · have hxz := u8_nz' x h0
        rw [bare_else x _ h0, hx, ← List.drop_eq_getElem_cons] at hbare
        have Hb := Lib.hid hbare
        obtain ⟨a', c', s1, r1⟩ := RowOf.from elU8 hr k (by omega) (k : Int) rfl
        obtain ⟨m, hm⟩ : ∃ m, m = 32 - k := ⟨_, rfl⟩
        rw [← hm] at s1 r1
        have hk' : k ≤ 32 := by omega
        clear hbare hx hm
        go_wp2
        go_ret
        exact ⟨_, rfl, by rw [Hb.out]; exact r1, hbel2⟩
    · obtain rfl : k = 32 := by omega
      rw [List.drop_eq_nil_of_le (by rw [wb_len]; omega)] at hbare
      have hb : numB N = [] := hbare
      have Hb := Lib.hid hb
      clear hbare hb
      go_wp2
      go_ret
      exact ⟨_, rfl, by rw [Hb.out]; exact RowOf.nil _ _ _, hbel2⟩
end Go.Proofs.Ytljbbpcnoajfeaa
/- (Pack2) pack.ToNum and the reference's PToNum. -/
namespace Go.Proofs.Ytljbbpcnoajfeaa
open Go.RowKit
theorem bare_head (l : List UInt8) : (bare l).head? ≠ some 0 := by
  induction l with
  | nil => simp [bare]
  | cons x l ih =>
    by_cases h : x = 0
    · rw [h, bare_zero]; exact ih
    · rw [bare_else x l h]; simpa using h
theorem bare_same (l : List UInt8) (h : l.head? ≠ some 0) : bare l = l := by
  cases l with
  | nil => rfl
  | cons x l => exact bare_else x l (by simpa using h)
theorem bare_pad (k : Nat) (l : List UInt8) : bare (List.replicate k 0 ++ l) = bare l := by
  induction k with
  | zero => rfl
  | succ k ih => rw [List.replicate_succ, List.cons_append, bare_zero, ih]
theorem numL_pad (k : Nat) (l : List UInt8) : numL (List.replicate k 0 ++ l) = numL l := by
  induction k with
  | zero => rfl
  | succ k ih => rw [List.replicate_succ, List.cons_append, numL, ih]; simp
theorem numL_inj : ∀ (l m : List UInt8), l.length = m.length → numL l = numL m → l = m
  | [], [], _, _ => rfl
  | [], _ :: _, h, _ => by simp at h
  | _ :: _, [], h, _ => by simp at h
  | x :: l, y :: m, h, e => by
    have hl : l.length = m.length := by simpa using h
    have b1 := numL_lt l
    have b2 := numL_lt m
    simp only [numL] at e
    rw [hl] at b1 e
    have ih := numL_inj l m hl
    generalize 256 ^ m.length = P at *
    rcases Nat.lt_trichotomy x.toNat y.toNat with h1 | h1 | h1
    · have : (x.toNat + 1) * P ≤ y.toNat * P := Nat.mul_le_mul_right _ h1
      rw [Nat.add_mul, Nat.one_mul] at this; omega
    · obtain rfl : x = y := UInt8.toNat_inj.1 h1
      rw [ih (by omega)]
    · have : (y.toNat + 1) * P ≤ x.toNat * P := Nat.mul_le_mul_right _ h1
      rw [Nat.add_mul, Nat.one_mul] at this; omega
theorem numL_small (l : List UInt8) (h : l.length ≤ 32) : numL l < W256 :=
  Nat.lt_of_lt_of_le (numL_lt l) (by
    have : (256 : Nat) ^ l.length ≤ 256 ^ 32 := Nat.pow_le_pow_right (by omega) h
    exact this)
theorem wb_num (l : List UInt8) (h : l.length ≤ 32) : wb (numL l) = List.replicate (32 - l.length) 0 ++ l := by
  apply numL_inj
  · rw [wb_len]; simp; omega
  · rw [numL_wb _ (numL_small l h), numL_pad]
def okNum (l : List UInt8) : Bool := decide (l.length ≤ 32) && !(l.head? == some 0)
def numE (l : List UInt8) : Int := if okNum l = true then 0 else 1
def numV (l : List UInt8) : Nat := if okNum l = true then numL l else 0
theorem num_yes {l : List UInt8} (h : okNum l = true) : numE l = 0 ∧ numV l = numL (last32 l) := by
  unfold numE numV
  rw [if_pos h, if_pos h]
  unfold okNum at h
  simp only [Bool.and_eq_true, decide_eq_true_eq] at h
  rw [last_small l h.1]; exact ⟨rfl, rfl⟩
theorem num_no {l : List UInt8} (h : okNum l = false) : numE l = 1 ∧ numV l = 0 := by
  unfold numE numV
  rw [h]; exact ⟨rfl, rfl⟩
theorem num_same (l : List UInt8) : (numB (numL (last32 l)) == l) = okNum l := by
  cases h : okNum l with
  | true =>
    unfold okNum at h
    simp only [Bool.and_eq_true, decide_eq_true_eq, Bool.not_eq_true', beq_eq_false_iff_ne] at h
    rw [last_small l h.1, numB, wb_num l h.1, bare_pad, bare_same l h.2]
    simp
  | false =>
    rw [beq_eq_false_iff_ne]
    intro e
    have h1 := bare_head (wb (numL (last32 l)))
    have h2 := bare_len (wb (numL (last32 l)))
    rw [wb_len] at h2
    unfold numB at e
    rw [e] at h1 h2
    have : okNum l = true := by
      unfold okNum
      simp only [Bool.and_eq_true, decide_eq_true_eq, Bool.not_eq_true', beq_eq_false_iff_ne]
      exact ⟨h2, h1⟩
    rw [h] at this; cases this
end Go.Proofs.Ytljbbpcnoajfeaa
/- (Pack3) The reference's PToNum. -/
namespace Go.Proofs.Ytljbbpcnoajfeaa
open Go.RowKit
end Go.Proofs.Ytljbbpcnoajfeaa
