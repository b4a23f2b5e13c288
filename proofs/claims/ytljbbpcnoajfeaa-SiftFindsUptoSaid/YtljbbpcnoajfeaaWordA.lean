/- Words as numbers; word.Bytes and the reference's WBytes. | word.Cmp, word.Int and the reference's WInt, WLess, WCmp. | word.Int and the reference's WInt, WLess, WCmp. | The reference's WLess and WCmp. | word.Read and the reference's WRead. | word.Read. -/
import Derived.Test.YtljbbpcnoajfeaaTabs
import Derived.Test.YtljbbpcnoajfeaaBase
import Derived.Deep.Onto
import Derived.Sort.Walk0
/- (Word1) Words as numbers; word.Bytes and the reference's WBytes. -/
set_option linter.unusedSimpArgs false
set_option linter.unusedVariables false
namespace Go.Proofs.Ytljbbpcnoajfeaa
open Go.RowKit
theorem aggWord : Agg Try.prog 142 4 := ⟨_, Try.underlying142, rfl, by kernel_rfl⟩
theorem aggHash : Agg Try.prog 43 32 := ⟨_, Try.underlying43, rfl, by kernel_rfl⟩
/-- part i of the word N -/
def lim (N i : Nat) : Nat := N / 2 ^ (64 * i) % 18446744073709551616
def limI (N : Nat) : List Int := [(lim N 0 : Int), (lim N 1 : Int), (lim N 2 : Int), (lim N 3 : Int)]
/-- the cells of the word N -/
def wcs (N : Nat) : List Value := (limI N).map (Value.int .u64)
/-- the word N -/
def wv (N : Nat) : Value := .agg (wcs N).toArray
theorem lim_lt (N i : Nat) : lim N i < 18446744073709551616 := Nat.mod_lt _ (by omega)
theorem wcs_len (N : Nat) : (wcs N).length = 4 := rfl
theorem wcs_at (N i : Nat) (h : i < 4) : (wcs N)[i]? = some (.int .u64 (lim N i : Int)) := by
  rcases (show i = 0 ∨ i = 1 ∨ i = 2 ∨ i = 3 from by omega) with rfl | rfl | rfl | rfl <;> rfl
theorem wcs_one (N : Nat) : ∀ u ∈ wcs N, u.oneCell' = true := by
  intro u hu
  obtain ⟨x, _, rfl⟩ := List.mem_map.1 hu
  rfl
theorem Blk.wat {e : TypeId} {w : World} {b N : Nat} (hb : Blk e w b (wcs N)) (i : Nat) (hi : i < 4) : w.cell? ⟨b, i, none⟩ = some (.int .u64 (lim N i : Int)) := by
  rw [hb.cell, wcs_at N i hi]
/-- byte i of the word N, the greatest first -/
def wbyte (N i : Nat) : UInt8 := UInt8.ofNat (N / 2 ^ (8 * (31 - i)))
def wb (N : Nat) : List UInt8 := (List.range 32).map (wbyte N)
theorem wb_len (N : Nat) : (wb N).length = 32 := by simp [wb]
theorem wb_at (N i : Nat) (h : i < 32) : (wb N)[i]? = some (wbyte N i) := by simp [wb, h]
theorem wb_get (N i : Nat) (h : i < (wb N).length) : (wb N)[i] = wbyte N i := by simp [wb]
theorem lim_byte (N q r : Nat) (hr : r ≤ 7) : lim N q / 2 ^ (8 * r) % 256 = N / 2 ^ (8 * (8 * q + r)) % 256 := by
  unfold lim
  have h1 : (18446744073709551616 : Nat) = 2 ^ (8 * r) * 2 ^ (64 - 8 * r) := by rw [← Nat.pow_add, show 8 * r + (64 - 8 * r) = 64 from by omega]
  rw [h1, Nat.mod_mul_right_div_self, Nat.div_div_eq_div_mul, ← Nat.pow_add, show 64 * q + 8 * r = 8 * (8 * q + r) from by omega]
  exact Nat.mod_mod_of_dvd _ ⟨2 ^ (56 - 8 * r), by rw [show (256 : Nat) = 2 ^ 8 from rfl, ← Nat.pow_add, show 64 - 8 * r = 8 + (56 - 8 * r) from by omega]⟩
/-- the byte as the code makes it -/
theorem wbyte_cell (N q r i : Nat) (hr : r ≤ 7) (hi : 8 * q + r = 31 - i) : IntKind.u8.wrap ((lim N q : Int) / 2 ^ (8 * r)) = ((wbyte N i).toNat : Int) := by
  have h := lim_byte N q r hr
  have e : (lim N q : Int) / 2 ^ (8 * r) = ((lim N q / 2 ^ (8 * r) : Nat) : Int) := by rw [Int.natCast_ediv, Int.natCast_pow]; rfl
  rw [IntKind.wrap_u8', e, wbyte, ← hi, UInt8.toNat_ofNat']
  rw [show 2 ^ 8 = 256 from rfl, ← h]
  omega
theorem wb_snoc (N k : Nat) (h : k < 32) : (wb N).take (k + 1) = (wb N).take k ++ [wbyte N k] := by
  rw [List.take_succ_eq_append_getElem (by rw [wb_len]; exact h), wb_get]
theorem boxW (w : World) (N : Nat) : Blk 142 (w.alloc (.cells (wcs N).toArray 142)) w.heap.size (wcs N) := Blk.new w _ _
set_option maxHeartbeats 400000 in
set_option maxRecDepth 100000 in
theorem wbytes_any (N : Nat) (w : World) :
    Calls Try.prog 65 #[wv N] w fun e w' => ∃ v, e = .returned v ∧ OwnOf b8 1 5 w' w.heap.size v (wb N) ∧ Below w.heap.size w w' := by
  have hb0 := boxW w N
  have hbel0 : Below w.heap.size w (w.alloc (.cells (wcs N).toArray 142)) := (Below.refl _ _).alloc (Nat.le_refl _) _
  show Calls Try.prog 65 #[.agg (wcs N).toArray] w _
  go_enter Try.func65, Try.ntmps65
  go_wp2
  go_loopw [3, 4, 5] (fun v i _ wr => ∃ (q : Nat) (x : Int), q ≤ 4 ∧ i = .int .i64 x ∧ x + 1 = (q : Int) ∧ OwnOf b8 1 5 wr (w.heap.size + 1) v ((wb N).take (8 * (4 - q))) ∧ Blk 142 wr w.heap.size (wcs N) ∧ Below w.heap.size w wr ∧ w.heap.size + 1 ≤ wr.heap.size) (fun _ i _ _ => ((intOf i) + 1).toNat)
  case atStart => exact ⟨4, 3, by omega, rfl, rfl, by simpa using OwnOf.nil _ _ _ _ _, hb0, hbel0, by simp⟩
  case round =>
    clear hb0 hbel0
    obtain ⟨q, x, hq, rfl, hx, hown, hb, hbel, hB⟩ := hrel
    by_cases hlt : 0 < q
    · obtain ⟨p, rfl⟩ : ∃ p, q = p + 1 := ⟨q - 1, by omega⟩
      obtain rfl : x = (p : Int) := by omega
      have hd : decide (0 ≤ (p : Int)) = true := by rw [decide_eq_true_eq]; omega
      go_wp2
      go_loopw [3, 5] (fun v i wr => ∃ (j : Nat) (x : Int), j ≤ 8 ∧ i = .int .i64 x ∧ x + 8 = 8 * (j : Int) ∧ OwnOf b8 1 5 wr (w.heap.size + 1) v ((wb N).take (8 * (3 - p) + (8 - j))) ∧ Blk 142 wr w.heap.size (wcs N) ∧ Below w.heap.size w wr ∧ w.heap.size + 1 ≤ wr.heap.size) (fun _ i _ => ((intOf i) + 8).toNat)
      case atStart => exact ⟨8, 56, by omega, rfl, rfl, by rw [show 8 * (3 - p) + (8 - 8) = 8 * (4 - (p + 1)) from by omega]; exact hown, hb, hbel, hB⟩
      case round =>
        clear hown hb hbel hB
        obtain ⟨j, x, hj, rfl, hx2, hown, hb, hbel, hB⟩ := hrel
        by_cases hlt2 : 0 < j
        · obtain ⟨r, rfl⟩ : ∃ r, j = r + 1 := ⟨j - 1, by omega⟩
          obtain ⟨s, hs⟩ : ∃ s, s = 8 * r := ⟨_, rfl⟩
          obtain rfl : x = (s : Int) := by omega
          have hd2 : decide (0 ≤ (s : Int)) = true := by rw [decide_eq_true_eq]; omega
          obtain ⟨g, hg⟩ : ∃ g, g = 8 * (3 - p) + (7 - r) := ⟨_, rfl⟩
          have hc := hb.wat p (by omega)
          have hl := lim_lt N p
          have hcell := wbyte_cell N p r g (by omega) (by omega)
          rw [← hs] at hcell
          have hsn := wb_snoc N g (by omega)
          have hl1 : ((wb N).take g).length = g := by rw [List.length_take, wb_len]; omega
          rw [show 8 * (3 - p) + (8 - (r + 1)) = g from by omega] at hown
          have hgn : 8 * (3 - p) + (8 - r) = g + 1 := by omega
          have hg32 : g < 32 := by omega
          have Hgn := Lib.hid hgn
          have Hl1 := Lib.hid hl1
          have Hsn := Lib.hid hsn
          have hsr : (s : Int) - 8 + 8 = 8 * (r : Int) := by omega
          clear hl1 hsn hs hgn hg
          go_wp2_with (at_builtin; (refine wpList_app rfl (.tmp 14) (.tmp 21) 22 rfl elU8 rfl (hown.alloc _) rfl (RowOf.made b8 1 _ [wbyte N g] _ _ 1 rfl rfl rfl (by decide)) (Below.alloc (Below.refl (w.heap.size + 1) wr) hB _) (by simp; omega) (by rw [Hl1.out]; simp; omega) (by rw [Hl1.out]; simp [maxLen]; omega) ?_; intro v4 w4 hv4 hg4 _ hB4))
          rw [← Hsn.out] at hv4
          go_roundw
          case rel =>
            exact ⟨r, (s : Int) - 8, by omega, by go_num, hsr, by rw [Hgn.out]; exact hv4, hb.below hg4 (by omega), hbel.trans (hg4.mono (by omega)), hB4⟩
          case measure => simp [intOf]; omega
        · obtain rfl : j = 0 := by omega
          obtain rfl : x = -8 := by omega
          go_wp2
          go_roundw
          case rel => exact ⟨p, (p : Int) - 1, by omega, by go_num, by omega, by rw [show 8 * (4 - p) = 8 * (3 - p) + (8 - 0) from by omega]; exact hown, hb, hbel, hB⟩
          case measure => simp [intOf]
    · obtain rfl : q = 0 := by omega
      obtain rfl : x = -1 := by omega
      go_wp2
      go_ret
      refine ⟨_, rfl, ?_, hbel⟩
      rw [List.take_of_length_le (by rw [wb_len]; omega)] at hown
      exact World.ownsRow.mono hown (by omega)
def z32 : List Value := List.replicate 32 (.int .u8 0)
/-- the cells of the hash that the word N's bytes are -/
def hcs (N : Nat) : List Value := (wb N).map u8v
theorem hcs_len (N : Nat) : (hcs N).length = 32 := by simp [hcs, wb_len]
theorem hcs_at (N i : Nat) (h : i < 32) : (hcs N)[i]? = some (u8v (wbyte N i)) := by rw [hcs, List.getElem?_map, wb_at N i h]; rfl
theorem hcs_one (N : Nat) : ∀ u ∈ hcs N, u.oneCell' = true := by
  intro u hu
  obtain ⟨x, _, rfl⟩ := List.mem_map.1 hu
  rfl
set_option maxHeartbeats 400000 in
set_option maxRecDepth 100000 in
theorem bytes_any (N : Nat) (w : World) :
    Calls Try.prog 66 #[wv N] w fun e w' => e = .returned (.agg (hcs N).toArray) ∧ Below w.heap.size w w' := by
  obtain ⟨w1, hw1⟩ : ∃ w1, w1 = ((w.alloc (.cells (wcs N).toArray 142)).alloc (.cells z32.toArray 43)).alloc (.cells z32.toArray 43) := ⟨_, rfl⟩
  have hb0 : Blk 142 w1 w.heap.size (wcs N) := by rw [hw1]; exact ((boxW w N).alloc _).alloc _
  have hz0 : Blk 43 w1 (w.heap.size + 1) z32 := by
    have := Blk.new (w.alloc (.cells (wcs N).toArray 142)) 43 z32
    rw [hw1]; simpa using this.alloc (.cells z32.toArray 43)
  have hy0 : Blk 43 w1 (w.heap.size + 2) z32 := by
    have := Blk.new ((w.alloc (.cells (wcs N).toArray 142)).alloc (.cells z32.toArray 43)) 43 z32
    rw [hw1]; simpa using this
  have hbel0 : Below w.heap.size w w1 := by rw [hw1]; exact (((Below.refl _ _).alloc (Nat.le_refl _) _).alloc (by simp) _).alloc (by simp; omega) _
  show Calls Try.prog 66 #[.agg (wcs N).toArray] w _
  go_enter Try.func66, Try.ntmps66
  go_wp2
  go_loopw [6] (fun i wr => ∃ k : Nat, k ≤ 32 ∧ i = .int .i64 (k : Int) ∧ Blk 142 wr w.heap.size (wcs N) ∧ Blk 43 wr (w.heap.size + 1) z32 ∧ Blk 43 wr (w.heap.size + 2) (fillL (hcs N) (.int .u8 0) k) ∧ Below w.heap.size w wr) (fun i _ => (32 - intOf i).toNat)
  case atStart =>
    rw [hw1] at hb0 hz0 hy0 hbel0
    exact ⟨0, by omega, rfl, hb0, hz0, by rw [fill_zero, hcs_len]; exact hy0, hbel0⟩
  case round =>
    clear hb0 hbel0 hz0 hy0 hw1
    obtain ⟨k, hk, rfl, hb, hz, hy, hbel⟩ := hrel
    by_cases hlt : k < 32
    · obtain ⟨m, hm⟩ : ∃ m, m + k = 31 := ⟨31 - k, by omega⟩
      obtain ⟨q, hq⟩ : ∃ q, q = m / 8 := ⟨_, rfl⟩
      obtain ⟨r, hr⟩ : ∃ r, r = m % 8 := ⟨_, rfl⟩
      obtain ⟨s, hs⟩ : ∃ s, s = 8 * r := ⟨_, rfl⟩
      have hc := hb.wat q (by omega)
      have hl := lim_lt N q
      have hcell := wbyte_cell N q r k (by omega) (by omega)
      rw [← hs] at hcell
      have e0 : (31 : Int) - (k : Int) = (m : Int) := by omega
      have e1 : (m : Int) / 8 = (q : Int) := by omega
      have e2 : (m : Int).tdiv 8 = (q : Int) := by rw [Int.tdiv_eq_ediv_of_nonneg (by omega)]; omega
      have e3 : (m : Int) % 8 = (r : Int) := by omega
      have e4 : (m : Int).tmod 8 = (r : Int) := by rw [Int.tmod_eq_emod_of_nonneg (by omega)]; omega
      have e5 : (r : Int) * 8 = (s : Int) := by omega
      have hq4 : q < 4 := by omega
      have hs56 : s ≤ 56 := by omega
      have hm32 : m < 32 := by omega
      have hset := fill_set' (hcs N) (.int .u8 0) k _ (hcs_at N k hlt)
      have Hset := Lib.hid hset
      obtain ⟨y1, hy1⟩ := hy.has k (by rw [fill_len _ _ _ (by rw [hcs_len]; omega), hcs_len]; exact hlt)
      have hf1 := hy.free k
      clear hset hs hr hq hm
      go_wp2
      go_roundw
      case rel =>
        have hy2 := hy.set k (u8v (wbyte N k))
        rw [Hset.out] at hy2
        exact ⟨k + 1, by omega, by go_num, hb.other _ (by simp; omega) _, hz.other _ (by simp; try omega) _, hy2, hbel.setCell (by simp; try omega) _⟩
      case measure => simp [intOf]; omega
    · obtain rfl : k = 32 := by omega
      have hfe : fillL (hcs N) (.int .u8 0) 32 = hcs N := by have := fill_end (hcs N) (.int .u8 0); rwa [hcs_len] at this
      rw [hfe] at hy
      go_wp2_with (first
        | (refine wpList_loadA rfl 43 (.tmp 3) rfl (w.heap.size + 2) rfl aggHash hy (hcs_len N) ?_)
        | (refine wpList_storeA rfl 43 (.tmp 2) (.tmp 23) rfl (w.heap.size + 1) (hcs N) rfl rfl aggHash hz (hcs_len N) rfl (hcs_one _) hbel (by omega) ?_; intro w2 hb2 hbel2 _))
      exact bodyPost_ret (results_blk rfl _ _ (w.heap.size + 1) aggHash hb2 (hcs_len N) rfl) rfl ⟨rfl, hbel2⟩
end Go.Proofs.Ytljbbpcnoajfeaa
/- (Word2) word.Cmp, word.Int and the reference's WInt, WLess, WCmp. -/
namespace Go.Proofs.Ytljbbpcnoajfeaa
open Go.RowKit
theorem lim0 (N : Nat) : lim N 0 = N % 18446744073709551616 := by unfold lim; simp
theorem lim1 (N : Nat) : lim N 1 = N / 18446744073709551616 % 18446744073709551616 := rfl
theorem lim2 (N : Nat) : lim N 2 = N / 340282366920938463463374607431768211456 % 18446744073709551616 := rfl
theorem lim3 (N : Nat) : lim N 3 = N / 6277101735386680763835789423207666416102355444464034512896 % 18446744073709551616 := rfl
/-- 2^256 -/
def W256 : Nat := 115792089237316195423570985008687907853269984665640564039457584007913129639936
theorem lim_sum (N : Nat) (h : N < W256) : N = lim N 0 + 18446744073709551616 * lim N 1 + 340282366920938463463374607431768211456 * lim N 2 + 6277101735386680763835789423207666416102355444464034512896 * lim N 3 := by
  rw [lim0, lim1, lim2, lim3]; unfold W256 at h; omega
theorem lim_less (N M : Nat) (hN : N < W256) (hM : M < W256) (p : Nat) (hp : p < 4) (he : ∀ i, p < i → i < 4 → lim N i = lim M i) (hl : lim N p < lim M p) : N < M := by
  have h0 := lim_sum N hN
  have h1 := lim_sum M hM
  have a0 := lim_lt N 0; have a1 := lim_lt N 1; have a2 := lim_lt N 2; have a3 := lim_lt N 3
  have b0 := lim_lt M 0; have b1 := lim_lt M 1; have b2 := lim_lt M 2; have b3 := lim_lt M 3
  rcases (show p = 0 ∨ p = 1 ∨ p = 2 ∨ p = 3 from by omega) with rfl | rfl | rfl | rfl
  · have e1 := he 1 (by omega) (by omega); have e2 := he 2 (by omega) (by omega); have e3 := he 3 (by omega) (by omega)
    rw [e1, e2, e3] at h0; omega
  · have e2 := he 2 (by omega) (by omega); have e3 := he 3 (by omega) (by omega)
    rw [e2, e3] at h0; omega
  · have e3 := he 3 (by omega) (by omega)
    rw [e3] at h0; omega
  · omega
theorem lim_ext (N M : Nat) (hN : N < W256) (hM : M < W256) (he : ∀ i, i < 4 → lim N i = lim M i) : N = M := by
  rw [lim_sum N hN, lim_sum M hM, he 0 (by omega), he 1 (by omega), he 2 (by omega), he 3 (by omega)]
theorem limI_eq (N M : Nat) (hN : N < W256) (hM : M < W256) : (limI N == limI M) = decide (N = M) := by
  by_cases h : N = M
  · subst h; simp
  · have : limI N ≠ limI M := fun e => h (lim_ext N M hN hM fun i hi => by
      unfold limI at e
      simp only [List.cons.injEq, and_true, Int.natCast_inj] at e
      rcases (show i = 0 ∨ i = 1 ∨ i = 2 ∨ i = 3 from by omega) with rfl | rfl | rfl | rfl
      · exact e.1
      · exact e.2.1
      · exact e.2.2.1
      · exact e.2.2.2)
    simp [this, h]
def cmpI (N M : Nat) : Int := if N < M then -1 else if M < N then 1 else 0
theorem cmp_lt {N M : Nat} (h : N < M) : cmpI N M = -1 := if_pos h
theorem cmp_gt {N M : Nat} (h : M < N) : cmpI N M = 1 := by unfold cmpI; rw [if_neg (by omega), if_pos h]
theorem cmp_eq {N M : Nat} (h : N = M) : cmpI N M = 0 := by unfold cmpI; rw [if_neg (by omega), if_neg (by omega)]
end Go.Proofs.Ytljbbpcnoajfeaa
/- (Word3) word.Int and the reference's WInt, WLess, WCmp. -/
namespace Go.Proofs.Ytljbbpcnoajfeaa
open Go.RowKit
/-- the number that bytes are, the greatest first -/
def numL : List UInt8 → Nat
  | [] => 0
  | x :: l => x.toNat * 256 ^ l.length + numL l
theorem numL_snoc (l : List UInt8) (x : UInt8) : numL (l ++ [x]) = numL l * 256 + x.toNat := by
  induction l with
  | nil => simp [numL]
  | cons y l ih =>
    simp only [List.cons_append, numL, ih, List.length_append, List.length_singleton, Nat.pow_succ, Nat.add_mul, Nat.mul_assoc]
    omega
theorem numL_lt (l : List UInt8) : numL l < 256 ^ l.length := by
  induction l with
  | nil => simp [numL]
  | cons x l ih =>
    have hx := x.toNat_lt
    have : x.toNat * 256 ^ l.length + 256 ^ l.length ≤ 256 * 256 ^ l.length := by rw [← Nat.succ_mul]; exact Nat.mul_le_mul_right _ (by omega)
    simp only [numL, List.length_cons, Nat.pow_succ]
    omega
theorem numL_take (N k : Nat) (h : k ≤ 32) : numL ((wb N).take k) = N / 2 ^ (8 * (32 - k)) % 256 ^ k := by
  induction k with
  | zero => simp [numL, Nat.mod_one]
  | succ k ih =>
    rw [wb_snoc N k (by omega), numL_snoc, ih (by omega), wbyte, UInt8.toNat_ofNat', show 2 ^ 8 = 256 from rfl]
    have e : N / 2 ^ (8 * (32 - k)) = N / 2 ^ (8 * (31 - k)) / 256 := by
      rw [Nat.div_div_eq_div_mul, show (256 : Nat) = 2 ^ 8 from rfl, ← Nat.pow_add, show 8 * (31 - k) + 8 = 8 * (32 - k) from by omega]
    rw [e, show 32 - (k + 1) = 31 - k from by omega, Nat.pow_succ, Nat.mul_comm (256 ^ k) 256, Nat.mod_mul]
    omega
theorem numL_wb (N : Nat) (h : N < W256) : numL (wb N) = N := by
  have := numL_take N 32 (by omega)
  rw [List.take_of_length_le (by rw [wb_len]; omega)] at this
  rw [this]
  simp only [Nat.sub_self, Nat.mul_zero, Nat.pow_zero, Nat.div_one]
  exact Nat.mod_eq_of_lt h
theorem lex_num : ∀ (l m : List UInt8), l.length = m.length → (l < m ↔ numL l < numL m)
  | [], [], _ => by simp [numL]
  | [], _ :: _, h => by simp at h
  | _ :: _, [], h => by simp at h
  | x :: l, y :: m, h => by
    have hl : l.length = m.length := by simpa using h
    have ih := lex_num l m hl
    have b1 := numL_lt l
    have b2 := numL_lt m
    rw [hl] at b1
    simp only [List.cons_lt_cons_iff, ih, numL, hl]
    generalize hP : 256 ^ m.length = P at *
    rcases Nat.lt_trichotomy x.toNat y.toNat with h1 | h1 | h1
    · have : (x.toNat + 1) * P ≤ y.toNat * P := Nat.mul_le_mul_right _ h1
      rw [Nat.add_mul, Nat.one_mul] at this
      have hx : x < y := UInt8.lt_iff_toNat_lt.2 h1
      exact ⟨fun _ => by omega, fun _ => .inl hx⟩
    · obtain rfl : x = y := UInt8.toNat_inj.1 h1
      have : ¬ x < x := UInt8.lt_irrefl x
      simp [this]
    · have : (y.toNat + 1) * P ≤ x.toNat * P := Nat.mul_le_mul_right _ h1
      rw [Nat.add_mul, Nat.one_mul] at this
      refine ⟨fun h2 => ?_, fun h2 => by omega⟩
      rcases h2 with h2 | h2
      · have := UInt8.lt_iff_toNat_lt.1 h2; omega
      · rw [h2.1] at h1; omega
theorem wb_less (N M : Nat) (hN : N < W256) (hM : M < W256) : Op.bytesLess (wb N) (wb M) = decide (N < M) := by
  rw [bytesLess_eq]
  have := lex_num (wb N) (wb M) (by rw [wb_len, wb_len])
  rw [numL_wb N hN, numL_wb M hM] at this
  simp [this]
theorem wcs_small (n : Nat) (h : n < 18446744073709551616) : wcs n = [.int .u64 (n : Int), .int .u64 0, .int .u64 0, .int .u64 0] := by
  have e0 : lim n 0 = n := by rw [lim0]; omega
  have e1 : lim n 1 = 0 := by rw [lim1]; omega
  have e2 : lim n 2 = 0 := by rw [lim2]; omega
  have e3 : lim n 3 = 0 := by rw [lim3]; omega
  unfold wcs limI
  rw [e0, e1, e2, e3]; rfl
def z4 : List Value := [.int .u64 0, .int .u64 0, .int .u64 0, .int .u64 0]
set_option maxHeartbeats 400000 in
set_option maxRecDepth 100000 in
theorem int_any (n : Nat) (h : n < 18446744073709551616) (w : World) :
    Calls Try.prog 108 #[.int .u64 (n : Int)] w fun e w' => e = .returned (wv n) ∧ Below w.heap.size w w' := by
  have hz := Blk.new w 142 z4
  have hbel : Below w.heap.size w (w.alloc (.cells z4.toArray 142)) := (Below.refl _ _).alloc (Nat.le_refl _) _
  have hws := wcs_small n h
  go_enter Try.func108, Try.ntmps108
  go_wp2_with (first
    | (refine wpList_storeA rfl 142 (.tmp 2) (.tmp 4) rfl (w.heap.size) [.int .u64 (n : Int), .int .u64 0, .int .u64 0, .int .u64 0] rfl rfl aggWord hz rfl rfl (by rw [← hws]; exact wcs_one n) hbel (by omega) ?_; intro w2 hb2 hbel2 _))
  exact bodyPost_ret (results_blk rfl _ _ (w.heap.size) aggWord hb2 rfl rfl) rfl ⟨by unfold wv; rw [hws], hbel2⟩
set_option maxHeartbeats 400000 in
set_option maxRecDepth 100000 in
theorem wint_any (n : Nat) (h : n < 18446744073709551616) (w : World) :
    Calls Try.prog 115 #[.int .u64 (n : Int)] w fun e w' => e = .returned (wv n) ∧ Below w.heap.size w w' := by
  have hz := Blk.new w 142 z4
  have hbel : Below w.heap.size w (w.alloc (.cells z4.toArray 142)) := (Below.refl _ _).alloc (Nat.le_refl _) _
  have hws := wcs_small n h
  go_enter Try.func115, Try.ntmps115
  go_wp2_with (first
    | (refine wpList_storeA rfl 142 (.tmp 2) (.tmp 4) rfl (w.heap.size) [.int .u64 (n : Int), .int .u64 0, .int .u64 0, .int .u64 0] rfl rfl aggWord hz rfl rfl (by rw [← hws]; exact wcs_one n) hbel (by omega) ?_; intro w2 hb2 hbel2 _))
  exact bodyPost_ret (results_blk rfl _ _ (w.heap.size) aggWord hb2 rfl rfl) rfl ⟨by unfold wv; rw [hws], hbel2⟩
end Go.Proofs.Ytljbbpcnoajfeaa
/- (Word4) The reference's WLess and WCmp. -/
namespace Go.Proofs.Ytljbbpcnoajfeaa
open Go.RowKit
theorem Ext.loadA {P : Program} {w0 : World} {ty : TypeId} {n : Nat} (hty : Agg P ty n) {e : TypeId} {g : Nat} {cs : List Value} (hb : Blk e w0 g cs) (hn : cs.length = n) (u : Ext w0) :
    (loadVar ty ⟨g, 0, none⟩).run P u.val = .ok (.agg cs.toArray) u.val := by
  obtain ⟨d, h1, h2, h3⟩ := hty
  exact run_loadVar_row (P := P) u.val g e ty cs.toArray (0, 0) d (u.blk hb) h1 (by cases d <;> simp_all) (by rw [h3]; simp [hn])
/-- == of words -/
theorem run_eqW (N M : Nat) (hN : N < W256) (hM : M < W256) (w : World) : (binOp .eql 142 (.agg (wcs N).toArray) (.agg (wcs M).toArray)).run Try.prog w = .ok (.bool (decide (N = M))) w := by
  have := run_eqA (P := Try.prog) w Try.underlying142 Try.underlying44 (by kernel_rfl) (limI N) (limI M) rfl rfl
  rw [limI_eq N M hN hM] at this; exact this
end Go.Proofs.Ytljbbpcnoajfeaa
/- (Word5) word.Read and the reference's WRead. -/
namespace Go.Proofs.Ytljbbpcnoajfeaa
open Go.RowKit
theorem u64_or_add (x y k : Nat) (hx : x < 18446744073709551616) (hk : k ≤ 64) (h1 : x % 2 ^ k = 0) (h2 : y < 2 ^ k) : bits .or .u64 (x : Int) (y : Int) = ((x + y : Nat) : Int) := by
  have h3 : 2 ^ k ≤ 2 ^ 64 := Nat.pow_le_pow_right (by omega) hk
  rw [u64_or_nat x y hx (by omega), nat_join k x y h1 h2]
theorem lim_push0 (N x : Nat) (hx : x < 256) : bits .or .u64 (IntKind.u64.wrap ((lim N 0 : Int) * 256)) (x : Int) = (lim (N * 256 + x) 0 : Int) := by
  have e : IntKind.u64.wrap ((lim N 0 : Int) * 256) = ((lim N 0 * 256 % 18446744073709551616 : Nat) : Int) := by rw [IntKind.wrap_u64]; omega
  rw [e, u64_or_add _ x 8 (Nat.mod_lt _ (by omega)) (by omega) (by omega) (by omega), lim0, lim0]
  omega
theorem lim_push (N x i j : Nat) (hx : x < 256) (hj : j = i + 1) : bits .or .u64 (IntKind.u64.wrap ((lim N j : Int) * 256)) ((lim N i : Int) / 72057594037927936) = (lim (N * 256 + x) j : Int) := by
  have e : IntKind.u64.wrap ((lim N j : Int) * 256) = ((lim N j * 256 % 18446744073709551616 : Nat) : Int) := by rw [IntKind.wrap_u64]; omega
  have e2 : (lim N i : Int) / 72057594037927936 = ((lim N i / 72057594037927936 : Nat) : Int) := by omega
  have hl := lim_lt N i
  rw [e, e2, u64_or_add _ _ 8 (Nat.mod_lt _ (by omega)) (by omega) (by omega) (by omega)]
  subst hj
  have hq : N / 2 ^ (64 * (i + 1)) = N / 2 ^ (64 * i) / 18446744073709551616 := by
    rw [Nat.div_div_eq_div_mul, show (18446744073709551616 : Nat) = 2 ^ 64 from rfl, ← Nat.pow_add, show 64 * i + 64 = 64 * (i + 1) from by omega]
  have hr : (N * 256 + x) / 2 ^ (64 * (i + 1)) = N / 2 ^ (64 * i) / 72057594037927936 := by
    have : 2 ^ (64 * (i + 1)) = 256 * (2 ^ (64 * i) * 72057594037927936) := by
      rw [show (256 : Nat) = 2 ^ 8 from rfl, show (72057594037927936 : Nat) = 2 ^ 56 from rfl, ← Nat.pow_add, ← Nat.pow_add, show 8 + (64 * i + 56) = 64 * (i + 1) from by omega]
    rw [this, ← Nat.div_div_eq_div_mul, ← Nat.div_div_eq_div_mul, show (N * 256 + x) / 256 = N from by omega]
  unfold lim
  rw [hq, hr]
  generalize N / 2 ^ (64 * i) = y
  omega
theorem wcs_push (N x : Nat) (hx : x < 256) :
    [Value.int .u64 (bits .or .u64 (IntKind.u64.wrap ((lim N 0 : Int) * 256)) (x : Int)),
      .int .u64 (bits .or .u64 (IntKind.u64.wrap ((lim N 1 : Int) * 256)) ((lim N 0 : Int) / 72057594037927936)),
      .int .u64 (bits .or .u64 (IntKind.u64.wrap ((lim N 2 : Int) * 256)) ((lim N 1 : Int) / 72057594037927936)),
      .int .u64 (bits .or .u64 (IntKind.u64.wrap ((lim N 3 : Int) * 256)) ((lim N 2 : Int) / 72057594037927936))] = wcs (N * 256 + x) := by
  rw [lim_push0 N x hx, lim_push N x 0 1 hx rfl, lim_push N x 1 2 hx rfl, lim_push N x 2 3 hx rfl]; rfl
theorem numL_next (l : List UInt8) (k : Nat) (h : k < l.length) : numL (l.take (k + 1)) = numL (l.take k) * 256 + l[k].toNat := by
  rw [List.take_succ_eq_append_getElem h, numL_snoc]
/-- the last 32 bytes at most -/
def last32 (l : List UInt8) : List UInt8 := l.drop (l.length - 32)
theorem last_small (l : List UInt8) (h : l.length ≤ 32) : last32 l = l := by
  unfold last32; rw [show l.length - 32 = 0 from by omega]; rfl
theorem last_len (l : List UInt8) : (last32 l).length ≤ 32 := by unfold last32; rw [List.length_drop]; omega
end Go.Proofs.Ytljbbpcnoajfeaa
/- (Word6) word.Read. -/
namespace Go.Proofs.Ytljbbpcnoajfeaa
open Go.RowKit
theorem lim_below (N x k q j : Nat) (hk : 8 * q ≤ k) (hj : j < q) : lim (x * 256 ^ k + N) j = lim N j := by
  unfold lim
  have e : x * 256 ^ k = 2 ^ (64 * j) * (18446744073709551616 * (x * 2 ^ (8 * k - 64 * j - 64))) := by
    rw [show (256 : Nat) = 2 ^ 8 from rfl, ← Nat.pow_mul, show (18446744073709551616 : Nat) = 2 ^ 64 from rfl]
    rw [Nat.mul_left_comm (2 ^ 64) x, Nat.mul_left_comm (2 ^ (64 * j)) x, ← Nat.pow_add, ← Nat.pow_add, show 64 * j + (64 + (8 * k - 64 * j - 64)) = 8 * k from by omega]
  rw [e, Nat.mul_add_div (Nat.two_pow_pos _)]
  generalize x * 2 ^ (8 * k - 64 * j - 64) = y
  omega
theorem lim_over (N j k : Nat) (hN : N < 256 ^ k) (hk : k ≤ 8 * j) : lim N j = 0 := by
  unfold lim
  have h1 : (256 : Nat) ^ k ≤ 2 ^ (64 * j) := by
    rw [show (256 : Nat) = 2 ^ 8 from rfl, ← Nat.pow_mul]; exact Nat.pow_le_pow_right (by omega) (by omega)
  rw [Nat.div_eq_of_lt (by omega)]
theorem lim_on (N x k q r s : Nat) (hk : k = 8 * q + r) (hr : r < 8) (hs : s = 8 * r) (hN : N < 256 ^ k) (hx : x < 256) :
    bits .or .u64 (lim N q : Int) (IntKind.u64.wrap ((x : Int) * 2 ^ s)) = (lim (x * 256 ^ k + N) q : Int) := by
  have hp : (256 : Nat) ^ k = 2 ^ (64 * q) * 2 ^ s := by rw [show (256 : Nat) = 2 ^ 8 from rfl, ← Nat.pow_mul, ← Nat.pow_add, show 64 * q + s = 8 * k from by omega]
  have hd : N / 2 ^ (64 * q) < 2 ^ s := by
    rw [Nat.div_lt_iff_lt_mul (Nat.two_pow_pos _), Nat.mul_comm, ← hp]; exact hN
  have h56 : 2 ^ s ≤ 2 ^ 56 := Nat.pow_le_pow_right (by omega) (by omega)
  have hm : x * 2 ^ s ≤ 255 * 2 ^ s := Nat.mul_le_mul_right _ (by omega)
  have e : IntKind.u64.wrap ((x : Int) * 2 ^ s) = ((x * 2 ^ s : Nat) : Int) := by
    have : (x : Int) * 2 ^ s = ((x * 2 ^ s : Nat) : Int) := by rw [Int.natCast_mul, Int.natCast_pow]; rfl
    rw [this, IntKind.wrap_u64]; omega
  have hmod : x * 2 ^ s % 2 ^ s = 0 := Nat.mul_mod_left _ _
  have e2 : lim N q = N / 2 ^ (64 * q) := by unfold lim; exact Nat.mod_eq_of_lt (Nat.lt_of_lt_of_le hd (by omega))
  have b1 : N / 2 ^ (64 * q) < 18446744073709551616 := Nat.lt_of_lt_of_le hd (by omega)
  have b2 : x * 2 ^ s < 18446744073709551616 := by omega
  have e3 : lim (x * 256 ^ k + N) q = (x * 2 ^ s + N / 2 ^ (64 * q)) % 18446744073709551616 := by
    unfold lim
    rw [hp, Nat.mul_left_comm, Nat.mul_add_div (Nat.two_pow_pos _)]
  rw [e, e2, u64_or_nat _ _ b1 b2, Nat.or_comm, nat_join s _ _ hmod hd, e3]
  generalize N / 2 ^ (64 * q) = y at *
  generalize x * 2 ^ s = z at *
  generalize 2 ^ s = S at *
  congr 1
  exact (Nat.mod_eq_of_lt (by omega)).symm
theorem wcs_on (N x k q r s : Nat) (h32 : k < 32) (hk : k = 8 * q + r) (hr : r < 8) (hs : s = 8 * r) (hN : N < 256 ^ k) (hx : x < 256) :
    (wcs N).set q (.int .u64 (bits .or .u64 (lim N q : Int) (IntKind.u64.wrap ((x : Int) * 2 ^ s)))) = wcs (x * 256 ^ k + N) := by
  rw [lim_on N x k q r s hk hr hs hN hx]
  have hN2 : x * 256 ^ k + N < 256 ^ (k + 1) := by
    have : x * 256 ^ k ≤ 255 * 256 ^ k := Nat.mul_le_mul_right _ (by omega)
    rw [Nat.pow_succ]; omega
  apply List.ext_getElem?
  intro j
  by_cases hj : j < 4
  · rw [wcs_at _ j hj]
    by_cases hq : q = j
    · subst hq
      rw [List.getElem?_set_self (by rw [wcs_len]; exact hj)]
    · rw [List.getElem?_set_ne hq, wcs_at _ j hj]
      rcases Nat.lt_or_ge j q with h1 | h1
      · rw [lim_below N x k q j (by omega) h1]
      · rw [lim_over N j k hN (by omega), lim_over _ j (k + 1) hN2 (by omega)]
  · rw [List.getElem?_eq_none (by rw [List.length_set, wcs_len]; omega), List.getElem?_eq_none (by rw [wcs_len]; omega)]
theorem numL_back (l : List UInt8) (k j : Nat) (hj : j + k + 1 = l.length) : numL (l.drop (l.length - (k + 1))) = (l[j]'(by omega)).toNat * 256 ^ k + numL (l.drop (l.length - k)) := by
  have e : l.length - (k + 1) = j := by omega
  rw [e, List.drop_eq_getElem_cons (by omega), numL, List.length_drop, show j + 1 = l.length - k from by omega, show l.length - (l.length - k) = k from by omega]
end Go.Proofs.Ytljbbpcnoajfeaa
