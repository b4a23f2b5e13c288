/- Words as numbers; word.Bytes and the reference's WBytes. -/
import Derived.Test.YtohenjgegkgncaaTabs
import Derived.Test.YtohenjgegkgncaaQuiet
import Derived.Test.YtohenjgegkgncaaTyped
import Derived.Deep.Onto
set_option linter.unusedSimpArgs false
set_option linter.unusedVariables false
namespace Go.Proofs.Ytohenjgegkgncaa
open Go.RowKit
theorem aggWord : Agg Try.prog 73 4 := ⟨_, Try.underlying73, rfl, by kernel_rfl⟩
theorem aggHash : Agg Try.prog 46 32 := ⟨_, Try.underlying46, rfl, by kernel_rfl⟩
/-- part i of the word N -/
def lim (N i : Nat) : Nat := N / 2 ^ (64 * i) % 18446744073709551616
def limI (N : Nat) : List Int := [(lim N 0 : Int), (lim N 1 : Int), (lim N 2 : Int), (lim N 3 : Int)]
/-- the cells of the word N -/
def wcs (N : Nat) : List Value := (limI N).map (Value.int .u64)
/-- the word N -/
def wv (N : Nat) : Value := .agg (wcs N).toArray
theorem lim_lt (N i : Nat) : lim N i < 18446744073709551616 := Nat.mod_lt _ (by omega)
theorem wcs_len (N : Nat) : (wcs N).length = 4 := rfl
theorem wcs_at (N i : Nat) (h : i < 4) : (wcs N)[i]? = some (.int .u64 (lim N i : Int)) := by
  rcases (show i = 0 ∨ i = 1 ∨ i = 2 ∨ i = 3 from by omega) with rfl | rfl | rfl | rfl <;> rfl
theorem wcs_one (N : Nat) : ∀ u ∈ wcs N, u.oneCell' = true := by
  intro u hu
  obtain ⟨x, _, rfl⟩ := List.mem_map.1 hu
  rfl
theorem Blk.wat {e : TypeId} {w : World} {b N : Nat} (hb : Blk e w b (wcs N)) (i : Nat) (hi : i < 4) : w.cell? ⟨b, i, none⟩ = some (.int .u64 (lim N i : Int)) := by
  rw [hb.cell, wcs_at N i hi]
/-- byte i of the word N, the greatest first -/
def wbyte (N i : Nat) : UInt8 := UInt8.ofNat (N / 2 ^ (8 * (31 - i)))
def wb (N : Nat) : List UInt8 := (List.range 32).map (wbyte N)
theorem wb_len (N : Nat) : (wb N).length = 32 := by simp [wb]
theorem wb_at (N i : Nat) (h : i < 32) : (wb N)[i]? = some (wbyte N i) := by simp [wb, h]
theorem wb_get (N i : Nat) (h : i < (wb N).length) : (wb N)[i] = wbyte N i := by simp [wb]
theorem lim_byte (N q r : Nat) (hr : r ≤ 7) : lim N q / 2 ^ (8 * r) % 256 = N / 2 ^ (8 * (8 * q + r)) % 256 := by
  unfold lim
  have h1 : (18446744073709551616 : Nat) = 2 ^ (8 * r) * 2 ^ (64 - 8 * r) := by rw [← Nat.pow_add, show 8 * r + (64 - 8 * r) = 64 from by omega]
  rw [h1, Nat.mod_mul_right_div_self, Nat.div_div_eq_div_mul, ← Nat.pow_add, show 64 * q + 8 * r = 8 * (8 * q + r) from by omega]
  exact Nat.mod_mod_of_dvd _ ⟨2 ^ (56 - 8 * r), by rw [show (256 : Nat) = 2 ^ 8 from rfl, ← Nat.pow_add, show 64 - 8 * r = 8 + (56 - 8 * r) from by omega]⟩
/-- the byte as the code makes it -/
theorem wbyte_cell (N q r i : Nat) (hr : r ≤ 7) (hi : 8 * q + r = 31 - i) : IntKind.u8.wrap ((lim N q : Int) / 2 ^ (8 * r)) = ((wbyte N i).toNat : Int) := by
  have h := lim_byte N q r hr
  have e : (lim N q : Int) / 2 ^ (8 * r) = ((lim N q / 2 ^ (8 * r) : Nat) : Int) := by rw [Int.natCast_ediv, Int.natCast_pow]; rfl
  rw [IntKind.wrap_u8', e, wbyte, ← hi, UInt8.toNat_ofNat']
  rw [show 2 ^ 8 = 256 from rfl, ← h]
  omega
theorem wb_snoc (N k : Nat) (h : k < 32) : (wb N).take (k + 1) = (wb N).take k ++ [wbyte N k] := by
  rw [List.take_succ_eq_append_getElem (by rw [wb_len]; exact h), wb_get]
theorem boxW (w : World) (N : Nat) : Blk 73 (w.alloc (.cells (wcs N).toArray 73)) w.heap.size (wcs N) := Blk.new w _ _
set_option maxHeartbeats 400000 in
set_option maxRecDepth 100000 in
theorem wbytes_any (N : Nat) (w : World) :
    Calls Try.prog 119 #[wv N] w fun e w' => ∃ v, e = .returned v ∧ OwnOf b8 1 5 w' w.heap.size v (wb N) ∧ Below w.heap.size w w' := by
  have hb0 := boxW w N
  have hbel0 : Below w.heap.size w (w.alloc (.cells (wcs N).toArray 73)) := (Below.refl _ _).alloc (Nat.le_refl _) _
  show Calls Try.prog 119 #[.agg (wcs N).toArray] w _
  go_enter Try.func119, Try.ntmps119
  go_wp2
  go_loopw [3, 4, 5] (fun v i _ wr => ∃ (q : Nat) (x : Int), q ≤ 4 ∧ i = .int .i64 x ∧ x + 1 = (q : Int) ∧ OwnOf b8 1 5 wr (w.heap.size + 1) v ((wb N).take (8 * (4 - q))) ∧ Blk 73 wr w.heap.size (wcs N) ∧ Below w.heap.size w wr ∧ w.heap.size + 1 ≤ wr.heap.size) (fun _ i _ _ => ((intOf i) + 1).toNat)
  case atStart => exact ⟨4, 3, by omega, rfl, rfl, by simpa using OwnOf.nil _ _ _ _ _, hb0, hbel0, by simp⟩
  case round =>
    clear hb0 hbel0
    obtain ⟨q, x, hq, rfl, hx, hown, hb, hbel, hB⟩ := hrel
    by_cases hlt : 0 < q
    · obtain ⟨p, rfl⟩ : ∃ p, q = p + 1 := ⟨q - 1, by omega⟩
      obtain rfl : x = (p : Int) := by omega
      have hd : decide (0 ≤ (p : Int)) = true := by rw [decide_eq_true_eq]; omega
      go_wp2
      go_loopw [3, 5] (fun v i wr => ∃ (j : Nat) (x : Int), j ≤ 8 ∧ i = .int .i64 x ∧ x + 8 = 8 * (j : Int) ∧ OwnOf b8 1 5 wr (w.heap.size + 1) v ((wb N).take (8 * (3 - p) + (8 - j))) ∧ Blk 73 wr w.heap.size (wcs N) ∧ Below w.heap.size w wr ∧ w.heap.size + 1 ≤ wr.heap.size) (fun _ i _ => ((intOf i) + 8).toNat)
      case atStart => exact ⟨8, 56, by omega, rfl, rfl, by rw [show 8 * (3 - p) + (8 - 8) = 8 * (4 - (p + 1)) from by omega]; exact hown, hb, hbel, hB⟩
      case round =>
        clear hown hb hbel hB
        obtain ⟨j, x, hj, rfl, hx2, hown, hb, hbel, hB⟩ := hrel
        by_cases hlt2 : 0 < j
        · obtain ⟨r, rfl⟩ : ∃ r, j = r + 1 := ⟨j - 1, by omega⟩
          obtain ⟨s, hs⟩ : ∃ s, s = 8 * r := ⟨_, rfl⟩
          obtain rfl : x = (s : Int) := by omega
          have hd2 : decide (0 ≤ (s : Int)) = true := by rw [decide_eq_true_eq]; omega
          obtain ⟨g, hg⟩ : ∃ g, g = 8 * (3 - p) + (7 - r) := ⟨_, rfl⟩
          have hc := hb.wat p (by omega)
          have hl := lim_lt N p
          have hcell := wbyte_cell N p r g (by omega) (by omega)
          rw [← hs] at hcell
          have hsn := wb_snoc N g (by omega)
          have hl1 : ((wb N).take g).length = g := by rw [List.length_take, wb_len]; omega
          rw [show 8 * (3 - p) + (8 - (r + 1)) = g from by omega] at hown
          have hgn : 8 * (3 - p) + (8 - r) = g + 1 := by omega
          have hg32 : g < 32 := by omega
          have Hgn := Lib.hid hgn
          have Hl1 := Lib.hid hl1
          have Hsn := Lib.hid hsn
          have hsr : (s : Int) - 8 + 8 = 8 * (r : Int) := by omega
          clear hl1 hsn hs hgn hg
          go_wp2_with (at_builtin; (refine wpList_app rfl (.tmp 14) (.tmp 21) 22 rfl elU8 rfl (hown.alloc _) rfl (RowOf.made b8 1 _ [wbyte N g] _ _ 1 rfl rfl rfl (by decide)) (Below.alloc (Below.refl (w.heap.size + 1) wr) hB _) (by simp; omega) (by rw [Hl1.out]; simp; omega) (by rw [Hl1.out]; simp [maxLen]; omega) ?_; intro v4 w4 hv4 hg4 _ hB4))
          rw [← Hsn.out] at hv4
          go_roundw
          case rel =>
            exact ⟨r, (s : Int) - 8, by omega, by go_num, hsr, by rw [Hgn.out]; exact hv4, hb.below hg4 (by omega), hbel.trans (hg4.mono (by omega)), hB4⟩
          case measure => simp [intOf]; omega
        · obtain rfl : j = 0 := by omega
          obtain rfl : x = -8 := by omega
          go_wp2
          go_roundw
          case rel => exact ⟨p, (p : Int) - 1, by omega, by go_num, by omega, by rw [show 8 * (4 - p) = 8 * (3 - p) + (8 - 0) from by omega]; exact hown, hb, hbel, hB⟩
          case measure => simp [intOf]
    · obtain rfl : q = 0 := by omega
      obtain rfl : x = -1 := by omega
      go_wp2
      go_ret
      refine ⟨_, rfl, ?_, hbel⟩
      rw [List.take_of_length_le (by rw [wb_len]; omega)] at hown
      exact World.ownsRow.mono hown (by omega)
def z32 : List Value := List.replicate 32 (.int .u8 0)
/-- the cells of the hash that the word N's bytes are -/
def hcs (N : Nat) : List Value := (wb N).map u8v
theorem hcs_len (N : Nat) : (hcs N).length = 32 := by simp [hcs, wb_len]
theorem hcs_at (N i : Nat) (h : i < 32) : (hcs N)[i]? = some (u8v (wbyte N i)) := by rw [hcs, List.getElem?_map, wb_at N i h]; rfl
theorem hcs_one (N : Nat) : ∀ u ∈ hcs N, u.oneCell' = true := by
  intro u hu
  obtain ⟨x, _, rfl⟩ := List.mem_map.1 hu
  rfl
set_option maxHeartbeats 400000 in
set_option maxRecDepth 100000 in
theorem bytes_any (N : Nat) (w : World) :
    Calls Try.prog 118 #[wv N] w fun e w' => e = .returned (.agg (hcs N).toArray) ∧ Below w.heap.size w w' := by
  obtain ⟨w1, hw1⟩ : ∃ w1, w1 = ((w.alloc (.cells (wcs N).toArray 73)).alloc (.cells z32.toArray 46)).alloc (.cells z32.toArray 46) := ⟨_, rfl⟩
  have hb0 : Blk 73 w1 w.heap.size (wcs N) := by rw [hw1]; exact ((boxW w N).alloc _).alloc _
  have hz0 : Blk 46 w1 (w.heap.size + 1) z32 := by
    have := Blk.new (w.alloc (.cells (wcs N).toArray 73)) 46 z32
    rw [hw1]; simpa using this.alloc (.cells z32.toArray 46)
  have hy0 : Blk 46 w1 (w.heap.size + 2) z32 := by
    have := Blk.new ((w.alloc (.cells (wcs N).toArray 73)).alloc (.cells z32.toArray 46)) 46 z32
    rw [hw1]; simpa using this
  have hbel0 : Below w.heap.size w w1 := by rw [hw1]; exact (((Below.refl _ _).alloc (Nat.le_refl _) _).alloc (by simp) _).alloc (by simp; omega) _
  show Calls Try.prog 118 #[.agg (wcs N).toArray] w _
  go_enter Try.func118, Try.ntmps118
  go_wp2
  go_loopw [6] (fun i wr => ∃ k : Nat, k ≤ 32 ∧ i = .int .i64 (k : Int) ∧ Blk 73 wr w.heap.size (wcs N) ∧ Blk 46 wr (w.heap.size + 1) z32 ∧ Blk 46 wr (w.heap.size + 2) (fillL (hcs N) (.int .u8 0) k) ∧ Below w.heap.size w wr) (fun i _ => (32 - intOf i).toNat)
  case atStart =>
    rw [hw1] at hb0 hz0 hy0 hbel0
    exact ⟨0, by omega, rfl, hb0, hz0, by rw [fill_zero, hcs_len]; exact hy0, hbel0⟩
  case round =>
    clear hb0 hbel0 hz0 hy0 hw1
    obtain ⟨k, hk, rfl, hb, hz, hy, hbel⟩ := hrel
    by_cases hlt : k < 32
    · obtain ⟨m, hm⟩ : ∃ m, m + k = 31 := ⟨31 - k, by omega⟩
      obtain ⟨q, hq⟩ : ∃ q, q = m / 8 := ⟨_, rfl⟩
      obtain ⟨r, hr⟩ : ∃ r, r = m % 8 := ⟨_, rfl⟩
      obtain ⟨s, hs⟩ : ∃ s, s = 8 * r := ⟨_, rfl⟩
      have hc := hb.wat q (by omega)
      have hl := lim_lt N q
      have hcell := wbyte_cell N q r k (by omega) (by omega)
      rw [← hs] at hcell
      have e0 : (31 : Int) - (k : Int) = (m : Int) := by omega
      have e1 : (m : Int) / 8 = (q : Int) := by omega
      have e2 : (m : Int).tdiv 8 = (q : Int) := by rw [Int.tdiv_eq_ediv_of_nonneg (by omega)]; omega
      have e3 : (m : Int) % 8 = (r : Int) := by omega
      have e4 : (m : Int).tmod 8 = (r : Int) := by rw [Int.tmod_eq_emod_of_nonneg (by omega)]; omega
      have e5 : (r : Int) * 8 = (s : Int) := by omega
      have hq4 : q < 4 := by omega
      have hs56 : s ≤ 56 := by omega
      have hm32 : m < 32 := by omega
      have hset := fill_set' (hcs N) (.int .u8 0) k _ (hcs_at N k hlt)
      have Hset := Lib.hid hset
      obtain ⟨y1, hy1⟩ := hy.has k (by rw [fill_len _ _ _ (by rw [hcs_len]; omega), hcs_len]; exact hlt)
      have hf1 := hy.free k
      clear hset hs hr hq hm
      go_wp2
      go_roundw
      case rel =>
        have hy2 := hy.set k (u8v (wbyte N k))
        rw [Hset.out] at hy2
        exact ⟨k + 1, by omega, by go_num, hb.other _ (by simp; omega) _, hz.other _ (by simp; try omega) _, hy2, hbel.setCell (by simp; try omega) _⟩
      case measure => simp [intOf]; omega
    · obtain rfl : k = 32 := by omega
      have hfe : fillL (hcs N) (.int .u8 0) 32 = hcs N := by have := fill_end (hcs N) (.int .u8 0); rwa [hcs_len] at this
      rw [hfe] at hy
      go_wp2_with (first
        | (refine wpList_loadA rfl 46 (.tmp 3) rfl (w.heap.size + 2) rfl aggHash hy (hcs_len N) ?_)
        | (refine wpList_storeA rfl 46 (.tmp 2) (.tmp 23) rfl (w.heap.size + 1) (hcs N) rfl rfl aggHash hz (hcs_len N) rfl (hcs_one _) hbel (by omega) ?_; intro w2 hb2 hbel2 _))
      exact bodyPost_ret (results_blk rfl _ _ (w.heap.size + 1) aggHash hb2 (hcs_len N) rfl) rfl ⟨rfl, hbel2⟩
end Go.Proofs.Ytohenjgegkgncaa
