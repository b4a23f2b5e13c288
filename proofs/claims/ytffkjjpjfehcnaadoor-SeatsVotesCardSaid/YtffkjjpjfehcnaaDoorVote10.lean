/- The reference's VNamed; seats.Named. -/
import Derived.Test.YtffkjjpjfehcnaaDoorVote9
import Derived.Test.YtffkjjpjfehcnaaDoorSequal
import Derived.Shelf.Lay
import Derived.Ground.Names7Prog
import Derived.Shelf.Spec.TrailingZeros
namespace Go.Proofs
open Go.Shelf
shelf_lay Lays7.n29 Nm7 29 at Tryd as Tryd.laysTz
end Go.Proofs
set_option linter.unusedSimpArgs false
set_option linter.unusedVariables false
namespace Go.Proofs.YtffkjjpjfehcnaaDoor
open Go.RowKit
/-- the library's table lies there -/
def TzW (w : World) : Prop := Go.Proofs.TabAt (Tryd.laysTz_ren.g 1) Lib.deBruijn64tab w
theorem TzW.kept {w w' : World} (h : TzW w) (hb : Below w.heap.size w w') : TzW w' := fun j hj => by
  have := h j hj
  rw [hb.cell (World.block_lt_of_cell? w _ this)]; exact this
theorem tz_any (x : Nat) (h0 : x < 18446744073709551616) (w : World) (h : TzW w) : Calls Tryd.prog 14 #[.int .u64 (x : Int)] w fun e w' => e = .returned (.int .i64 (Lib.ctz 64 x : Nat)) ∧ w' = w :=
  Any7.bits_TrailingZeros64 Tryd.laysTz x h0 w (fun _ => h)
theorem bits_and (a b : Nat) (ha : a < 18446744073709551616) (hb : b < 18446744073709551616) : bits .and .u64 (a : Int) (b : Int) = ((a &&& b : Nat) : Int) := by
  have h1 : (BitVec.ofInt 64 (a : Int)).toNat = a := by rw [BitVec.ofInt_natCast, BitVec.toNat_ofNat]; exact Nat.mod_eq_of_lt (by omega)
  have h2 : (BitVec.ofInt 64 (b : Int)).toNat = b := by rw [BitVec.ofInt_natCast, BitVec.toNat_ofNat]; exact Nat.mod_eq_of_lt (by omega)
  show IntKind.u64.wrap ((BitVec.ofInt 64 (a : Int) &&& BitVec.ofInt 64 (b : Int)).toNat : Int) = _
  rw [BitVec.toNat_and, h1, h2]
  have : a &&& b ≤ a := Nat.and_le_left
  exact IntWalk.u64_in _ (by omega)
set_option maxHeartbeats 2000000 in
set_option maxRecDepth 100000 in
theorem vnamed_any (a : Option Addr) (n c : Nat) (l : List Nat) (hn : l.length = n) (hs : n * 8 ≤ 140737488355320) (M : Nat) (hM : M < 18446744073709551616) (w : World) (h : RowOf u64c 1 w (.slice a n c) l) :
    Calls Tryd.prog 10 #[.slice a n c, .int .u64 (M : Int)] w fun e w' => ∃ v, e = .returned v ∧ OwnOf u64c 1 23 w' w.heap.size v (nm M l 0) ∧ Below w.heap.size w w' := by
  have Hn := Lib.hid hn
  clear hn
  go_enter Tryd.func10, Tryd.ntmps10
  go_wp2_with fail
  try simp only [Act.put]
  go_loopw [5, 10] (fun lv ix wr => ∃ i : Nat, i ≤ n ∧ ix = .int .i64 (i : Int) ∧ Below w.heap.size w wr ∧ OwnOf u64c 1 23 wr w.heap.size lv (nm M (l.take i) 0)) (fun _ ix _ => n - (intOf ix).toNat)
  case atStart => exact ⟨0, by omega, rfl, Below.refl _ _, OwnOf.nil u64c 1 _ _ _⟩
  case round =>
    obtain ⟨i, hin, rfl, hb, hO⟩ := hrel
    have hsz := hb.size
    obtain ⟨q, hq⟩ : ∃ q, (nm M (l.take i) 0).length = q := ⟨_, rfl⟩
    have hqn : q ≤ n := by rw [← hq]; have := nm_len M (l.take i) 0; rw [List.length_take] at this; omega
    obtain ⟨la, lc, rfl, _⟩ := hO.form' q hq
    have Hq := Lib.hid hq
    clear hq
    by_cases hlt : i < n
    · have hii : (i : Int) < (n : Int) := by omega
      have hl1 : i < l.length := by rw [Hn.out]; exact hlt
      obtain ⟨b2, off2, rfl, hc⟩ := u64_at (h.below hb) i hl1
      have hnx := nm_next M l i
      rw [List.getElem?_eq_getElem hl1] at hnx
      have hgv : gv l i = l[i] := by unfold gv; rw [List.getElem?_eq_getElem hl1]; rfl
      rw [hgv] at hc
      generalize l[i] = x at *
      dsimp only at hnx
      by_cases h64 : i < 64
      · have h64i : (i : Int) < 64 := by omega
        have hv := vnames_any M i hM (by omega)
        rw [← bit_test] at hv
        cases hbit : M.testBit i with
        | true =>
          rw [hbit] at hv hnx
          rw [if_pos ⟨h64, rfl⟩] at hnx
          have Hv := Lib.hid hv
          have Hnx := Lib.hid hnx
          clear hv hnx hbit hgv hl1
          go_wp2_with (first
            | (go_at_call 13; (with_reducible refine (Hv.out _).mono ?_); rintro e w1 ⟨rfl, rfl⟩)
            | (refine wpList_buildW (o := ⟨some 24, _, _, _, _, _⟩) (by rfl) 22 1 [(0, .tmp 23)] (by rfl) elN [x] [.int .u64 (x : Int)] (by rfl) (by rfl) (by rfl) (by omega) (by omega) ?_; intro w7 _ hr7 b7; have O7 := hO.kept b7; have hb7 := Below.then hb b7; have hlt7 : w.heap.size ≤ w7.heap.size := hb7.size)
            | (refine wpList_appB (o := ⟨some 25, _, _, _, _, _⟩) (by rfl) (.tmp 22) (.tmp 24) 22 (by rfl) elN (by intro u hu; simp [u64c] at hu; subst hu; rfl) (by rfl) O7 (by rfl) hr7 hlt7 (by rw [Hq.out]; simp; omega) (by rw [Hq.out]; unfold maxLen; simp; omega) ?_; intro v8 w8 hO8 gg8 _; obtain ⟨la8, lc8, rfl, _⟩ := hO8.form' (q + 1) (by rw [List.length_append, Hq.out]; rfl); have hb8 := hb7.grown gg8 hb7.size (fun x hx => O7.lt x hx)))
          go_roundw
          case rel => exact ⟨i + 1, by omega, by go_num, hb8, by rw [Hnx.out]; exact hO8⟩
          case measure => simp [intOf]; omega
        | false =>
          rw [hbit] at hv hnx
          rw [if_neg (by simp), List.append_nil] at hnx
          have Hv := Lib.hid hv
          have Hnx := Lib.hid hnx
          clear hv hnx hbit hgv hl1
          go_wp2_with (go_at_call 13; (with_reducible refine (Hv.out _).mono ?_); rintro e w1 ⟨rfl, rfl⟩)
          go_roundw
          case rel => exact ⟨i + 1, by omega, by go_num, hb, by rw [Hnx.out]; exact hO⟩
          case measure => simp [intOf]; omega
      · have h64i : ¬ (i : Int) < 64 := by omega
        rw [if_neg (fun e => h64 e.1), List.append_nil] at hnx
        have Hnx := Lib.hid hnx
        clear hnx hgv hl1
        go_wp2_with fail
        go_roundw
        case rel => exact ⟨i + 1, by omega, by go_num, hb, by rw [Hnx.out]; exact hO⟩
        case measure => simp [intOf]; omega
    · obtain rfl : i = n := by omega
      rw [List.take_of_length_le (by rw [Hn.out]; exact Nat.le_refl _)] at hO
      go_wp2_with fail
      go_ret
      exact ⟨_, rfl, hO, hb⟩
set_option maxHeartbeats 2000000 in
set_option maxRecDepth 100000 in
theorem named_any (a : Option Addr) (n c : Nat) (l : List Nat) (hn : l.length = n) (hs : n * 8 ≤ 140737488355320) (M : Nat) (hM : M < 18446744073709551616) (w : World) (h : RowOf u64c 1 w (.slice a n c) l) (ht : TzW w) :
    Calls Tryd.prog 9 #[.slice a n c, .int .u64 (M : Int)] w fun e w' => ∃ v, e = .returned v ∧ OwnOf u64c 1 23 w' w.heap.size v (nm M l 0) ∧ Below w.heap.size w w' := by
  have Hn := Lib.hid hn
  have Ht := Lib.hid ht
  have hM64 : M < 2 ^ 64 := by have : (2 : Nat) ^ 64 = 18446744073709551616 := by decide
                               omega
  clear hn ht
  go_enter Tryd.func9, Tryd.ntmps9
  go_wp2_with fail
  try simp only [Act.put]
  go_loopw [1, 5] (fun mv lv wr => ∃ m k : Nat, mv = .int .u64 (m : Int) ∧ m < 2 ^ 64 ∧ Hid (∀ i, m.testBit i = (decide (k ≤ i) && M.testBit i)) ∧ Below w.heap.size w wr ∧ OwnOf u64c 1 23 wr w.heap.size lv (nm M (l.take k) 0)) (fun mv _ _ => (intOf mv).toNat)
  case atStart => exact ⟨M, 0, rfl, hM64, Lib.hid (fun i => by simp), Below.refl _ _, OwnOf.nil u64c 1 _ _ _⟩
  case round =>
    obtain ⟨m, k, rfl, hm64, Hbits, hb, hO⟩ := hrel
    have hsz := hb.size
    obtain ⟨q, hq⟩ : ∃ q, (nm M (l.take k) 0).length = q := ⟨_, rfl⟩
    have hqn : q ≤ n := by rw [← hq]; have := nm_len M (l.take k) 0; rw [List.length_take, Hn.out] at this; omega
    obtain ⟨la, lc, rfl, _⟩ := hO.form' q hq
    have Hq := Lib.hid hq
    have h64e : (2 : Nat) ^ 64 = 18446744073709551616 := by decide
    have hm6 : m < 18446744073709551616 := by omega
    clear hq
    by_cases h0 : m = 0
    · subst h0
      have hz : ∀ i, k ≤ i → M.testBit i = false := fun i hi => by
        have := Hbits.out i
        rw [Nat.zero_testBit] at this
        simp only [hi, decide_true, Bool.true_and] at this
        exact this.symm
      have hfin : nm M (l.take k) 0 = nm M l 0 := by
        have := nm_skip M l k l.length (fun i h1 _ => hz i h1)
        rw [← this, List.take_of_length_le (by omega)]
      rw [hfin] at hO
      go_wp2_with fail
      go_ret
      exact ⟨_, rfl, hO, hb⟩
    · obtain ⟨z, hz, hz64, hzb, hzl, hzm, hznew⟩ := low_bit h0 hm64
      have hne : ((m : Int) != 0) = true := by rw [bne_iff_ne]; omega
      obtain ⟨m1, hm1⟩ : ∃ m1, m1 = m - 1 := ⟨_, rfl⟩
      have hsub : IntKind.u64.wrap ((m : Int) - 1) = (m1 : Int) := by rw [IntWalk.u64_in _ (by omega)]; omega
      have hsub2 : (m : Int) - 1 = (m1 : Int) := by omega
      have hand := bits_and m m1 hm6 (by omega)
      rw [← hm1] at hzm hznew
      obtain ⟨m2, hm2⟩ : ∃ m2, m2 = m &&& m1 := ⟨_, rfl⟩
      rw [← hm2] at hand hzm hznew
      have hkz : k ≤ z := by
        have := Hbits.out z
        rw [hzb] at this
        by_cases hk : k ≤ z
        · exact hk
        · simp [hk] at this
      have hMz : M.testBit z = true := by
        have := Hbits.out z
        rw [hzb] at this
        simpa [hkz] using this.symm
      have hskip : nm M (l.take z) 0 = nm M (l.take k) 0 := by
        have := nm_skip M l k (z - k) (fun i h1 h2 => by
          have := Hbits.out i
          rw [hzl i (by omega)] at this
          simpa [h1] using this.symm)
        rwa [show k + (z - k) = z from by omega] at this
      have hnx := nm_next M l z
      rw [hskip] at hnx
      have hbits2 : ∀ i, m2.testBit i = (decide (z + 1 ≤ i) && M.testBit i) := fun i => by
        rw [hznew i, Hbits.out i]
        by_cases h1 : z + 1 ≤ i
        · simp [h1, show k ≤ i from by omega]
        · simp [h1]
      have ctz := fun u (hu : TzW u) => tz_any m hm6 u hu
      rw [← hz] at ctz
      have Ctz := Lib.hid ctz
      have Hb2 := Lib.hid hbits2
      have hm2lt : m2 < 2 ^ 64 := by omega
      have Ht2 := Lib.hid (Ht.out.kept hb)
      have Hzm := Lib.hid hzm
      clear hz hzb hzl hznew hm1 hm2 hkz hskip hbits2 ctz h64e hzm
      by_cases hzn : z < n
      · have hzi : (z : Int) < (n : Int) := by omega
        have hl1 : z < l.length := by rw [Hn.out]; exact hzn
        obtain ⟨b2, off2, rfl, hc⟩ := u64_at (h.below hb) z hl1
        have hgv : gv l z = l[z] := by unfold gv; rw [List.getElem?_eq_getElem hl1]; rfl
        rw [List.getElem?_eq_getElem hl1] at hnx
        rw [hgv] at hc
        generalize l[z] = x at *
        dsimp only at hnx
        rw [if_pos ⟨hz64, hMz⟩] at hnx
        have Hnx := Lib.hid hnx
        clear hnx hgv hl1 hMz
        go_wp2_with (first
          | (go_at_call 14; (with_reducible refine (Ctz.out _ Ht2.out).mono ?_); rintro e w1 ⟨rfl, rfl⟩)
          | (refine wpList_buildW (o := ⟨some 24, _, _, _, _, _⟩) (by rfl) 22 1 [(0, .tmp 23)] (by rfl) elN [x] [.int .u64 (x : Int)] (by rfl) (by rfl) (by rfl) (by omega) (by omega) ?_; intro w7 _ hr7 b7; have O7 := hO.kept b7; have hb7 := Below.then hb b7; have hlt7 : w.heap.size ≤ w7.heap.size := hb7.size)
          | (refine wpList_appB (o := ⟨some 25, _, _, _, _, _⟩) (by rfl) (.tmp 19) (.tmp 24) 22 (by rfl) elN (by intro u hu; simp [u64c] at hu; subst hu; rfl) (by rfl) O7 (by rfl) hr7 hlt7 (by rw [Hq.out]; simp; omega) (by rw [Hq.out]; unfold maxLen; simp; omega) ?_; intro v8 w8 hO8 gg8 _; obtain ⟨la8, lc8, rfl, _⟩ := hO8.form' (q + 1) (by rw [List.length_append, Hq.out]; rfl); have hb8 := hb7.grown gg8 hb7.size (fun x hx => O7.lt x hx)))
        go_roundw
        case rel => exact ⟨m2, z + 1, rfl, hm2lt, Hb2, hb8, by rw [Hnx.out]; exact hO8⟩
        case measure => have := Hzm.out; simp [intOf]; omega
      · have hzi : ¬ (z : Int) < (n : Int) := by omega
        rw [List.getElem?_eq_none (by rw [Hn.out]; omega)] at hnx
        dsimp only at hnx
        rw [List.append_nil] at hnx
        have Hnx := Lib.hid hnx
        clear hnx hMz
        go_wp2_with (go_at_call 14; (with_reducible refine (Ctz.out _ Ht2.out).mono ?_); rintro e w1 ⟨rfl, rfl⟩)
        go_roundw
        case rel => exact ⟨m2, z + 1, rfl, hm2lt, Hb2, hb, by rw [Hnx.out]; exact hO⟩
        case measure => have := Hzm.out; simp [intOf]; omega
end Go.Proofs.YtffkjjpjfehcnaaDoor
