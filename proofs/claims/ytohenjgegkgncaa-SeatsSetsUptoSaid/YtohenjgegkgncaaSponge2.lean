/- sponge.Mix and Unmix and the reference's. -/
import Derived.Test.YtohenjgegkgncaaTabs
import Derived.StillTailTactics
import Derived.OpenShut
set_option linter.unusedSimpArgs false
set_option linter.unusedVariables false
namespace Go.Proofs.Ytohenjgegkgncaa
open Go.RowKit
theorem and63 (k : Int) (h : 0 ≤ k ∧ k ≤ 63) : bits .and .u64 k 63 = k := by
  have := u64_and k 63 h.1 (by omega) (by omega) (by omega)
  rw [this, show (63 : Int).toNat = 63 from rfl, nat_mask6]; omega
/-- x turned up by k places -/
def rotN (x k : Nat) : Nat := (x * 2 ^ k) % 18446744073709551616 + x / 2 ^ (64 - k)
def rotI (x k : Int) : Int := (rotN x.toNat k.toNat : Nat)
def inU (x : Int) : Prop := 0 ≤ x ∧ x ≤ 18446744073709551615
theorem rotN_form (x k : Nat) (hk : k ≤ 64) : rotN x k = (x % 2 ^ (64 - k)) * 2 ^ k + x / 2 ^ (64 - k) := by
  unfold rotN
  have h1 : (18446744073709551616 : Nat) = 2 ^ (64 - k) * 2 ^ k := by rw [← Nat.pow_add, show 64 - k + k = 64 from by omega]
  rw [h1, Nat.mul_mod_mul_right]
theorem rotN_succ (x k : Nat) (hx : x < 18446744073709551616) (hk : k ≤ 63) : rotN x (k + 1) = (rotN x k * 2) % 18446744073709551616 + rotN x k / 9223372036854775808 := by
  rw [rotN_form x (k + 1) (by omega), rotN_form x k (by omega)]
  have e1 : 64 - (k + 1) = 63 - k := by omega
  have e2 : 64 - k = 63 - k + 1 := by omega
  rw [e1, e2]
  have hAB : 2 ^ (63 - k) * 2 ^ k = 9223372036854775808 := by rw [← Nat.pow_add, show 63 - k + k = 63 from by omega]
  have hA : 0 < 2 ^ (63 - k) := Nat.two_pow_pos _
  have hB : 0 < 2 ^ k := Nat.two_pow_pos _
  rw [Nat.pow_succ, Nat.pow_succ]
  generalize 2 ^ (63 - k) = A at *
  generalize 2 ^ k = B at *
  have m1 : x % (A * 2) = A * (x / A % 2) + x % A := by rw [Nat.mod_mul]; omega
  have m2 : x / (A * 2) = x / A / 2 := by rw [Nat.div_div_eq_div_mul]
  rw [m1, m2]
  have hb0 : x % A + 1 ≤ A := Nat.mod_lt _ hA
  have hq : x / A < 2 * B := by
    rw [Nat.div_lt_iff_lt_mul hA, Nat.mul_assoc, Nat.mul_comm B A, hAB]; omega
  have hb : x / A % 2 = 0 ∨ x / A % 2 = 1 := by omega
  generalize x % A = b0 at *
  generalize x / A = q at *
  have h3 : (b0 + 1) * B ≤ A * B := Nat.mul_le_mul_right _ hb0
  rw [Nat.add_mul, hAB, Nat.one_mul] at h3
  have h4 : b0 * (B * 2) = 2 * (b0 * B) := by rw [← Nat.mul_assoc, Nat.mul_comm]
  rw [h4]
  rcases hb with hb | hb
  · rw [hb, Nat.mul_zero, Nat.zero_add]
    generalize b0 * B = c at *
    omega
  · rw [hb, Nat.mul_one, Nat.add_mul A b0 B, hAB]
    generalize b0 * B = c at *
    omega
theorem rotN_lt (x k : Nat) (hx : x < 18446744073709551616) (hk : k ≤ 63) : rotN x k < 18446744073709551616 := by
  rw [rotN_form x k (by omega)]
  have h1 : (18446744073709551616 : Nat) = 2 ^ (64 - k) * 2 ^ k := by rw [← Nat.pow_add, show 64 - k + k = 64 from by omega]
  have hA : 0 < 2 ^ (64 - k) := Nat.two_pow_pos _
  have h2 : x / 2 ^ (64 - k) < 2 ^ k := by rw [Nat.div_lt_iff_lt_mul hA, Nat.mul_comm, ← h1]; exact hx
  generalize 2 ^ (64 - k) = A at *
  generalize 2 ^ k = B at *
  have hb0 : x % A + 1 ≤ A := Nat.mod_lt _ hA
  have h3 : (x % A + 1) * B ≤ A * B := Nat.mul_le_mul_right _ hb0
  rw [Nat.add_mul, ← h1, Nat.one_mul] at h3
  omega
theorem wrap_u64n (x : Int) : IntKind.u64.wrap x = x % 18446744073709551616 := IntKind.wrap_u64 x
theorem rot_bits (x k : Int) (h0 : inU x) (h1 : 0 ≤ k ∧ k ≤ 63) : bits .or .u64 (IntKind.u64.wrap (x * 2 ^ k.toNat)) (x / 2 ^ (64 - k).toNat) = rotI x k := by
  unfold inU at h0
  obtain ⟨n, rfl⟩ := Int.eq_ofNat_of_zero_le h0.1
  obtain ⟨m, rfl⟩ := Int.eq_ofNat_of_zero_le h1.1
  have hn : n < 18446744073709551616 := by omega
  have hm : m ≤ 63 := by omega
  have e1 : ((64 : Int) - (m : Int)).toNat = 64 - m := by omega
  have e2 : IntKind.u64.wrap ((n : Int) * 2 ^ ((m : Int)).toNat) = ((n * 2 ^ m % 18446744073709551616 : Nat) : Int) := by
    have e : (n : Int) * 2 ^ m = ((n * 2 ^ m : Nat) : Int) := by rw [Int.natCast_mul, Int.natCast_pow]; rfl
    rw [wrap_u64n, Int.toNat_natCast, e]
    generalize n * 2 ^ m = c
    omega
  have e3 : (n : Int) / 2 ^ (64 - m) = ((n / 2 ^ (64 - m) : Nat) : Int) := by rw [Int.natCast_ediv, Int.natCast_pow]; rfl
  have hl := rotN_lt n m hn hm
  have h2 : n / 2 ^ (64 - m) < 2 ^ m := by
    rw [Nat.div_lt_iff_lt_mul (Nat.two_pow_pos _), ← Nat.pow_add, show m + (64 - m) = 64 from by omega]; exact hn
  have h3 : n * 2 ^ m % 18446744073709551616 % 2 ^ m = 0 := by
    have h1 : (18446744073709551616 : Nat) = 2 ^ (64 - m) * 2 ^ m := by rw [← Nat.pow_add, show 64 - m + m = 64 from by omega]
    rw [h1, Nat.mul_mod_mul_right]; exact Nat.mul_mod_left _ _
  rw [e1, e2, e3, u64_or_nat _ _ (Nat.mod_lt _ (by omega)) (by unfold rotN at hl; omega), nat_join m _ _ h3 h2]
  rfl
set_option maxHeartbeats 400000 in
theorem rot_any (x k : Int) (h0 : inU x) (h1 : 0 ≤ k ∧ k ≤ 63) (w : World) :
    Calls Try.prog 163 #[.int .u64 x, .int .i64 k] w fun e w' => e = .returned (.int .u64 (rotI x k)) ∧ w' = w := by
  have hm := and63 k h1
  have hr := rot_bits x k h0 h1
  unfold inU at h0
  go_enter Try.func163, Try.ntmps163
  go_wp2
  go_ret
  exact ⟨rfl, rfl⟩
/-- one place of the state -/
def stepI (st : List Int) (i : Nat) : Int := IntKind.u64.wrap (st[i]?.getD 0 + rotI (bits .xor .u64 (st[(i + 1) % 8]?.getD 0) (st[(i + 5) % 8]?.getD 0)) (5 * i + 3))
def stepL (st : List Int) (i : Nat) : List Int := st.set i (stepI st i)
def stepsL (st : List Int) : Nat → List Int
  | 0 => st
  | n + 1 => stepL (stepsL st n) n
/-- the round's number -/
def roundK (r : Nat) : Int := IntKind.u64.wrap (((r : Int) + 1) * 11400714819323198485)
def roundL (st : List Int) (r : Nat) : List Int := stepsL (st.set 0 (bits .xor .u64 (st[0]?.getD 0) (roundK r))) 8
def mixL (st : List Int) : Nat → List Int
  | 0 => st
  | n + 1 => roundL (mixL st n) n
def z8 : List Value := [.int .u64 0, .int .u64 0, .int .u64 0, .int .u64 0, .int .u64 0, .int .u64 0, .int .u64 0, .int .u64 0]
def u64s (st : List Int) : List Value := st.map (Value.int .u64)
theorem list8 {α : Type} (t : List α) (h : t.length = 8) : ∃ x0 x1 x2 x3 x4 x5 x6 x7, t = [x0, x1, x2, x3, x4, x5, x6, x7] := by
  match t, h with
  | [x0, x1, x2, x3, x4, x5, x6, x7], _ => exact ⟨_, _, _, _, _, _, _, _, rfl⟩
theorem u64s_set (st : List Int) (i : Nat) (x : Int) : (u64s st).set i (.int .u64 x) = u64s (st.set i x) := by simp [u64s, List.map_set]
def St (st : List Int) : Prop := st.length = 8 ∧ ∀ x ∈ st, inU x
theorem wrap_inU (x : Int) : inU (IntKind.u64.wrap x) := bounds_u64 (wf_wrap _ _)
theorem bits_inU (op : BinOp) (x y : Int) : inU (bits op .u64 x y) := bounds_u64 (wf_bits _ _ _ _)
theorem St.set {st : List Int} (h : St st) (i : Nat) (x : Int) (hx : inU x) : St (st.set i x) := by
  refine ⟨by simpa using h.1, fun y hy => ?_⟩
  rcases List.mem_or_eq_of_mem_set hy with hy | rfl
  · exact h.2 y hy
  · exact hx
theorem St.get {st : List Int} (h : St st) (i : Nat) (hi : i < 8) : inU (st[i]?.getD 0) := by
  have : i < st.length := by rw [h.1]; exact hi
  simp only [List.getElem?_eq_getElem this, Option.getD_some]
  exact h.2 _ (List.getElem_mem this)
theorem St.step {st : List Int} (h : St st) (i : Nat) : St (stepL st i) := h.set i _ (wrap_inU _)
theorem St.steps {st : List Int} (h : St st) (n : Nat) : St (stepsL st n) := by
  induction n with
  | zero => exact h
  | succ n ih => exact ih.step n
theorem St.round {st : List Int} (h : St st) (r : Nat) : St (roundL st r) := (h.set 0 _ (bits_inU _ _ _)).steps 8
theorem St.mix {st : List Int} (h : St st) (n : Nat) : St (mixL st n) := by
  induction n with
  | zero => exact h
  | succ n ih => exact ih.round n
theorem u64s_at {st : List Int} (h : St st) (i : Nat) (hi : i < 8) : (u64s st)[i]? = some (.int .u64 (st[i]?.getD 0)) := by
  have : i < st.length := by rw [h.1]; exact hi
  simp [u64s, List.getElem?_eq_getElem this]
theorem Blk.st {e : TypeId} {w : World} {b : Nat} {st : List Int} (hb : Blk e w b (u64s st)) (h : St st) (i : Nat) (hi : i < 8) : w.cell? ⟨b, i, none⟩ = some (.int .u64 (st[i]?.getD 0)) := by
  rw [hb.cell, u64s_at h i hi]
theorem u64s_len {st : List Int} (h : St st) : (u64s st).length = 8 := by simp [u64s, h.1]
theorem u64s_one (st : List Int) : ∀ u ∈ u64s st, u.oneCell' = true := by
  intro u hu
  obtain ⟨x, _, rfl⟩ := List.mem_map.1 hu
  rfl
set_option maxHeartbeats 400000 in
set_option maxRecDepth 100000 in
theorem mix_any (st : List Int) (h : St st) (w : World) :
    Calls Try.prog 161 #[.agg (u64s st).toArray] w fun e w' => e = .returned (.agg (u64s (mixL st 12)).toArray) ∧ Below w.heap.size w w' := by
  have hz : Blk 134 (((w.alloc (.cells (u64s st).toArray 134)).alloc (.cells z8.toArray 134))) (w.heap.size + 1) z8 := by
    have := Blk.new (w.alloc (.cells (u64s st).toArray 134)) 134 z8; simpa using this
  have hb0 : Blk 134 (((w.alloc (.cells (u64s st).toArray 134)).alloc (.cells z8.toArray 134))) w.heap.size (u64s st) := (Blk.new w 134 (u64s st)).alloc _
  have hbel : Below w.heap.size w ((w.alloc (.cells (u64s st).toArray 134)).alloc (.cells z8.toArray 134)) := ((Below.refl _ _).alloc (Nat.le_refl _) _).alloc (by simp) _
  go_enter Try.func161, Try.ntmps161
  go_wp2
  go_loopw [5] (fun r wr => ∃ k : Nat, k ≤ 12 ∧ r = .int .i64 k ∧ Blk 134 wr w.heap.size (u64s (mixL st k)) ∧ Below w.heap.size w wr ∧ Blk 134 wr (w.heap.size + 1) z8) (fun r _ => 12 - (intOf r).toNat)
  case atStart => exact ⟨0, by omega, rfl, hb0, hbel, hz⟩
  case round =>
    clear hz hb0 hbel
    obtain ⟨k, hk, rfl, hb, hbel, hz⟩ := hrel
    have hst := h.mix k
    by_cases hlt : k < 12
    · have hc0 := hb.st hst 0 (by omega)
      have hf0 := hb.free 0
      have hd : decide ((k : Int) < 12) = true := by rw [decide_eq_true_eq]; omega
      go_wp2
      rw [show IntKind.u64.wrap (((k : Int) + 1) * 11400714819323198485) = roundK k from rfl]
      obtain ⟨wo, rfl⟩ : ∃ wo : World, wo = wr := ⟨_, rfl⟩
      go_loopw [16] (fun r wi => ∃ i : Nat, i ≤ 8 ∧ r = .int .i64 i ∧ Blk 134 wi w.heap.size (u64s (stepsL ((mixL st k).set 0 (bits .xor .u64 ((mixL st k)[0]?.getD 0) (roundK k))) i)) ∧ Below w.heap.size w wi ∧ Blk 134 wi (w.heap.size + 1) z8) (fun r _ => 8 - (intOf r).toNat)
      case atStart => exact ⟨0, by omega, rfl, by have := hb.set 0 (.int .u64 (bits .xor .u64 ((mixL st k)[0]?.getD 0) (roundK k))); rw [u64s_set] at this; exact this, hbel.setCell (Nat.le_refl _) _, hz.other _ (by simp) _⟩
      case round =>
        clear hb hbel hz hc0 hf0
        obtain ⟨i, hi, rfl, hb, hbel, hz⟩ := hrel
        have hs2 : St (stepsL ((mixL st k).set 0 (bits .xor .u64 ((mixL st k)[0]?.getD 0) (roundK k))) i) := (hst.set 0 _ (bits_inU _ _ _)).steps i
        generalize hq : stepsL ((mixL st k).set 0 (bits .xor .u64 ((mixL st k)[0]?.getD 0) (roundK k))) i = s2 at hb hs2
        have Hq := Lib.hid hq
        clear hq
        by_cases hi8 : i < 8
        · obtain ⟨j1, hj1⟩ : ∃ j1, j1 = (i + 1) % 8 := ⟨_, rfl⟩
          obtain ⟨j5, hj5⟩ : ∃ j5, j5 = (i + 5) % 8 := ⟨_, rfl⟩
          have c0 := hb.st hs2 i hi8
          have c1 := hb.st hs2 j1 (by omega)
          have c5 := hb.st hs2 j5 (by omega)
          have f0 := hb.free i
          have hx : inU (bits .xor .u64 (s2[j1]?.getD 0) (s2[j5]?.getD 0)) := bits_inU _ _ _
          have e1 : IntKind.i64.wrap ((i : Int) + 1) = (i : Int) + 1 := IntWalk.i64_in _ (by omega)
          have e5 : IntKind.i64.wrap ((i : Int) + 5) = (i : Int) + 5 := IntWalk.i64_in _ (by omega)
          have em : IntKind.i64.wrap (5 * (i : Int)) = 5 * (i : Int) := IntWalk.i64_in _ (by omega)
          have ea : IntKind.i64.wrap (5 * (i : Int) + 3) = 5 * (i : Int) + 3 := IntWalk.i64_in _ (by omega)
          have t1 : ((i : Int) + 1).tmod 8 = (j1 : Int) := by rw [Int.tmod_eq_emod_of_nonneg (by omega)]; omega
          have t5 : ((i : Int) + 5).tmod 8 = (j5 : Int) := by rw [Int.tmod_eq_emod_of_nonneg (by omega)]; omega
          have l1 : (j1 : Int) < 8 := by omega
          have l5 : (j5 : Int) < 8 := by omega
          have Hstep : Hid ((s2.set i (IntKind.u64.wrap (s2[i]?.getD 0 + rotI (bits .xor .u64 (s2[j1]?.getD 0) (s2[j5]?.getD 0)) (5 * (i : Int) + 3)))) = stepL s2 i) := by rw [hj1, hj5]; exact Lib.hid rfl
          clear hj1 hj5
          go_wp2
          refine wp_region_still_tail 20 (by kernel_rfl) (by kernel_rfl) ?_
          simp only [List.take_succ_cons, List.take_zero, List.drop_succ_cons, List.drop_zero]
          iterate 17 still_step
          still_call (rot_any _ _ hx ⟨by omega, by omega⟩ _)
          iterate 2 still_step
          refine wpStill_nil ?_
          change wpList _ _ _ _ _ wr.drew
          go_wp2
          go_roundw
          case rel =>
            have hq2 := (hb.set i (.int .u64 (IntKind.u64.wrap (s2[i]?.getD 0 + rotI (bits .xor .u64 (s2[j1]?.getD 0) (s2[j5]?.getD 0)) (5 * (i : Int) + 3))))).drew
            rw [u64s_set, Hstep.out] at hq2
            exact ⟨i + 1, by omega, by go_num, by show Blk _ _ _ (u64s (stepL (stepsL _ i) i)); rw [Hq.out]; exact hq2, (hbel.setCell (Nat.le_refl _) _).drew, (hz.other _ (by simp) _).drew⟩
          case measure => simp [intOf]; omega
        · obtain rfl : i = 8 := by omega
          go_wp2
          go_roundw
          case rel => exact ⟨k + 1, by omega, by go_num, by show Blk _ _ _ (u64s (stepsL _ 8)); rw [Hq.out]; exact hb, hbel, hz⟩
          case measure => simp [intOf]; omega
    · obtain rfl : k = 12 := by omega
      have hst := h.mix 12
      go_wp2_with (first
        | (refine wpList_loadA rfl 134 (.tmp 1) rfl w.heap.size rfl aggState hb (u64s_len hst) ?_)
        | (refine wpList_storeA rfl 134 (.tmp 2) (.tmp 41) rfl (w.heap.size + 1) (u64s (mixL st 12)) rfl rfl aggState hz (u64s_len hst) rfl (u64s_one _) hbel (by omega) ?_; intro w2 hb2 hbel2 _))
      exact bodyPost_ret (results_blk rfl _ _ (w.heap.size + 1) aggState hb2 (u64s_len hst) rfl) rfl ⟨rfl, hbel2⟩

theorem turn_step (x k : Int) (h0 : inU x) (h1 : 0 ≤ k ∧ k < 63) : IntKind.u64.wrap (IntKind.u64.wrap (rotI x k * 2) + rotI x k / 9223372036854775808) = rotI x (k + 1) := by
  unfold inU at h0
  obtain ⟨n, rfl⟩ := Int.eq_ofNat_of_zero_le h0.1
  obtain ⟨m, rfl⟩ := Int.eq_ofNat_of_zero_le h1.1
  have h2 := rotN_succ n m (by omega) (by omega)
  have h3 := rotN_lt n (m + 1) (by omega) (by omega)
  have e : ((m : Int) + 1).toNat = m + 1 := by omega
  unfold rotI
  rw [wrap_u64n, wrap_u64n, e, Int.toNat_natCast, Int.toNat_natCast]
  omega
theorem rotI_inU (x k : Int) (h0 : inU x) (h1 : 0 ≤ k ∧ k ≤ 63) : inU (rotI x k) := by
  unfold inU at *
  have := rotN_lt x.toNat k.toNat (by omega) (by omega)
  unfold rotI; omega
theorem rotI_zero (x : Int) (h0 : inU x) : rotI x 0 = x := by
  unfold inU at h0
  unfold rotI rotN
  simp
  omega
set_option maxHeartbeats 400000 in
set_option maxRecDepth 100000 in
theorem turn_any (x n : Int) (h0 : inU x) (h1 : 0 ≤ n ∧ n ≤ 63) (w : World) :
    Calls Try.prog 136 #[.int .u64 x, .int .i64 n] w fun e w' => e = .returned (.int .u64 (rotI x n)) ∧ w' = w := by
  obtain ⟨m, rfl⟩ := Int.eq_ofNat_of_zero_le h1.1
  go_enter Try.func136, Try.ntmps136
  go_wp2
  go_loop [0, 6] (fun y i => ∃ k : Nat, k ≤ m ∧ i = .int .i64 k ∧ y = .int .u64 (rotI x k)) (fun _ i => m - (intOf i).toNat)
  case atStart => exact ⟨0, Nat.zero_le _, rfl, val_int (rotI_zero x h0).symm⟩
  case round =>
    obtain ⟨k, hk, rfl, rfl⟩ := hrel
    by_cases hlt : k < m
    · have hs := turn_step x k h0 ⟨by omega, by omega⟩
      have hu := rotI_inU x k h0 ⟨by omega, by omega⟩
      unfold inU at hu
      have Hs := Lib.hid hs
      clear hs
      go_wp2
      go_round
      case rel => exact ⟨k + 1, by omega, by go_num, val_int Hs.out⟩
      case measure => simp [intOf]; omega
    · obtain rfl : k = m := by omega
      go_wp2
      go_ret
      exact ⟨rfl, rfl⟩
end Go.Proofs.Ytohenjgegkgncaa
