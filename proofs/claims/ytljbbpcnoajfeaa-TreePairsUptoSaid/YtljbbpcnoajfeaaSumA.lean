/- sponge.Pad and the reference's SPad: both come to one list. | sponge.Mix and Unmix and the reference's. | The reference's SMix; sponge.Unmix and the reference's SUnmix. | What a sponge takes up and hands out: plain laws. No program in sight. | sponge.read, write8. | The reference's SSum. | (*Hasher).take. | The Hasher by what it has taken: take, Write. | (Hasher).Sum, sponge.Sum. -/
import Derived.Test.YtljbbpcnoajfeaaTabs
import Derived.StillTailTactics
import Derived.OpenShut
import Derived.Laws.BitsAllLaws
import Derived.Test.YtljbbpcnoajfeaaBase
import Derived.Deep.MidRow
/- (Sponge1) sponge.Pad and the reference's SPad: both come to one list. -/
set_option linter.unusedSimpArgs false
set_option linter.unusedVariables false
namespace Go.Proofs.Ytljbbpcnoajfeaa
open Go.RowKit
def padZ (n : Nat) : Nat := (62 - n % 32) % 32
def padL (l : List UInt8) : List UInt8 := l ++ [1] ++ List.replicate (padZ l.length) 0 ++ [128]

theorem pad_splice (l : List UInt8) (n : Nat) (h : n = l.length + 2 + padZ l.length) : ((((splice (List.replicate n (Value.int .u8 0)) 0 (l.map u8v)).set l.length (.int .u8 1))).set (n - 1) (.int .u8 128)) = (padL l).map u8v := by
  have e1 : splice (List.replicate n (Value.int .u8 0)) 0 (l.map u8v) = l.map u8v ++ (Value.int .u8 0 :: (List.replicate (padZ l.length) (Value.int .u8 0) ++ [Value.int .u8 0])) := by
    unfold splice
    rw [List.take_zero, List.nil_append, Nat.zero_add, List.length_map, List.drop_replicate, show n - l.length = padZ l.length + 1 + 1 from by omega, List.replicate_succ, List.replicate_succ']
  rw [e1, List.set_append_right _ _ (by simp)]
  simp only [List.length_map, Nat.sub_self, List.set_cons_zero]
  rw [List.set_append_right _ _ (by simp; omega), List.length_map, show n - 1 - l.length = padZ l.length + 1 from by omega, List.set_cons_succ, List.set_append_right _ _ (by simp)]
  simp [padL, u8v]
set_option maxHeartbeats 400000 in
theorem spad_own (a : Option Addr) (c : Nat) (l : List UInt8) (w : World) (h : Bytes w (.slice a l.length c) l) (hl : l.length + 64 ≤ 140737488355328) :
    Calls Try.prog 112 #[.slice a l.length c] w fun e w' => ∃ v, e = .returned v ∧ OwnOf b8 1 5 w' w.heap.size v (padL l) ∧ Below w.heap.size w w' := by
  have hn := h.small
  unfold maxLen at hn
  have hz : padZ l.length ≤ 31 := by unfold padZ; omega
  obtain ⟨n, hnn⟩ : ∃ n : Nat, n = l.length + 2 + padZ l.length := ⟨_, rfl⟩
  have hfin := pad_splice l n hnn
  have hnl : (splice (List.replicate n (Value.int .u8 0)) 0 (l.map u8v)).length = n := by rw [length_splice _ _ _ (by simp; omega)]; simp
  have H := Lib.hid hnn
  have hlo : l.length + 2 ≤ n ∧ n ≤ l.length + 33 := by omega
  have Hf := Lib.hid hfin
  have Hn := Lib.hid hnl
  have hcase : ((((l.length : Int) % 32 == 31) = true ∧ ((l.length : Int) / 32 + 1) * 32 + 32 = (n : Int)) ∨ (((l.length : Int) % 32 == 31) = false ∧ ((l.length : Int) / 32 + 1) * 32 = (n : Int))) := by
    unfold padZ at hnn
    by_cases ht : (l.length : Int) % 32 = 31
    · exact .inl ⟨by simpa using ht, by omega⟩
    · exact .inr ⟨by simpa using ht, by omega⟩
  clear hnn hfin hnl
  go_enter Try.func112, Try.ntmps112
  rcases hcase with ⟨ht, hn2⟩ | ⟨ht, hn2⟩
  all_goals
    go_wp2_with (refine wpList_make1 rfl (.tmp 16) (.tmp 16) 22 rfl elU8 rfl .i64 .i64 _ _ n rfl rfl ?_ ?_ (Below.refl _ _) (Nat.le_refl _) ?_ ?_ ?_)
    · rfl
    · rfl
    · omega
    · unfold maxLen; omega
    intro w1 hblk hbel _ hB
    have hle : l.length ≤ n := by omega
    have hfit : 0 + l.length ≤ (List.replicate n (Value.int .u8 0)).length := by simp; omega
    go_wp2_with (refine wpList_copyTo rfl (.tmp 18) (.tmp 19) 22 22 rfl elU8 w.heap.size 0 n n rfl (.slice a l.length c) l rfl (h.below hbel) hle _ hblk hfit w.heap.size w hbel (Nat.le_refl _) ?_)
    intro w2 hblk2 hbel2
    clear hle hfit
    rw [flat_b8] at hblk2; obtain ⟨x1, hk1⟩ := hblk2.has l.length (by rw [Hn.out]; omega); have hk2 := hblk2.free l.length; have hblk3 := hblk2.set l.length (.int .u8 1); obtain ⟨x3, hk3⟩ := hblk3.has (n - 1) (by rw [List.length_set, Hn.out]; omega); have hk4 := hblk3.free (n - 1)
    go_wp2
    go_ret
    have hblk4 := hblk3.set (n - 1) (.int .u8 128)
    rw [Hf.out, ← flat_b8] at hblk4
    refine ⟨_, rfl, (hblk4.own (B := w.heap.size) n (fun _ => rfl) ?_ (Nat.le_refl _) (by unfold maxLen; omega)), (hbel2.setCell (Nat.le_refl _) _).setCell (Nat.le_refl _) _⟩
    have := H.out
    simp [padL]; omega
theorem spad_any (a : Option Addr) (c : Nat) (l : List UInt8) (w : World) (h : Bytes w (.slice a l.length c) l) (hl : l.length + 64 ≤ 140737488355328) :
    Calls Try.prog 112 #[.slice a l.length c] w fun e w' => ∃ v, e = .returned v ∧ Bytes w' v (padL l) ∧ Below w.heap.size w w' :=
  (spad_own a c l w h hl).mono fun e w' ⟨v, h1, h2, h3⟩ => ⟨v, h1, h2.row, h3⟩
end Go.Proofs.Ytljbbpcnoajfeaa
/- (Sponge2) sponge.Mix and Unmix and the reference's. -/
namespace Go.Proofs.Ytljbbpcnoajfeaa
open Go.RowKit
theorem and63 (k : Int) (h : 0 ≤ k ∧ k ≤ 63) : bits .and .u64 k 63 = k := by
  have := u64_and k 63 h.1 (by omega) (by omega) (by omega)
  rw [this, show (63 : Int).toNat = 63 from rfl, nat_mask6]; omega
/-- x turned up by k places -/
def rotN (x k : Nat) : Nat := (x * 2 ^ k) % 18446744073709551616 + x / 2 ^ (64 - k)
def rotI (x k : Int) : Int := (rotN x.toNat k.toNat : Nat)
def inU (x : Int) : Prop := 0 ≤ x ∧ x ≤ 18446744073709551615
theorem rotN_form (x k : Nat) (hk : k ≤ 64) : rotN x k = (x % 2 ^ (64 - k)) * 2 ^ k + x / 2 ^ (64 - k) := by
  unfold rotN
  have h1 : (18446744073709551616 : Nat) = 2 ^ (64 - k) * 2 ^ k := by rw [← Nat.pow_add, show 64 - k + k = 64 from by omega]
  rw [h1, Nat.mul_mod_mul_right]
theorem rotN_succ (x k : Nat) (hx : x < 18446744073709551616) (hk : k ≤ 63) : rotN x (k + 1) = (rotN x k * 2) % 18446744073709551616 + rotN x k / 9223372036854775808 := by
  rw [rotN_form x (k + 1) (by omega), rotN_form x k (by omega)]
  have e1 : 64 - (k + 1) = 63 - k := by omega
  have e2 : 64 - k = 63 - k + 1 := by omega
  rw [e1, e2]
  have hAB : 2 ^ (63 - k) * 2 ^ k = 9223372036854775808 := by rw [← Nat.pow_add, show 63 - k + k = 63 from by omega]
  have hA : 0 < 2 ^ (63 - k) := Nat.two_pow_pos _
  have hB : 0 < 2 ^ k := Nat.two_pow_pos _
  rw [Nat.pow_succ, Nat.pow_succ]
  generalize 2 ^ (63 - k) = A at *
  generalize 2 ^ k = B at *
  have m1 : x % (A * 2) = A * (x / A % 2) + x % A := by rw [Nat.mod_mul]; omega
  have m2 : x / (A * 2) = x / A / 2 := by rw [Nat.div_div_eq_div_mul]
  rw [m1, m2]
  have hb0 : x % A + 1 ≤ A := Nat.mod_lt _ hA
  have hq : x / A < 2 * B := by
    rw [Nat.div_lt_iff_lt_mul hA, Nat.mul_assoc, Nat.mul_comm B A, hAB]; omega
  have hb : x / A % 2 = 0 ∨ x / A % 2 = 1 := by omega
  generalize x % A = b0 at *
  generalize x / A = q at *
  have h3 : (b0 + 1) * B ≤ A * B := Nat.mul_le_mul_right _ hb0
  rw [Nat.add_mul, hAB, Nat.one_mul] at h3
  have h4 : b0 * (B * 2) = 2 * (b0 * B) := by rw [← Nat.mul_assoc, Nat.mul_comm]
  rw [h4]
  rcases hb with hb | hb
  · rw [hb, Nat.mul_zero, Nat.zero_add]
    generalize b0 * B = c at *
    omega
  · rw [hb, Nat.mul_one, Nat.add_mul A b0 B, hAB]
    generalize b0 * B = c at *
    omega
theorem rotN_lt (x k : Nat) (hx : x < 18446744073709551616) (hk : k ≤ 63) : rotN x k < 18446744073709551616 := by
  rw [rotN_form x k (by omega)]
  have h1 : (18446744073709551616 : Nat) = 2 ^ (64 - k) * 2 ^ k := by rw [← Nat.pow_add, show 64 - k + k = 64 from by omega]
  have hA : 0 < 2 ^ (64 - k) := Nat.two_pow_pos _
  have h2 : x / 2 ^ (64 - k) < 2 ^ k := by rw [Nat.div_lt_iff_lt_mul hA, Nat.mul_comm, ← h1]; exact hx
  generalize 2 ^ (64 - k) = A at *
  generalize 2 ^ k = B at *
  have hb0 : x % A + 1 ≤ A := Nat.mod_lt _ hA
  have h3 : (x % A + 1) * B ≤ A * B := Nat.mul_le_mul_right _ hb0
  rw [Nat.add_mul, ← h1, Nat.one_mul] at h3
  omega
theorem wrap_u64n (x : Int) : IntKind.u64.wrap x = x % 18446744073709551616 := IntKind.wrap_u64 x
theorem rot_bits (x k : Int) (h0 : inU x) (h1 : 0 ≤ k ∧ k ≤ 63) : bits .or .u64 (IntKind.u64.wrap (x * 2 ^ k.toNat)) (x / 2 ^ (64 - k).toNat) = rotI x k := by
  unfold inU at h0
  obtain ⟨n, rfl⟩ := Int.eq_ofNat_of_zero_le h0.1
  obtain ⟨m, rfl⟩ := Int.eq_ofNat_of_zero_le h1.1
  have hn : n < 18446744073709551616 := by omega
  have hm : m ≤ 63 := by omega
  have e1 : ((64 : Int) - (m : Int)).toNat = 64 - m := by omega
  have e2 : IntKind.u64.wrap ((n : Int) * 2 ^ ((m : Int)).toNat) = ((n * 2 ^ m % 18446744073709551616 : Nat) : Int) := by
    have e : (n : Int) * 2 ^ m = ((n * 2 ^ m : Nat) : Int) := by rw [Int.natCast_mul, Int.natCast_pow]; rfl
    rw [wrap_u64n, Int.toNat_natCast, e]
    generalize n * 2 ^ m = c
    omega
  have e3 : (n : Int) / 2 ^ (64 - m) = ((n / 2 ^ (64 - m) : Nat) : Int) := by rw [Int.natCast_ediv, Int.natCast_pow]; rfl
  have hl := rotN_lt n m hn hm
  have h2 : n / 2 ^ (64 - m) < 2 ^ m := by
    rw [Nat.div_lt_iff_lt_mul (Nat.two_pow_pos _), ← Nat.pow_add, show m + (64 - m) = 64 from by omega]; exact hn
  have h3 : n * 2 ^ m % 18446744073709551616 % 2 ^ m = 0 := by
    have h1 : (18446744073709551616 : Nat) = 2 ^ (64 - m) * 2 ^ m := by rw [← Nat.pow_add, show 64 - m + m = 64 from by omega]
    rw [h1, Nat.mul_mod_mul_right]; exact Nat.mul_mod_left _ _
  rw [e1, e2, e3, u64_or_nat _ _ (Nat.mod_lt _ (by omega)) (by unfold rotN at hl; omega), nat_join m _ _ h3 h2]
  rfl
set_option maxHeartbeats 400000 in
theorem rot_any (x k : Int) (h0 : inU x) (h1 : 0 ≤ k ∧ k ≤ 63) (w : World) :
    Calls Try.prog 153 #[.int .u64 x, .int .i64 k] w fun e w' => e = .returned (.int .u64 (rotI x k)) ∧ w' = w := by
  have hm := and63 k h1
  have hr := rot_bits x k h0 h1
  unfold inU at h0
  go_enter Try.func153, Try.ntmps153
  go_wp2
  go_ret
  exact ⟨rfl, rfl⟩
/-- one place of the state -/
def stepI (st : List Int) (i : Nat) : Int := IntKind.u64.wrap (st[i]?.getD 0 + rotI (bits .xor .u64 (st[(i + 1) % 8]?.getD 0) (st[(i + 5) % 8]?.getD 0)) (5 * i + 3))
def stepL (st : List Int) (i : Nat) : List Int := st.set i (stepI st i)
def stepsL (st : List Int) : Nat → List Int
  | 0 => st
  | n + 1 => stepL (stepsL st n) n
/-- the round's number -/
def roundK (r : Nat) : Int := IntKind.u64.wrap (((r : Int) + 1) * 11400714819323198485)
def roundL (st : List Int) (r : Nat) : List Int := stepsL (st.set 0 (bits .xor .u64 (st[0]?.getD 0) (roundK r))) 8
def mixL (st : List Int) : Nat → List Int
  | 0 => st
  | n + 1 => roundL (mixL st n) n
def z8 : List Value := [.int .u64 0, .int .u64 0, .int .u64 0, .int .u64 0, .int .u64 0, .int .u64 0, .int .u64 0, .int .u64 0]
def u64s (st : List Int) : List Value := st.map (Value.int .u64)
theorem list8 {α : Type} (t : List α) (h : t.length = 8) : ∃ x0 x1 x2 x3 x4 x5 x6 x7, t = [x0, x1, x2, x3, x4, x5, x6, x7] := by
  match t, h with
  | [x0, x1, x2, x3, x4, x5, x6, x7], _ => exact ⟨_, _, _, _, _, _, _, _, rfl⟩
theorem u64s_set (st : List Int) (i : Nat) (x : Int) : (u64s st).set i (.int .u64 x) = u64s (st.set i x) := by simp [u64s, List.map_set]
def St (st : List Int) : Prop := st.length = 8 ∧ ∀ x ∈ st, inU x
theorem wrap_inU (x : Int) : inU (IntKind.u64.wrap x) := bounds_u64 (wf_wrap _ _)
theorem bits_inU (op : BinOp) (x y : Int) : inU (bits op .u64 x y) := bounds_u64 (wf_bits _ _ _ _)
theorem St.set {st : List Int} (h : St st) (i : Nat) (x : Int) (hx : inU x) : St (st.set i x) := by
  refine ⟨by simpa using h.1, fun y hy => ?_⟩
  rcases List.mem_or_eq_of_mem_set hy with hy | rfl
  · exact h.2 y hy
  · exact hx
theorem St.get {st : List Int} (h : St st) (i : Nat) (hi : i < 8) : inU (st[i]?.getD 0) := by
  have : i < st.length := by rw [h.1]; exact hi
  simp only [List.getElem?_eq_getElem this, Option.getD_some]
  exact h.2 _ (List.getElem_mem this)
theorem St.step {st : List Int} (h : St st) (i : Nat) : St (stepL st i) := h.set i _ (wrap_inU _)
theorem St.steps {st : List Int} (h : St st) (n : Nat) : St (stepsL st n) := by
  induction n with
  | zero => exact h
  | succ n ih => exact ih.step n
theorem St.round {st : List Int} (h : St st) (r : Nat) : St (roundL st r) := (h.set 0 _ (bits_inU _ _ _)).steps 8
theorem St.mix {st : List Int} (h : St st) (n : Nat) : St (mixL st n) := by
  induction n with
  | zero => exact h
  | succ n ih => exact ih.round n
theorem u64s_at {st : List Int} (h : St st) (i : Nat) (hi : i < 8) : (u64s st)[i]? = some (.int .u64 (st[i]?.getD 0)) := by
  have : i < st.length := by rw [h.1]; exact hi
  simp [u64s, List.getElem?_eq_getElem this]
theorem Blk.st {e : TypeId} {w : World} {b : Nat} {st : List Int} (hb : Blk e w b (u64s st)) (h : St st) (i : Nat) (hi : i < 8) : w.cell? ⟨b, i, none⟩ = some (.int .u64 (st[i]?.getD 0)) := by
  rw [hb.cell, u64s_at h i hi]
theorem u64s_len {st : List Int} (h : St st) : (u64s st).length = 8 := by simp [u64s, h.1]
theorem u64s_one (st : List Int) : ∀ u ∈ u64s st, u.oneCell' = true := by
  intro u hu
  obtain ⟨x, _, rfl⟩ := List.mem_map.1 hu
  rfl
set_option maxHeartbeats 400000 in
set_option maxRecDepth 100000 in
theorem mix_any (st : List Int) (h : St st) (w : World) :
    Calls Try.prog 146 #[.agg (u64s st).toArray] w fun e w' => e = .returned (.agg (u64s (mixL st 12)).toArray) ∧ Below w.heap.size w w' := by
  have hz : Blk 187 (((w.alloc (.cells (u64s st).toArray 187)).alloc (.cells z8.toArray 187))) (w.heap.size + 1) z8 := by
    have := Blk.new (w.alloc (.cells (u64s st).toArray 187)) 187 z8; simpa using this
  have hb0 : Blk 187 (((w.alloc (.cells (u64s st).toArray 187)).alloc (.cells z8.toArray 187))) w.heap.size (u64s st) := (Blk.new w 187 (u64s st)).alloc _
  have hbel : Below w.heap.size w ((w.alloc (.cells (u64s st).toArray 187)).alloc (.cells z8.toArray 187)) := ((Below.refl _ _).alloc (Nat.le_refl _) _).alloc (by simp) _
  go_enter Try.func146, Try.ntmps146
  go_wp2
  go_loopw [5] (fun r wr => ∃ k : Nat, k ≤ 12 ∧ r = .int .i64 k ∧ Blk 187 wr w.heap.size (u64s (mixL st k)) ∧ Below w.heap.size w wr ∧ Blk 187 wr (w.heap.size + 1) z8) (fun r _ => 12 - (intOf r).toNat)
  case atStart => exact ⟨0, by omega, rfl, hb0, hbel, hz⟩
  case round =>
    clear hz hb0 hbel
    obtain ⟨k, hk, rfl, hb, hbel, hz⟩ := hrel
    have hst := h.mix k
    by_cases hlt : k < 12
    · have hc0 := hb.st hst 0 (by omega)
      have hf0 := hb.free 0
      have hd : decide ((k : Int) < 12) = true := by rw [decide_eq_true_eq]; omega
      go_wp2
      rw [show IntKind.u64.wrap (((k : Int) + 1) * 11400714819323198485) = roundK k from rfl]
      obtain ⟨wo, rfl⟩ : ∃ wo : World, wo = wr := ⟨_, rfl⟩
      go_loopw [16] (fun r wi => ∃ i : Nat, i ≤ 8 ∧ r = .int .i64 i ∧ Blk 187 wi w.heap.size (u64s (stepsL ((mixL st k).set 0 (bits .xor .u64 ((mixL st k)[0]?.getD 0) (roundK k))) i)) ∧ Below w.heap.size w wi ∧ Blk 187 wi (w.heap.size + 1) z8) (fun r _ => 8 - (intOf r).toNat)
      case atStart => exact ⟨0, by omega, rfl, by have := hb.set 0 (.int .u64 (bits .xor .u64 ((mixL st k)[0]?.getD 0) (roundK k))); rw [u64s_set] at this; exact this, hbel.setCell (Nat.le_refl _) _, hz.other _ (by simp) _⟩
      case round =>
        clear hb hbel hz hc0 hf0
        obtain ⟨i, hi, rfl, hb, hbel, hz⟩ := hrel
        have hs2 : St (stepsL ((mixL st k).set 0 (bits .xor .u64 ((mixL st k)[0]?.getD 0) (roundK k))) i) := (hst.set 0 _ (bits_inU _ _ _)).steps i
        generalize hq : stepsL ((mixL st k).set 0 (bits .xor .u64 ((mixL st k)[0]?.getD 0) (roundK k))) i = s2 at hb hs2
        have Hq := Lib.hid hq
        clear hq
        by_cases hi8 : i < 8
        · obtain ⟨j1, hj1⟩ : ∃ j1, j1 = (i + 1) % 8 := ⟨_, rfl⟩
          obtain ⟨j5, hj5⟩ : ∃ j5, j5 = (i + 5) % 8 := ⟨_, rfl⟩
          have c0 := hb.st hs2 i hi8
          have c1 := hb.st hs2 j1 (by omega)
          have c5 := hb.st hs2 j5 (by omega)
          have f0 := hb.free i
          have hx : inU (bits .xor .u64 (s2[j1]?.getD 0) (s2[j5]?.getD 0)) := bits_inU _ _ _
          have e1 : IntKind.i64.wrap ((i : Int) + 1) = (i : Int) + 1 := IntWalk.i64_in _ (by omega)
          have e5 : IntKind.i64.wrap ((i : Int) + 5) = (i : Int) + 5 := IntWalk.i64_in _ (by omega)
          have em : IntKind.i64.wrap (5 * (i : Int)) = 5 * (i : Int) := IntWalk.i64_in _ (by omega)
          have ea : IntKind.i64.wrap (5 * (i : Int) + 3) = 5 * (i : Int) + 3 := IntWalk.i64_in _ (by omega)
          have t1 : ((i : Int) + 1).tmod 8 = (j1 : Int) := by rw [Int.tmod_eq_emod_of_nonneg (by omega)]; omega
          have t5 : ((i : Int) + 5).tmod 8 = (j5 : Int) := by rw [Int.tmod_eq_emod_of_nonneg (by omega)]; omega
          have l1 : (j1 : Int) < 8 := by omega
          have l5 : (j5 : Int) < 8 := by omega
          have Hstep : Hid ((s2.set i (IntKind.u64.wrap (s2[i]?.getD 0 + rotI (bits .xor .u64 (s2[j1]?.getD 0) (s2[j5]?.getD 0)) (5 * (i : Int) + 3)))) = stepL s2 i) := by rw [hj1, hj5]; exact Lib.hid rfl
          clear hj1 hj5
          go_wp2
          refine wp_region_still_tail 20 (by kernel_rfl) (by kernel_rfl) ?_
          simp only [List.take_succ_cons, List.take_zero, List.drop_succ_cons, List.drop_zero]
          iterate 17 still_step
          still_call (rot_any _ _ hx ⟨by omega, by omega⟩ _)
          iterate 2 still_step
          refine wpStill_nil ?_
          change wpList _ _ _ _ _ wr.drew
          go_wp2
          go_roundw
          case rel =>
            have hq2 := (hb.set i (.int .u64 (IntKind.u64.wrap (s2[i]?.getD 0 + rotI (bits .xor .u64 (s2[j1]?.getD 0) (s2[j5]?.getD 0)) (5 * (i : Int) + 3))))).drew
            rw [u64s_set, Hstep.out] at hq2
            exact ⟨i + 1, by omega, by go_num, by show Blk _ _ _ (u64s (stepL (stepsL _ i) i)); rw [Hq.out]; exact hq2, (hbel.setCell (Nat.le_refl _) _).drew, (hz.other _ (by simp) _).drew⟩
          case measure => simp [intOf]; omega
        · obtain rfl : i = 8 := by omega
          go_wp2
          go_roundw
          case rel => exact ⟨k + 1, by omega, by go_num, by show Blk _ _ _ (u64s (stepsL _ 8)); rw [Hq.out]; exact hb, hbel, hz⟩
          case measure => simp [intOf]; omega
    · obtain rfl : k = 12 := by omega
      have hst := h.mix 12
      go_wp2_with (first
        | (refine wpList_loadA rfl 187 (.tmp 1) rfl w.heap.size rfl aggState hb (u64s_len hst) ?_)
        | (refine wpList_storeA rfl 187 (.tmp 2) (.tmp 41) rfl (w.heap.size + 1) (u64s (mixL st 12)) rfl rfl aggState hz (u64s_len hst) rfl (u64s_one _) hbel (by omega) ?_; intro w2 hb2 hbel2 _))
      exact bodyPost_ret (results_blk rfl _ _ (w.heap.size + 1) aggState hb2 (u64s_len hst) rfl) rfl ⟨rfl, hbel2⟩

theorem turn_step (x k : Int) (h0 : inU x) (h1 : 0 ≤ k ∧ k < 63) : IntKind.u64.wrap (IntKind.u64.wrap (rotI x k * 2) + rotI x k / 9223372036854775808) = rotI x (k + 1) := by
  unfold inU at h0
  obtain ⟨n, rfl⟩ := Int.eq_ofNat_of_zero_le h0.1
  obtain ⟨m, rfl⟩ := Int.eq_ofNat_of_zero_le h1.1
  have h2 := rotN_succ n m (by omega) (by omega)
  have h3 := rotN_lt n (m + 1) (by omega) (by omega)
  have e : ((m : Int) + 1).toNat = m + 1 := by omega
  unfold rotI
  rw [wrap_u64n, wrap_u64n, e, Int.toNat_natCast, Int.toNat_natCast]
  omega
theorem rotI_inU (x k : Int) (h0 : inU x) (h1 : 0 ≤ k ∧ k ≤ 63) : inU (rotI x k) := by
  unfold inU at *
  have := rotN_lt x.toNat k.toNat (by omega) (by omega)
  unfold rotI; omega
theorem rotI_zero (x : Int) (h0 : inU x) : rotI x 0 = x := by
  unfold inU at h0
  unfold rotI rotN
  simp
  omega
set_option maxHeartbeats 400000 in
set_option maxRecDepth 100000 in
theorem turn_any (x n : Int) (h0 : inU x) (h1 : 0 ≤ n ∧ n ≤ 63) (w : World) :
    Calls Try.prog 132 #[.int .u64 x, .int .i64 n] w fun e w' => e = .returned (.int .u64 (rotI x n)) ∧ w' = w := by
  obtain ⟨m, rfl⟩ := Int.eq_ofNat_of_zero_le h1.1
  go_enter Try.func132, Try.ntmps132
  go_wp2
  go_loop [0, 6] (fun y i => ∃ k : Nat, k ≤ m ∧ i = .int .i64 k ∧ y = .int .u64 (rotI x k)) (fun _ i => m - (intOf i).toNat)
  case atStart => exact ⟨0, Nat.zero_le _, rfl, val_int (rotI_zero x h0).symm⟩
  case round =>
    obtain ⟨k, hk, rfl, rfl⟩ := hrel
    by_cases hlt : k < m
    · have hs := turn_step x k h0 ⟨by omega, by omega⟩
      have hu := rotI_inU x k h0 ⟨by omega, by omega⟩
      unfold inU at hu
      have Hs := Lib.hid hs
      clear hs
      go_wp2
      go_round
      case rel => exact ⟨k + 1, by omega, by go_num, val_int Hs.out⟩
      case measure => simp [intOf]; omega
    · obtain rfl : k = m := by omega
      go_wp2
      go_ret
      exact ⟨rfl, rfl⟩
end Go.Proofs.Ytljbbpcnoajfeaa
/- (Sponge3) The reference's SMix; sponge.Unmix and the reference's SUnmix. -/
namespace Go.Proofs.Ytljbbpcnoajfeaa
open Go.RowKit
theorem i64_and7 (n : Int) : bits .and .i64 n 7 = n % 8 := by
  have h7 : (BitVec.ofInt 64 7).toNat = 2 ^ 3 - 1 := by decide
  have key : (BitVec.ofInt 64 n &&& BitVec.ofInt 64 7).toNat = (n % ((2 ^ 64 : Nat) : Int)).toNat % 2 ^ 3 := by
    rw [BitVec.toNat_and, BitVec.toNat_ofInt, h7, Nat.and_two_pow_sub_one_eq_mod]
  show IntKind.i64.wrap ((BitVec.ofInt 64 n &&& BitVec.ofInt 64 7).toNat : Nat) = n % 8
  rw [key, IntKind.wrap_i64]
  omega
def unstepL (st : List Int) (i : Nat) : List Int := st.set i (IntKind.u64.wrap (st[i]?.getD 0 - rotI (bits .xor .u64 (st[(i + 1) % 8]?.getD 0) (st[(i + 5) % 8]?.getD 0)) (5 * i + 3)))
def unN (st : List Int) : Nat → List Int
  | 0 => st
  | n + 1 => unstepL (unN st n) (7 - n)
def unroundL (st : List Int) (r : Nat) : List Int := (unN st 8).set 0 (bits .xor .u64 ((unN st 8)[0]?.getD 0) (roundK r))
def unmixL (st : List Int) : Nat → List Int
  | 0 => st
  | n + 1 => unroundL (unmixL st n) (11 - n)
theorem St.unN {st : List Int} (h : St st) (n : Nat) : St (unN st n) := by
  induction n with
  | zero => exact h
  | succ n ih => exact ih.set _ _ (wrap_inU _)
theorem St.unmix {st : List Int} (h : St st) (n : Nat) : St (unmixL st n) := by
  induction n with
  | zero => exact h
  | succ n ih => exact (ih.unN 8).set _ _ (bits_inU _ _ _)
set_option maxHeartbeats 800000 in
set_option maxRecDepth 100000 in
theorem smix_any (st : List Int) (h : St st) (w : World) :
    Calls Try.prog 113 #[.agg (u64s st).toArray] w fun e w' => e = .returned (.agg (u64s (mixL st 12)).toArray) ∧ Below w.heap.size w w' := by
  have hz : Blk 187 (((w.alloc (.cells (u64s st).toArray 187)).alloc (.cells z8.toArray 187))) (w.heap.size + 1) z8 := by
    have := Blk.new (w.alloc (.cells (u64s st).toArray 187)) 187 z8; simpa using this
  have hb0 : Blk 187 (((w.alloc (.cells (u64s st).toArray 187)).alloc (.cells z8.toArray 187))) w.heap.size (u64s st) := (Blk.new w 187 (u64s st)).alloc _
  have hbel : Below w.heap.size w ((w.alloc (.cells (u64s st).toArray 187)).alloc (.cells z8.toArray 187)) := ((Below.refl _ _).alloc (Nat.le_refl _) _).alloc (by simp) _
  obtain ⟨T, hT⟩ : ∃ T, T = mixL st 12 := ⟨_, rfl⟩
  rw [← hT]
  have HT := Lib.hid hT
  clear hT
  have hsp : ∀ w1 : World, (Instr.arrayAt 187 (.slice (some ⟨w.heap.size, 0, none⟩) 8 8)).run Try.prog w1 = .ok (.pointer (some ⟨w.heap.size, 0, none⟩)) w1 := fun _ => by simp [Instr.arrayAt, run_underlying Try.underlying187]
  go_enter Try.func113, Try.ntmps113
  go_wp2
  go_loopw [4] (fun r wr => ∃ k : Nat, k ≤ 12 ∧ r = .int .u64 ((k : Int) + 1) ∧ Blk 187 wr w.heap.size (u64s (mixL st k)) ∧ Below w.heap.size w wr ∧ Blk 187 wr (w.heap.size + 1) z8) (fun r _ => (13 - intOf r).toNat)
  case atStart => exact ⟨0, by omega, rfl, hb0, hbel, hz⟩
  case round =>
    clear hz hb0 hbel
    obtain ⟨k, hk, rfl, hb, hbel, hz⟩ := hrel
    have hst := h.mix k
    by_cases hlt : k < 12
    · have hc0 := hb.st hst 0 (by omega)
      have hf0 := hb.free 0
      have hd : decide ((k : Int) + 1 ≤ 12) = true := by rw [decide_eq_true_eq]; omega
      go_wp2
      rw [show IntKind.u64.wrap (((k : Int) + 1) * 11400714819323198485) = roundK k from rfl]
      obtain ⟨wo, rfl⟩ : ∃ wo : World, wo = wr := ⟨_, rfl⟩
      go_loopw [5, 6] (fun r q wi => ∃ i : Nat, i ≤ 8 ∧ r = .int .i64 i ∧ q = .int .i64 (5 * (i : Int) + 3) ∧ Blk 187 wi w.heap.size (u64s (stepsL ((mixL st k).set 0 (bits .xor .u64 ((mixL st k)[0]?.getD 0) (roundK k))) i)) ∧ Below w.heap.size w wi ∧ Blk 187 wi (w.heap.size + 1) z8) (fun r _ _ => 8 - (intOf r).toNat)
      case atStart => exact ⟨0, by omega, rfl, rfl, by have := hb.set 0 (.int .u64 (bits .xor .u64 ((mixL st k)[0]?.getD 0) (roundK k))); rw [u64s_set] at this; exact this, hbel.setCell (Nat.le_refl _) _, hz.other _ (by simp) _⟩
      case round =>
        clear hb hbel hz hc0 hf0
        obtain ⟨i, hi, rfl, rfl, hb, hbel, hz⟩ := hrel
        have hs2 : St (stepsL ((mixL st k).set 0 (bits .xor .u64 ((mixL st k)[0]?.getD 0) (roundK k))) i) := (hst.set 0 _ (bits_inU _ _ _)).steps i
        generalize hq : stepsL ((mixL st k).set 0 (bits .xor .u64 ((mixL st k)[0]?.getD 0) (roundK k))) i = s2 at hb hs2
        have Hq := Lib.hid hq
        clear hq
        by_cases hi8 : i < 8
        · skip
          obtain ⟨j1, hj1⟩ : ∃ j1, j1 = (i + 1) % 8 := ⟨_, rfl⟩
          obtain ⟨j5, hj5⟩ : ∃ j5, j5 = (i + 5) % 8 := ⟨_, rfl⟩
          have c0 := hb.st hs2 i (by omega)
          have c1 := hb.st hs2 j1 (by omega)
          have c5 := hb.st hs2 j5 (by omega)
          have f0 := hb.free i
          have hx : inU (bits .xor .u64 (s2[j1]?.getD 0) (s2[j5]?.getD 0)) := bits_inU _ _ _
          have e1 : IntKind.i64.wrap ((i : Int) + 1) = (i : Int) + 1 := IntWalk.i64_in _ (by omega)
          have e5 : IntKind.i64.wrap ((i : Int) + 5) = (i : Int) + 5 := IntWalk.i64_in _ (by omega)
          have em : IntKind.i64.wrap (5 * (i : Int)) = 5 * (i : Int) := IntWalk.i64_in _ (by omega)
          have ea : IntKind.i64.wrap (5 * (i : Int) + 3) = 5 * (i : Int) + 3 := IntWalk.i64_in _ (by omega)
          have t1 : bits .and .i64 ((i : Int) + 1) 7 = (j1 : Int) := by rw [i64_and7]; omega
          have t5 : bits .and .i64 ((i : Int) + 5) 7 = (j5 : Int) := by rw [i64_and7]; omega
          have l0 : (i : Int) < 8 := by omega
          have l1 : (j1 : Int) < 8 := by omega
          have l5 : (j5 : Int) < 8 := by omega
          have Hstep : Hid ((s2.set i (IntKind.u64.wrap (s2[i]?.getD 0 + rotI (bits .xor .u64 (s2[j1]?.getD 0) (s2[j5]?.getD 0)) (5 * (i : Int) + 3)))) = stepL s2 i) := by rw [hj1, hj5]; exact Lib.hid rfl
          clear hj1 hj5
          go_wp2
          refine wp_region_still_tail 21 (by kernel_rfl) (by kernel_rfl) ?_
          simp only [List.take_succ_cons, List.take_zero, List.drop_succ_cons, List.drop_zero]
          iterate 18 still_step
          still_call (turn_any _ _ hx ⟨by omega, by omega⟩ _)
          iterate 2 still_step
          refine wpStill_nil ?_
          change wpList _ _ _ _ _ wr.drew
          have eb : 5 * (i : Int) + 3 + 5 = 5 * ((i : Int) + 1) + 3 := by omega
          go_wp2
          go_roundw
          case rel =>
            have hq2 := (hb.set i (.int .u64 (IntKind.u64.wrap (s2[i]?.getD 0 + rotI (bits .xor .u64 (s2[j1]?.getD 0) (s2[j5]?.getD 0)) (5 * (i : Int) + 3))))).drew
            rw [u64s_set, Hstep.out] at hq2
            exact ⟨i + 1, by omega, by go_num, by go_num, by show Blk _ _ _ (u64s (stepL (stepsL _ i) i)); rw [Hq.out]; exact hq2, (hbel.setCell (Nat.le_refl _) _).drew, (hz.other _ (by simp) _).drew⟩
          case measure => simp [intOf]; try omega
        · obtain rfl : i = 8 := by omega
          go_wp2
          go_roundw
          case rel => exact ⟨k + 1, by omega, by go_num, by show Blk _ _ _ (u64s (stepsL _ 8)); rw [Hq.out]; exact hb, hbel, hz⟩
          case measure => simp [intOf]; try omega
    · obtain rfl : k = 12 := by omega
      have hst := h.mix 12
      rw [← HT.out] at hb hst
      go_wp2_with (first
        | (refine wpList_loadA rfl 187 (.tmp 47) rfl w.heap.size rfl aggState hb (u64s_len hst) ?_)
        | (refine wpList_storeA rfl 187 (.tmp 2) (.tmp 48) rfl (w.heap.size + 1) (u64s T) rfl rfl aggState hz (u64s_len hst) rfl (u64s_one _) hbel (by omega) ?_; intro w2 hb2 hbel2 _))
      exact bodyPost_ret (results_blk rfl _ _ (w.heap.size + 1) aggState hb2 (u64s_len hst) rfl) rfl ⟨rfl, hbel2⟩
end Go.Proofs.Ytljbbpcnoajfeaa
/- (Sum1) What a sponge takes up and hands out: plain laws. No program in sight. -/
namespace Go.Proofs.Ytljbbpcnoajfeaa
open Go.RowKit
theorem nat_xor_join (i x y : Nat) (hx : x % 2 ^ i = 0) (hy : y < 2 ^ i) : x ^^^ y = x + y := by
  rw [← nat_join i x y hx hy]
  apply Nat.eq_of_testBit_eq
  intro b
  rw [Nat.testBit_xor, Nat.testBit_or]
  by_cases hb : b < i
  · have : x.testBit b = false := by
      have h := Nat.testBit_mod_two_pow x i b
      rw [hx, Nat.zero_testBit] at h
      simpa [hb] using h.symm
    rw [this]; simp
  · have : y.testBit b = false := Nat.testBit_lt_two_pow (Nat.lt_of_lt_of_le hy (Nat.pow_le_pow_right (n := 2) (by omega) (show i ≤ b by omega)))
    rw [this]; simp
/-- m bytes from 8 j on, the least first -/
def rdN (p : List UInt8) (j : Nat) : Nat → Nat
  | 0 => 0
  | m + 1 => rdN p j m + (p[8 * j + m]?.getD 0).toNat * 2 ^ (8 * m)
theorem rdN_lt (p : List UInt8) (j m : Nat) : rdN p j m < 2 ^ (8 * m) := by
  induction m with
  | zero => simp [rdN]
  | succ m ih =>
    have hx := (p[8 * j + m]?.getD 0).toNat_lt
    rw [rdN, show 8 * (m + 1) = 8 * m + 8 from by omega, Nat.pow_add]
    generalize (p[8 * j + m]?.getD 0).toNat = x at *
    have h2 : (x + 1) * 2 ^ (8 * m) ≤ 256 * 2 ^ (8 * m) := Nat.mul_le_mul_right _ (by omega)
    rw [Nat.add_mul, Nat.one_mul] at h2
    rw [show (2 : Nat) ^ 8 = 256 from rfl, Nat.mul_comm _ 256]
    omega
theorem rdN_64 (p : List UInt8) (j m : Nat) (hm : m ≤ 8) : rdN p j m < 18446744073709551616 :=
  Nat.lt_of_lt_of_le (rdN_lt p j m) (Nat.pow_le_pow_right (n := 2) (by omega) (show 8 * m ≤ 64 by omega))
theorem byte_up (x : UInt8) (m : Nat) (hm : m < 8) : x.toNat * 2 ^ (8 * m) < 18446744073709551616 := by
  have hx := x.toNat_lt
  have h1 : x.toNat * 2 ^ (8 * m) ≤ 255 * 2 ^ (8 * m) := Nat.mul_le_mul_right _ (by omega)
  have h2 : (2 : Nat) ^ (8 * m) ≤ 2 ^ 56 := Nat.pow_le_pow_right (n := 2) (by omega) (by omega)
  rw [show (2 : Nat) ^ 56 = 72057594037927936 from rfl] at h2
  omega
theorem rdN_or (p : List UInt8) (j m : Nat) (hm : m < 8) : bits .or .u64 ((rdN p j m : Nat) : Int) (((p[8 * j + m]?.getD 0).toNat * 2 ^ (8 * m) : Nat) : Int) = ((rdN p j (m + 1) : Nat) : Int) := by
  rw [u64_or_nat _ _ (rdN_64 p j m (by omega)) (byte_up _ m hm), Nat.or_comm, nat_join (8 * m) _ _ (Nat.mul_mod_left _ _) (rdN_lt p j m), Nat.add_comm]
  rfl
def xorI (a : Int) (n : Nat) : Int := bits .xor .u64 a (n : Int)
theorem inU_nat {a : Int} (h : inU a) : ∃ n : Nat, a = (n : Int) ∧ n < 18446744073709551616 := by
  unfold inU at h
  exact ⟨a.toNat, by omega, by omega⟩
theorem xorI_zero {a : Int} (h : inU a) : xorI a 0 = a := by
  obtain ⟨n, rfl, hn⟩ := inU_nat h
  unfold xorI
  rw [u64_xor_nat n 0 hn (by omega), Nat.xor_zero]
theorem xorI_in (a : Int) (n : Nat) : inU (xorI a n) := bits_inU _ _ _
theorem xorI_more {a : Int} (h : inU a) (p : List UInt8) (j m : Nat) (hm : m < 8) : bits .xor .u64 (xorI a (rdN p j m)) (((p[8 * j + m]?.getD 0).toNat * 2 ^ (8 * m) : Nat) : Int) = xorI a (rdN p j (m + 1)) := by
  obtain ⟨n, rfl, hn⟩ := inU_nat h
  unfold xorI
  have h1 := rdN_64 p j m (by omega)
  have h2 := byte_up (p[8 * j + m]?.getD 0) m hm
  rw [u64_xor_nat n _ hn h1, u64_xor_nat _ _ (Nat.xor_lt_two_pow (n := 64) hn h1) h2, u64_xor_nat n _ hn (rdN_64 p j (m + 1) (by omega)), Nat.xor_assoc, Nat.xor_comm (rdN p j m), nat_xor_join (8 * m) _ _ (Nat.mul_mod_left _ _) (rdN_lt p j m), Nat.add_comm]
  rfl
/-- the state, k bytes of the block taken up -/
def absK (st : List Int) (p : List UInt8) (k : Nat) : List Int := (List.range 8).map fun j => xorI (st[j]?.getD 0) (rdN p j (min 8 (k - 8 * j)))
theorem absK_at (st : List Int) (p : List UInt8) (k j : Nat) (hj : j < 8) : (absK st p k)[j]? = some (xorI (st[j]?.getD 0) (rdN p j (min 8 (k - 8 * j)))) := by simp [absK, hj]
theorem absK_len (st : List Int) (p : List UInt8) (k : Nat) : (absK st p k).length = 8 := by simp [absK]
theorem absK_St (st : List Int) (p : List UInt8) (k : Nat) : St (absK st p k) := by
  refine ⟨absK_len _ _ _, fun x hx => ?_⟩
  unfold absK at hx
  obtain ⟨j, _, rfl⟩ := List.mem_map.1 hx
  exact xorI_in _ _
theorem absK_zero {st : List Int} (h : St st) (p : List UInt8) : absK st p 0 = st := by
  apply List.ext_getElem?
  intro j
  by_cases hj : j < 8
  · rw [absK_at st p 0 j hj, show min 8 (0 - 8 * j) = 0 from by omega, rdN, xorI_zero (h.get j hj)]
    have : j < st.length := by rw [h.1]; exact hj
    rw [List.getElem?_eq_getElem this]; rfl
  · rw [List.getElem?_eq_none (by rw [absK_len]; omega), List.getElem?_eq_none (by rw [h.1]; omega)]
theorem absK_set (st : List Int) (p : List UInt8) (k k' j : Nat) (hj : j < 8) (x : Int) (hx : x = xorI (st[j]?.getD 0) (rdN p j (min 8 (k' - 8 * j)))) (ho : ∀ i, i < 8 → i ≠ j → min 8 (k - 8 * i) = min 8 (k' - 8 * i)) :
    (absK st p k).set j x = absK st p k' := by
  apply List.ext_getElem?
  intro i
  rw [List.getElem?_set]
  by_cases hi : i < 8
  · by_cases hij : j = i
    · subst hij
      rw [if_pos rfl, if_pos (by rw [absK_len]; exact hj), absK_at st p k' j hj, hx]
    · rw [if_neg hij, absK_at st p k i hi, absK_at st p k' i hi, ho i hi (Ne.symm hij)]
  · rw [if_neg (by omega), List.getElem?_eq_none (by rw [absK_len]; omega), List.getElem?_eq_none (by rw [absK_len]; omega)]
theorem absK_step {st : List Int} (h : St st) (p : List UInt8) (k q r : Nat) (hk : k < 32) (hq : q = k / 8) (hr : r = k % 8) :
    (absK st p k).set q (bits .xor .u64 ((absK st p k)[q]?.getD 0) (((p[k]?.getD 0).toNat * 2 ^ (8 * r) : Nat) : Int)) = absK st p (k + 1) := by
  refine absK_set st p k (k + 1) q (by omega) _ ?_ (fun i hi hne => by omega)
  rw [absK_at st p k q (by omega), Option.getD_some, show min 8 (k - 8 * q) = r from by omega, show min 8 (k + 1 - 8 * q) = r + 1 from by omega]
  have := xorI_more (h.get q (by omega)) p q r (by omega)
  rw [show 8 * q + r = k from by omega] at this
  exact this
theorem absK_word {st : List Int} (h : St st) (p : List UInt8) (j : Nat) (hj : j < 4) :
    (absK st p (8 * j)).set j (bits .xor .u64 ((absK st p (8 * j))[j]?.getD 0) ((rdN p j 8 : Nat) : Int)) = absK st p (8 * (j + 1)) := by
  refine absK_set st p (8 * j) (8 * (j + 1)) j (by omega) _ ?_ (fun i hi hne => by omega)
  rw [absK_at st p (8 * j) j (by omega), Option.getD_some, show min 8 (8 * j - 8 * j) = 0 from by omega, show min 8 (8 * (j + 1) - 8 * j) = 8 from by omega, rdN, xorI_zero (h.get j (by omega))]
  rfl
/-- the state behind m whole blocks -/
def stB (P : List UInt8) : Nat → List Int
  | 0 => List.replicate 8 0
  | m + 1 => mixL (absK (stB P m) (P.drop (32 * m)) 32) 12
theorem stB_St (P : List UInt8) (m : Nat) : St (stB P m) := by
  cases m with
  | zero =>
    refine ⟨by simp [stB], fun x hx => ?_⟩
    simp only [stB, List.mem_replicate] at hx
    rw [hx.2]; unfold inU; omega
  | succ m => exact (absK_St _ _ _).mix 12
/-- what is handed out -/
def outB (st : List Int) : List UInt8 := (List.range 32).map fun k => UInt8.ofNat ((st[k / 8]?.getD 0).toNat / 2 ^ (8 * (k % 8)))
theorem outB_len (st : List Int) : (outB st).length = 32 := by simp [outB]
theorem outB_at (st : List Int) (k : Nat) (hk : k < 32) : (outB st)[k]? = some (UInt8.ofNat ((st[k / 8]?.getD 0).toNat / 2 ^ (8 * (k % 8)))) := by simp [outB, hk]
theorem rdN_same (p q : List UInt8) (j m : Nat) (h : ∀ i, i < 8 * j + m → p[i]? = q[i]?) : rdN p j m = rdN q j m := by
  induction m with
  | zero => rfl
  | succ m ih => rw [rdN, rdN, ih (fun i hi => h i (by omega)), h (8 * j + m) (by omega)]
theorem absK_same (st : List Int) (p q : List UInt8) (k : Nat) (hk : k ≤ 32) (h : ∀ i, i < 32 → p[i]? = q[i]?) : absK st p k = absK st q k := by
  unfold absK
  apply List.map_congr_left
  intro j hj
  have : j < 8 := by simpa using hj
  by_cases hj4 : j < 4
  · rw [rdN_same p q j _ (fun i hi => h i (by omega))]
  · rw [show min 8 (k - 8 * j) = 0 from by omega]; rfl
end Go.Proofs.Ytljbbpcnoajfeaa
/- (Sum2) sponge.read, write8. -/
namespace Go.Proofs.Ytljbbpcnoajfeaa
open Go.RowKit
theorem wrap_up (x m : Nat) (h : x * 2 ^ m < 18446744073709551616) : IntKind.u64.wrap ((x : Int) * (2 : Int) ^ m) = ((x * 2 ^ m : Nat) : Int) := by
  rw [show (x : Int) * (2 : Int) ^ m = ((x * 2 ^ m : Nat) : Int) from by simp]
  generalize x * 2 ^ m = y at *
  rw [IntKind.wrap_u64]; omega
theorem wrap_u8u64 (x : UInt8) : IntKind.u64.wrap (x.toNat : Int) = (x.toNat : Int) := by
  have := x.toNat_lt
  rw [IntKind.wrap_u64]; omega
set_option maxHeartbeats 400000 in
set_option maxRecDepth 100000 in
theorem read8_any (a : Option Addr) (n c : Nat) (p : List UInt8) (hn : p.length = n) (h8 : 8 ≤ n) (w : World) (h : Bytes w (.slice a n c) p) :
    Calls Try.prog 145 #[.slice a n c] w fun e w' => e = .returned (.int .u64 ((rdN p 0 8 : Nat) : Int)) ∧ Below w.heap.size w w' := by
  have Hn := Lib.hid hn
  clear hn
  go_enter Try.func145, Try.ntmps145
  go_wp2
  go_loop [5, 3] (fun ix x => ∃ i : Nat, i ≤ 8 ∧ ix = .int .i64 (i : Int) ∧ x = .int .u64 ((rdN p 0 i : Nat) : Int)) (fun ix _ => 8 - (intOf ix).toNat)
  case atStart => exact ⟨0, by omega, rfl, rfl⟩
  case round =>
    obtain ⟨i, hi, rfl, rfl⟩ := hrel
    by_cases hlt : i < 8
    · have hii : (i : Int) < 8 := by omega
      obtain ⟨b, off, rfl, hc⟩ := h.at i (by rw [Hn.out]; omega)
      obtain ⟨x, hx⟩ : ∃ x, x = p[i]'(by rw [Hn.out]; omega) := ⟨_, rfl⟩
      rw [← hx] at hc
      have hpx : p[8 * 0 + i]?.getD 0 = x := by rw [show 8 * 0 + i = i from by omega, List.getElem?_eq_getElem (by rw [Hn.out]; omega), ← hx]; rfl
      have hor := rdN_or p 0 i hlt
      have hup := byte_up x i hlt
      rw [hpx] at hor
      obtain ⟨s, hs⟩ : ∃ s, s = 8 * i := ⟨_, rfl⟩
      have es : (8 : Int) * (i : Int) = (s : Int) := by omega
      have ew : IntKind.i64.wrap (s : Int) = (s : Int) := IntWalk.i64_in _ (by omega)
      rw [← hs] at hor hup
      have hsh := wrap_up x.toNat s hup
      have hwx := wrap_u8u64 x
      obtain ⟨y, hy⟩ : ∃ y, y = x.toNat * 2 ^ s := ⟨_, rfl⟩
      rw [← hy] at hor hsh
      obtain ⟨R, hR⟩ : ∃ R, R = rdN p 0 (i + 1) := ⟨_, rfl⟩
      rw [← hR] at hor
      have hin : (i : Int) < (n : Int) := by omega
      have hin' : i < n := by omega
      have hxb := u8_lt x
      have HR := Lib.hid hR
      generalize rdN p 0 i = r at *
      clear hpx hx hs hy hup hR
      go_wp2
      go_round
      case rel => exact ⟨i + 1, by omega, by go_num, by rw [← HR.out]⟩
      case measure => simp [intOf]; omega
    · obtain rfl : i = 8 := by omega
      go_wp2
      go_ret
      exact ⟨rfl, Below.refl _ _⟩
theorem wrap_u8n (y : Nat) : IntKind.u8.wrap (y : Int) = ((UInt8.ofNat y).toNat : Int) := by
  rw [IntKind.wrap_u8', UInt8.toNat_ofNat']
  omega
set_option maxHeartbeats 400000 in
set_option maxRecDepth 100000 in
theorem write8_any (g o n : Nat) (x : Nat) (T : List Value) (e : TypeId) (hx : x < 18446744073709551616) (h8 : 8 ≤ n) (hT : ∀ i, i < 8 → T[o + i]? = some (u8v (UInt8.ofNat (x / 2 ^ (8 * i))))) (ho : o + 8 ≤ T.length) (w : World) (hb : Blk e w g (fillL T (.int .u8 0) o)) :
    Calls Try.prog 128 #[.slice (some ⟨g, o, none⟩) n n, .int .u64 (x : Int)] w fun en w' => en = .returned (.tuple #[]) ∧ Blk e w' g (fillL T (.int .u8 0) (o + 8)) ∧ w.grownBy w' (some g) := by
  have HT := Lib.hid hT
  have Ho := Lib.hid ho
  clear hT ho
  have hg0 := World.grownBy.refl w (some g)
  go_enter Try.func128, Try.ntmps128
  go_wp2
  go_loopw [5] (fun ix wr => ∃ i : Nat, i ≤ 8 ∧ ix = .int .i64 (i : Int) ∧ Blk e wr g (fillL T (.int .u8 0) (o + i)) ∧ w.grownBy wr (some g)) (fun ix _ => 8 - (intOf ix).toNat)
  case atStart => exact ⟨0, by omega, rfl, hb, hg0⟩
  case round =>
    clear hb hg0
    obtain ⟨i, hi, rfl, hb, hgr⟩ := hrel
    by_cases hlt : i < 8
    · have hii : (i : Int) < 8 := by omega
      obtain ⟨s, hs⟩ : ∃ s, s = 8 * i := ⟨_, rfl⟩
      have es : (8 : Int) * (i : Int) = (s : Int) := by omega
      have ew : IntKind.i64.wrap (s : Int) = (s : Int) := IntWalk.i64_in _ (by omega)
      have hTi := HT.out i hlt
      rw [← hs] at hTi
      obtain ⟨y, hy⟩ : ∃ y, y = x / 2 ^ s := ⟨_, rfl⟩
      have ey : (x : Int) / 2 ^ s = (y : Int) := by rw [hy]; simp
      rw [← hy] at hTi
      have hwy := wrap_u8n y
      obtain ⟨z, hz⟩ : ∃ z, z = UInt8.ofNat y := ⟨_, rfl⟩
      rw [← hz] at hTi hwy
      obtain ⟨y1, hy1⟩ := hb.has (o + i) (by rw [fill_len _ _ _ (by have := Ho.out; omega)]; have := Ho.out; omega)
      have hf := hb.free (o + i)
      have hset := hb.set (o + i) (u8v z)
      rw [fill_set' T _ (o + i) _ hTi] at hset
      have hgr2 : w.grownBy (wr.setCell ⟨g, o + i, none⟩ (u8v z)) (some g) := ⟨hgr.os, hgr.tape, hgr.output, by simpa using hgr.size, fun k hk hne => by rw [← hgr.block k hk hne]; exact heap_setCell_other wr _ k _ (by simpa using hne)⟩
      have hin : (i : Int) < (n : Int) := by omega
      have hin' : i < n := by omega
      clear hTi hy hz hs hb hgr
      go_wp2
      go_roundw
      case rel => exact ⟨i + 1, by omega, by go_num, hset, hgr2⟩
      case measure => simp [intOf]; omega
    · obtain rfl : i = 8 := by omega
      go_wp2
      go_end0
      exact ⟨rfl, hb, hgr⟩
end Go.Proofs.Ytljbbpcnoajfeaa
/- (Sum6) The reference's SSum. -/
namespace Go.Proofs.Ytljbbpcnoajfeaa
open Go.RowKit
/-- what the text comes to -/
def sumB (l : List UInt8) : List UInt8 := outB (stB (padL l) ((padL l).length / 32))
theorem padL_len (l : List UInt8) : (padL l).length = l.length + 2 + padZ l.length := by simp [padL]; omega
theorem padL_mod (l : List UInt8) : (padL l).length % 32 = 0 := by rw [padL_len]; unfold padZ; omega
theorem OwnOf.inBlk {e : TypeId} {w : World} {B n c : Nat} {a : Option Addr} {l : List UInt8} (h : OwnOf b8 1 e w B (.slice a n c) l) (hn : 0 < n) :
    ∃ g cur, a = some ⟨g, 0, none⟩ ∧ B ≤ g ∧ Blk e w g cur ∧ ∀ (k : Nat) (x : UInt8), l[k]? = some x → cur[k]? = some (.int .u8 (x.toNat : Int)) := by
  obtain ⟨h1, h2⟩ := h
  rcases h2 with ⟨h2, h3⟩ | ⟨g', cap, cur, h2, h3, h4, h5, h6, h7, h8⟩
  · simp only [Value.slice.injEq] at h2; omega
  · simp only [Value.slice.injEq] at h2
    obtain ⟨rfl, rfl, rfl⟩ := h2
    refine ⟨g', cur.toList, rfl, h3, by unfold Blk; simpa using h4, fun k x hx => ?_⟩
    rw [flat_b8, Nat.mul_one] at h8
    have h9 : (l.map u8v)[k]? = some (u8v x) := by rw [List.getElem?_map, hx]; rfl
    rw [← h8, List.getElem?_take] at h9
    split at h9
    · exact h9
    · cases h9
def zh : List Value := List.replicate 32 (.int .u8 0)
theorem aggHash' : Agg Try.prog 43 32 := ⟨_, Try.underlying43, rfl, by kernel_rfl⟩
def ocs (st : List Int) : List Value := (outB st).map u8v
theorem ocs_len (st : List Int) : (ocs st).length = 32 := by simp [ocs, outB_len]
theorem ocs_one (st : List Int) : ∀ u ∈ ocs st, u.oneCell' = true := by
  intro u hu
  obtain ⟨x, _, rfl⟩ := List.mem_map.1 hu
  rfl
theorem ocs_at (st : List Int) (k : Nat) (hk : k < 32) : (ocs st)[k]? = some (u8v (UInt8.ofNat ((st[k / 8]?.getD 0).toNat / 2 ^ (8 * (k % 8))))) := by
  unfold ocs
  rw [List.getElem?_map, outB_at st k hk]; rfl
/-- The result's block, the state's, the padded text's. -/
structure FrP (w : World) (gP : Nat) (cur : List Value) (S : List Int) (u : World) : Prop where
  z : Blk 43 u w.heap.size zh
  s : Blk 187 u (w.heap.size + 1) (u64s S)
  p : Blk 5 u gP cur
  bel : Below w.heap.size w u
theorem FrP.kept {w u u' : World} {gP : Nat} {cur : List Value} {S : List Int} (h : FrP w gP cur S u) (hb : Below u.heap.size u u') : FrP w gP cur S u' := ⟨h.z.kept hb, h.s.kept hb, h.p.kept hb, h.bel.trans (hb.mono h.bel.size)⟩
theorem FrP.set {w u : World} {gP : Nat} {cur : List Value} {S S' : List Int} (h : FrP w gP cur S u) (hg : w.heap.size + 2 ≤ gP) (k : Nat) (x : Value) (hs : (u64s S).set k x = u64s S') : FrP w gP cur S' (u.setCell ⟨w.heap.size + 1, k, none⟩ x) :=
  ⟨h.z.other _ (by simp) _, hs ▸ h.s.set k x, h.p.other _ (by simp; omega) _, h.bel.setCell (by simp) _⟩
theorem FrP.put {w u u' : World} {gP : Nat} {cur : List Value} {S S' : List Int} (h : FrP w gP cur S u) (hg : w.heap.size + 2 ≤ gP) (ho : Blk 187 u' (w.heap.size + 1) (u64s S')) (hb : Below (w.heap.size + 1) u u') (hr : u.grownBy u' (some (w.heap.size + 1))) : FrP w gP cur S' u' :=
  ⟨h.z.grown hr (by simp), ho, h.p.grown hr (by simp; omega), h.bel.trans (hb.mono (by omega))⟩
set_option maxHeartbeats 1000000 in
set_option maxRecDepth 100000 in
theorem ssum_any (a : Option Addr) (n c : Nat) (l : List UInt8) (hn : l.length = n) (w : World) (h : Bytes w (.slice a n c) l) (hl : n + 64 ≤ 140737488355328) :
    Calls Try.prog 76 #[.slice a n c] w fun e w' => e = .returned (.agg ((sumB l).map u8v).toArray) ∧ Below w.heap.size w w' := by
  obtain ⟨w1, hw1⟩ : ∃ w1, w1 = (w.alloc (.cells zh.toArray 43)).alloc (.cells z8.toArray 187) := ⟨_, rfl⟩
  have hz1 : Blk 43 w1 w.heap.size zh := by rw [hw1]; exact (Blk.new w 43 zh).alloc _
  have hs1 : Blk 187 w1 (w.heap.size + 1) (u64s (stB (padL l) 0)) := by
    have := Blk.new (w.alloc (.cells zh.toArray 43)) 187 z8
    have h2 : Blk 187 ((w.alloc (.cells zh.toArray 43)).alloc (.cells z8.toArray 187)) (w.heap.size + 1) z8 := by simpa using this
    rw [hw1]; exact h2
  have hbel1 : Below w.heap.size w w1 := by rw [hw1]; exact ((Below.refl _ _).alloc (Nat.le_refl _) _).alloc (by simp) _
  have hsz1 : w1.heap.size = w.heap.size + 2 := by rw [hw1]; simp
  obtain ⟨P, hP⟩ : ∃ P, P = padL l := ⟨_, rfl⟩
  obtain ⟨N, hN⟩ : ∃ N, N = P.length := ⟨_, rfl⟩
  have hN32 : N % 32 = 0 := by rw [hN, hP]; exact padL_mod l
  have hNb : N ≤ 140737488355400 := by rw [hN, hP, padL_len]; unfold padZ; omega
  have hNpos : 0 < N := by rw [hN, hP, padL_len]; omega
  have cpad : ∀ w', Bytes w' (.slice a n c) l → Calls Try.prog 112 #[.slice a n c] w' fun e w2 => ∃ (gP : Nat) (cur : List Value) (c2 : Nat), e = .returned (.slice (some ⟨gP, 0, none⟩) N c2) ∧ w'.heap.size ≤ gP ∧ Blk 5 w2 gP cur ∧ (∀ (k : Nat) (x : UInt8), P[k]? = some x → cur[k]? = some (.int .u8 (x.toNat : Int))) ∧ Below w'.heap.size w' w2 := by
    intro w' h'
    subst hn
    refine (spad_own a c l w' h' hl).mono ?_
    rintro e w2 ⟨v, rfl, h2, h3⟩
    obtain ⟨a2, c2, rfl, _⟩ := h2.form' N (by rw [hN, hP])
    obtain ⟨gP, cur, rfl, q1, q2, q3⟩ := h2.inBlk hNpos
    exact ⟨gP, cur, c2, rfl, q1, q2, by rw [hP]; exact q3, h3⟩
  have hPl : ∀ k, k < N → ∃ x, P[k]? = some x := fun k hk => ⟨_, List.getElem?_eq_getElem (by rw [← hN]; exact hk)⟩
  rw [← hP] at hs1
  have Hw1 := Lib.hid hw1
  have HP := Lib.hid hP
  have HN := Lib.hid hN
  have Hpad := Lib.hid cpad
  have HPl := Lib.hid hPl
  clear hw1 hP hN cpad hPl
  go_enter Try.func76, Try.ntmps76
  go_wp2_with (go_at_call 112; (have hcall := Hpad.out w1 (h.below hbel1)); rw [Hw1.out] at hcall; refine hcall.mono ?_; rintro e w2 ⟨gP, cur, c2, rfl, q1, q2, q3, b2⟩; rw [← Hw1.out] at q1 b2; clear hcall)
  have F0 : FrP w gP cur (stB P 0) w2 := ⟨hz1.kept b2, hs1.kept b2, q2, hbel1.trans (b2.mono hbel1.size)⟩
  have hgP : w.heap.size + 2 ≤ gP := by omega
  have Q3 := Lib.hid q3
  clear q1 q2 q3 b2 hz1 hs1 hbel1 hsz1 h
  go_loopw [5] (fun ix wr => ∃ m A : Nat, A = 32 * m ∧ A ≤ N ∧ ix = .int .i64 (A : Int) ∧ FrP w gP cur (stB P m) wr) (fun ix _ => N - (intOf ix).toNat)
  case atStart => exact ⟨0, 0, rfl, by omega, rfl, F0⟩
  case round =>
    clear F0
    obtain ⟨m, A, hA, hAN, rfl, hF⟩ := hrel
    have HA := Lib.hid hA
    have hSt := stB_St P m
    by_cases hlt : A < N
    · have hlti : (A : Int) < (N : Int) := by omega
      have hA32 : A + 32 ≤ N := by omega
      obtain ⟨S0, hS0⟩ : ∃ S0, S0 = stB P m := ⟨_, rfl⟩
      rw [← hS0] at hF hSt
      have HS0 := Lib.hid hS0
      rw [← absK_zero hSt (P.drop A)] at hF
      clear hA hS0
      go_wp2
      obtain ⟨wo, rfl⟩ : ∃ wo : World, wo = wr := ⟨_, rfl⟩
      go_loopw [17] (fun ix wi => ∃ k : Nat, k ≤ 32 ∧ ix = .int .i64 (k : Int) ∧ FrP w gP cur (absK S0 (P.drop A) k) wi) (fun ix _ => 32 - (intOf ix).toNat)
      case atStart => exact ⟨0, by omega, rfl, hF⟩
      case round =>
        clear hF
        obtain ⟨k, hk, rfl, hF⟩ := hrel
        by_cases hlk : k < 32
        · obtain ⟨q, hq⟩ : ∃ q, q = k / 8 := ⟨_, rfl⟩
          obtain ⟨r, hr⟩ : ∃ r, r = k % 8 := ⟨_, rfl⟩
          obtain ⟨s, hs⟩ : ∃ s, s = 8 * r := ⟨_, rfl⟩
          obtain ⟨j, hj⟩ : ∃ j, j = A + k := ⟨_, rfl⟩
          obtain ⟨x, hx⟩ := HPl.out j (by omega)
          have hstep := absK_step hSt (P.drop A) k q r hlk hq hr
          have hdx : (P.drop A)[k]?.getD 0 = x := by rw [List.getElem?_drop, ← hj, hx]; rfl
          have hup := byte_up x r (by omega)
          rw [hdx, ← hs] at hstep
          rw [← hs] at hup
          have hsh := wrap_up x.toNat s hup
          have hwx := wrap_u8u64 x
          have hstk := absK_St S0 (P.drop A) k
          have hcs := (hF.s.cell q).trans (u64s_at hstk q (by omega))
          have hcp := (hF.p.cell j).trans (Q3.out j x hx)
          obtain ⟨z, hz⟩ : ∃ z, z = (absK S0 (P.drop A) k)[q]?.getD 0 := ⟨_, rfl⟩
          obtain ⟨y, hy⟩ : ∃ y, y = x.toNat * 2 ^ s := ⟨_, rfl⟩
          rw [← hz] at hstep hcs
          rw [← hy] at hstep hsh
          have hki : (k : Int) < 32 := by omega
          have e1 : (k : Int) / 8 = (q : Int) := by omega
          have e1t : (k : Int).tdiv 8 = (q : Int) := by rw [Int.tdiv_eq_ediv_of_nonneg (by omega)]; exact e1
          have e2 : (k : Int) % 8 = (r : Int) := by omega
          have e2t : (k : Int).tmod 8 = (r : Int) := by rw [Int.tmod_eq_emod_of_nonneg (by omega)]; exact e2
          have e3 : (r : Int) * 8 = (s : Int) := by omega
          have e4 : (A : Int) + (k : Int) = (j : Int) := by omega
          have w1' : IntKind.i64.wrap (q : Int) = (q : Int) := IntWalk.i64_in _ (by omega)
          have w2' : IntKind.i64.wrap (r : Int) = (r : Int) := IntWalk.i64_in _ (by omega)
          have w3' : IntKind.i64.wrap (s : Int) = (s : Int) := IntWalk.i64_in _ (by omega)
          have w4' : IntKind.i64.wrap (j : Int) = (j : Int) := IntWalk.i64_in _ (by omega)
          have hq8 : (q : Int) < 8 := by omega
          have hq8' : q < 8 := by omega
          have hjN : (j : Int) < (N : Int) := by omega
          have hjN' : j < N := by omega
          have hs64 : (s : Int) ≤ 56 := by omega
          have hxb := u8_lt x
          have k0 := fun u : Ext wr => u.cell hcs
          have k1 := fun u : Ext wr => u.cell hcp
          have Hstep := Lib.hid hstep
          have H8 := Lib.hid hstk.1
          clear hstep hz hy hs hr hq hj hx hdx hup hcs hcp hstk
          go_wp2
          refine wp_region_typed wr 17 (by kernel_rfl) (by kernel_rfl) (Below.refl _ _) ?_; simp only [List.take_succ_cons, List.take_zero, List.take_nil]
          iterate 17 (refine wpX_step (by rfl) (fun K hK => ?_); go_simp; first | (refine hK _ ?_; clear hK K) | (apply Exists.intro; refine ⟨fun _ => ?_, hK _ ?_⟩; fail; clear hK K))
          refine wpX_nil ?_
          intro u2 hb2
          change wpList _ _ _ [_] _ _
          have hF2 := hF.kept hb2
          obtain ⟨y1, hy1⟩ := hF2.s.has q (by simp [u64s, absK_len]; omega)
          have hf1 := hF2.s.free q
          have hF3 := hF2.set hgP q (.int .u64 (bits .xor .u64 z (y : Int))) (by rw [u64s_set, Hstep.out])
          clear k0 k1 hF hF2
          go_wp2
          go_roundw
          case rel => exact ⟨k + 1, by omega, by go_num, hF3⟩
          case measure => simp [intOf]; omega
        · obtain rfl : k = 32 := by omega
          have hstk := absK_St S0 (P.drop A) 32
          obtain ⟨S, hS⟩ : ∃ S, S = absK S0 (P.drop A) 32 := ⟨_, rfl⟩
          rw [← hS] at hF hstk
          obtain ⟨M, hM⟩ : ∃ M, M = mixL S 12 := ⟨_, rfl⟩
          have hMst : St M := by rw [hM]; exact hstk.mix 12
          have hfin : M = stB P (m + 1) := by rw [hM, hS, HS0.out, HA.out]; rfl
          have cm : ∀ w, Calls Try.prog 113 #[.agg (u64s S).toArray] w fun e w' => e = .returned (.agg (u64s M).toArray) ∧ Below w.heap.size w w' := fun w => by rw [hM]; exact smix_any S hstk w
          have Cm := Lib.hid cm
          have Hfin := Lib.hid hfin
          have H8 := Lib.hid (u64s_len hstk)
          have H8M := Lib.hid (u64s_len hMst)
          clear hS hM cm hfin
          go_wp2_with (first
            | (refine wpList_loadA (o := ⟨some 38, _, _, _, _, _⟩) (by rfl) 187 (.tmp 3) (by rfl) (w.heap.size + 1) (by rfl) aggState hF.s H8.out ?_)
            | (go_at_call 113; (with_reducible refine (Cm.out _).mono ?_); rintro e u2 ⟨rfl, b2⟩; have hF2 := hF.kept b2)
            | (refine wpList_storeA (by rfl) 187 (.tmp 3) (.tmp 39) (by rfl) (w.heap.size + 1) (u64s M) (by rfl) (by rfl) aggState hF2.s H8M.out H8.out (u64s_one _) (Below.refl _ _) (Nat.le_refl _) ?_; intro u3 ho3 hb3 hg3; have hF3 := hF2.put hgP ho3 hb3 hg3))
          rw [Hfin.out] at hF3
          have e32 : (A : Int) + 32 = ((A + 32 : Nat) : Int) := by omega
          go_roundw
          case rel => exact ⟨m + 1, A + 32, by have := HA.out; omega, by omega, by go_num, hF3⟩
          case measure => simp [intOf]; omega
    · have hm : m = N / 32 := by omega
      obtain ⟨S, hS⟩ : ∃ S, S = stB P m := ⟨_, rfl⟩
      rw [← hS] at hF hSt
      have hT : ocs S = (sumB l).map u8v := by
        unfold ocs sumB
        rw [hS, hm, HN.out, HP.out]
      have HT := Lib.hid hT
      have hTn := ocs_len S
      have hTi := fun k hk => ocs_at S k hk
      obtain ⟨T, hTT⟩ : ∃ T, T = ocs S := ⟨_, rfl⟩
      rw [← hTT] at hT hTn
      simp only [← hTT] at hTi
      have HTT := Lib.hid hTT
      have HTn := Lib.hid hTn
      have HTi := Lib.hid hTi
      have hd : ¬ ((A : Int) < (N : Int)) := by omega
      have hblk := Blk.new wr 43 zh
      have hF1 := hF.kept ((Below.refl wr.heap.size wr).alloc (Nat.le_refl _) (.cells zh.toArray 43))
      obtain ⟨g7, hg7⟩ : ∃ g7, g7 = wr.heap.size := ⟨_, rfl⟩
      have hs7 := hF.s.lt
      have hp7 := hF.p.lt
      rw [← hg7] at hblk hs7 hp7
      have Hg7 := Lib.hid hg7
      have H8 := Lib.hid hSt.1
      have hzf : zh = fillL T (.int .u8 0) 0 := by rw [fill_zero, HTn.out]; rfl
      clear hT hTT hTn hTi hS hm hg7 hF hA
      go_wp2
      rw [show wr.heap.size = g7 from Hg7.out.symm]
      clear Hg7
      go_loopw [40] (fun ix wi => ∃ k : Nat, k ≤ 32 ∧ ix = .int .i64 (k : Int) ∧ Blk 43 wi g7 (fillL T (.int .u8 0) k) ∧ FrP w gP cur S wi) (fun ix _ => 32 - (intOf ix).toNat)
      case atStart => exact ⟨0, by omega, rfl, by rw [← hzf]; exact hblk, hF1⟩
      case round =>
        clear hblk hF1 hzf
        obtain ⟨k, hk, rfl, hb, hF⟩ := hrel
        by_cases hlk : k < 32
        · obtain ⟨q, hq⟩ : ∃ q, q = k / 8 := ⟨_, rfl⟩
          obtain ⟨r, hr⟩ : ∃ r, r = k % 8 := ⟨_, rfl⟩
          obtain ⟨s, hs⟩ : ∃ s, s = 8 * r := ⟨_, rfl⟩
          have hTk := HTi.out k hlk
          rw [← hq, ← hr, ← hs] at hTk
          have hcs := (hF.s.cell q).trans (u64s_at hSt q (by omega))
          obtain ⟨z, hz, hz64⟩ := inU_nat (hSt.get q (by omega))
          rw [hz] at hTk hcs
          rw [Int.toNat_natCast] at hTk
          obtain ⟨y, hy⟩ : ∃ y, y = z / 2 ^ s := ⟨_, rfl⟩
          have ey : (z : Int) / 2 ^ s = (y : Int) := by rw [hy]; simp
          rw [← hy] at hTk
          have hwy := wrap_u8n y
          obtain ⟨v, hv⟩ : ∃ v, v = UInt8.ofNat y := ⟨_, rfl⟩
          rw [← hv] at hTk hwy
          have hki : (k : Int) < 32 := by omega
          have e1 : (k : Int) / 8 = (q : Int) := by omega
          have e2 : (k : Int) % 8 = (r : Int) := by omega
          have e3 : (r : Int) * 8 = (s : Int) := by omega
          have hq8 : (q : Int) < 8 := by omega
          have hq8' : q < 8 := by omega
          have hs64 : (s : Int) ≤ 56 := by omega
          obtain ⟨y1, hy1⟩ := hb.has k (by rw [fill_len _ _ _ (by rw [HTn.out]; omega), HTn.out]; exact hlk)
          have hf1 := hb.free k
          have hset := hb.set k (u8v v)
          rw [fill_set' T _ k _ hTk] at hset
          have hF2 : FrP w gP cur S (wr.setCell ⟨g7, k, none⟩ (u8v v)) := ⟨hF.z.other _ (by show g7 ≠ _; omega) _, hF.s.other _ (by show g7 ≠ _; omega) _, hF.p.other _ (by show g7 ≠ _; omega) _, hF.bel.setCell (by show w.heap.size ≤ g7; omega) _⟩
          clear hTk hz hy hv hs hr hq hb hF
          go_wp2
          go_roundw
          case rel => exact ⟨k + 1, by omega, by go_num, hset, hF2⟩
          case measure => simp [intOf]; omega
        · obtain rfl : k = 32 := by omega
          have hfe := fill_end T (.int .u8 0)
          rw [HTn.out] at hfe
          rw [hfe, HTT.out] at hb
          clear hfe
          go_wp2_with (first
            | (refine wpList_loadA (o := ⟨some 55, _, _, _, _, _⟩) (by rfl) 43 (.tmp 7) (by rfl) g7 (by rfl) aggHash' hb (ocs_len _) ?_)
            | (refine wpList_storeA (by rfl) 43 (.tmp 2) (.tmp 55) (by rfl) w.heap.size (ocs S) (by rfl) (by rfl) aggHash' hF.z (ocs_len _) (by rfl) (ocs_one _) (Below.refl _ _) (Nat.le_refl _) ?_; intro u3 ho3 hb3 hg3; have hbel3 := hF.bel.trans hb3))
          exact bodyPost_ret (results_blk rfl _ _ w.heap.size aggHash' ho3 (ocs_len _) rfl) rfl ⟨by rw [← HT.out], hbel3⟩
end Go.Proofs.Ytljbbpcnoajfeaa
/- (Sum3) (*Hasher).take. -/
namespace Go.Proofs.Ytljbbpcnoajfeaa
open Go.RowKit
/-- a Hasher's cells -/
def hst (st : List Int) (pt : List UInt8) (n : Nat) : List Value := u64s st ++ (pt.map u8v ++ [.int .i64 (n : Int)])
theorem hst_len {st : List Int} {pt : List UInt8} (h8 : st.length = 8) (h32 : pt.length = 32) (n : Nat) : (hst st pt n).length = 41 := by simp [hst, u64s, h8, h32]
theorem hst_st {st : List Int} (h : St st) (pt : List UInt8) (n j : Nat) (hj : j < 8) : (hst st pt n)[j]? = some (.int .u64 (st[j]?.getD 0)) := by
  unfold hst
  rw [List.getElem?_append_left (by rw [u64s_len h]; exact hj), u64s_at h j hj]
theorem hst_pt {st : List Int} (h : St st) {pt : List UInt8} (h32 : pt.length = 32) (n i : Nat) (hi : i < 32) : (hst st pt n)[8 + i]? = some (u8v (pt[i]?.getD 0)) := by
  unfold hst
  rw [List.getElem?_append_right (by rw [u64s_len h]; omega), u64s_len h, show 8 + i - 8 = i from by omega, List.getElem?_append_left (by simp; omega), List.getElem?_map, List.getElem?_eq_getElem (by omega)]
  rfl
theorem hst_n {st : List Int} (h : St st) {pt : List UInt8} (h32 : pt.length = 32) (n : Nat) : (hst st pt n)[40]? = some (.int .i64 (n : Int)) := by
  unfold hst
  rw [List.getElem?_append_right (by rw [u64s_len h]; omega), u64s_len h, List.getElem?_append_right (by simp; omega)]
  simp [h32]
theorem hst_set_n {st : List Int} (h : St st) {pt : List UInt8} (h32 : pt.length = 32) (n m : Nat) : (hst st pt n).set 40 (.int .i64 (m : Int)) = hst st pt m := by
  unfold hst
  rw [List.set_append_right _ _ (by rw [u64s_len h]; omega), u64s_len h, List.set_append_right _ _ (by simp; omega)]
  simp [h32]
theorem hst_set_pt {st : List Int} (h : St st) {pt : List UInt8} (h32 : pt.length = 32) (n i : Nat) (hi : i < 32) (x : UInt8) : (hst st pt n).set (8 + i) (u8v x) = hst st (pt.set i x) n := by
  unfold hst
  rw [List.set_append_right _ _ (by rw [u64s_len h]; omega), u64s_len h, show 8 + i - 8 = i from by omega, List.set_append_left _ _ (by simp; omega), List.map_set]
theorem hst_set_st {st : List Int} (h : St st) (pt : List UInt8) (n j : Nat) (hj : j < 8) (x : Int) : (hst st pt n).set j (.int .u64 x) = hst (st.set j x) pt n := by
  unfold hst
  rw [List.set_append_left _ _ (by rw [u64s_len h]; exact hj), u64s_set]
theorem grown_set {w u : World} {g : Nat} (h : w.grownBy u (some g)) (k : Nat) (x : Value) : w.grownBy (u.setCell ⟨g, k, none⟩ x) (some g) :=
  ⟨h.os, h.tape, h.output, by simpa using h.size, fun i hi hne => by rw [← h.block i hi hne]; exact heap_setCell_other u _ i _ (by simpa using hne)⟩
theorem grown_bel {w u v : World} {g : Nat} (h : w.grownBy u (some g)) (hb : Below u.heap.size u v) : w.grownBy v (some g) :=
  ⟨hb.os.trans h.os, hb.tape.trans h.tape, hb.output.trans h.output, Nat.le_trans h.size hb.size, fun i hi hne => (hb.block i (Nat.lt_of_lt_of_le hi h.size)).trans (h.block i hi hne)⟩
set_option maxHeartbeats 400000 in
set_option maxRecDepth 100000 in
theorem take_less (st : List Int) (pt : List UInt8) (n : Nat) (x : UInt8) (hs : St st) (h32 : pt.length = 32) (hn : n < 31) (g : Nat) (w : World) (hb : Blk 189 w g (hst st pt n)) :
    Calls Try.prog 127 #[.pointer (some ⟨g, 0, none⟩), .int .u8 (x.toNat : Int)] w fun e w' => e = .returned (.tuple #[]) ∧ Blk 189 w' g (hst st (pt.set n x) (n + 1)) ∧ w.grownBy w' (some g) := by
  have hc40 := (hb.cell 40).trans (hst_n hs h32 n)
  have k0 := fun u : Ext w => u.cell hc40
  have hni : (n : Int) < 32 := by omega
  have hn32 : n < 32 := by omega
  have hn1 : (n : Int) + 1 < 32 := by omega
  have h32' : (pt.set n x).length = 32 := by simpa using h32
  have H32 := Lib.hid h32
  have H32' := Lib.hid h32'
  clear h32 h32' hc40
  go_enter Try.func127, Try.ntmps127
  go_wp2
  refine wp_region_typed w 9 (by kernel_rfl) (by kernel_rfl) (Below.refl _ _) ?_; simp only [List.take_succ_cons, List.take_zero, List.take_nil]
  iterate 9 (refine wpX_step (by rfl) (fun K hK => ?_); go_simp; first | (refine hK _ ?_; clear hK K) | (apply Exists.intro; refine ⟨fun _ => ?_, hK _ ?_⟩; fail; clear hK K))
  refine wpX_nil ?_
  intro w1 hw1
  change wpList _ _ _ [_] _ _
  have hb1 := hb.kept hw1
  have hg1 := grown_bel (World.grownBy.refl w (some g)) hw1
  have hl1 := hst_len hs.1 H32.out n
  obtain ⟨y1, hy1⟩ := hb1.has (8 + n) (by rw [hl1]; omega)
  have hf1 := hb1.free (8 + n)
  have hb2 : Blk 189 (w1.setCell ⟨g, 8 + n, none⟩ (.int .u8 (x.toNat : Int))) g (hst st (pt.set n x) n) := by
    have := hb1.set (8 + n) (u8v x)
    rw [hst_set_pt hs H32.out n n hn32 x] at this
    exact this
  have hg2 := grown_set hg1 (8 + n) (.int .u8 (x.toNat : Int))
  have hc2 := (hb2.cell 40).trans (hst_n hs H32'.out n)
  have hf2 := hb2.free 40
  have hb3 : Blk 189 ((w1.setCell ⟨g, 8 + n, none⟩ (.int .u8 (x.toNat : Int))).setCell ⟨g, 40, none⟩ (.int .i64 ((n : Int) + 1))) g (hst st (pt.set n x) (n + 1)) := by
    have := hb2.set 40 (.int .i64 ((n + 1 : Nat) : Int))
    rw [hst_set_n hs H32'.out n (n + 1)] at this
    exact this
  have hg3 := grown_set hg2 40 (.int .i64 ((n : Int) + 1))
  have hc3 : ((w1.setCell ⟨g, 8 + n, none⟩ (.int .u8 (x.toNat : Int))).setCell ⟨g, 40, none⟩ (.int .i64 ((n : Int) + 1))).cell? ⟨g, 40, none⟩ = some (.int .i64 ((n : Int) + 1)) := (hb3.cell 40).trans (hst_n hs H32'.out (n + 1))
  clear k0 hl1
  go_wp2
  exact bodyPost_ret (results_none (by rfl) _ _ _) rfl ⟨rfl, hb3, hg3⟩
/-- cells, one behind the other -/
def setsL (cs : List Value) (o : Nat) : List Value → List Value
  | [] => cs
  | v :: vs => setsL (cs.set o v) (o + 1) vs
theorem setsL_app (b vs : List Value) (hl : b.length = vs.length) (r : List Value) : ∀ a : List Value, setsL (a ++ (b ++ r)) a.length vs = a ++ (vs ++ r) := by
  induction vs generalizing b with
  | nil =>
    obtain rfl : b = [] := List.eq_nil_of_length_eq_zero hl
    intro a; rfl
  | cons v vs ih =>
    intro a
    match b, hl with
    | x :: b, hl =>
      rw [setsL, List.set_append_right _ _ (Nat.le_refl _), Nat.sub_self, List.cons_append, List.set_cons_zero]
      have := ih b (by simpa using hl) (a ++ [v])
      simp only [List.length_append, List.length_cons, List.length_nil, List.append_assoc, List.cons_append, List.nil_append] at this
      exact this
theorem Blk.sets {e : TypeId} {g : Nat} (vs : List Value) : ∀ {w : World} {cs : List Value} (o : Nat), Blk e w g cs → Blk e (w.setCells g o vs) g (setsL cs o vs) := by
  induction vs with
  | nil => intro w cs o h; exact h
  | cons v vs ih => intro w cs o h; exact ih (o + 1) (h.set o v)
theorem grown_sets {w : World} {g : Nat} (vs : List Value) : ∀ {u : World} (o : Nat), w.grownBy u (some g) → w.grownBy (u.setCells g o vs) (some g) := by
  induction vs with
  | nil => intro u o h; exact h
  | cons v vs ih => intro u o h; exact ih (o + 1) (grown_set h o v)
theorem hst_sets {st st' : List Int} (h : St st) (h' : St st') (pt : List UInt8) (n : Nat) : setsL (hst st pt n) 0 (u64s st') = hst st' pt n := by
  have := setsL_app (u64s st) (u64s st') (by rw [u64s_len h, u64s_len h']) (pt.map u8v ++ [.int .i64 (n : Int)]) []
  simpa [hst] using this
/-- 'a[8 * j:]' of an array of 32 bytes. -/
theorem slice32 {t : TypeId} (ht : Try.prog.underlying t = some (.array (Try.prog.arrayLen t) (Try.prog.elem t))) (hl : Try.prog.arrayLen t = 32) (hs : (Try.prog.info? (Try.prog.elem t)).map (·.size) = some 1) (g o j : Nat) (hj : j < 4) (k : IntKind) (w : World) :
    (Instr.sliceAt t (.pointer (some ⟨g, o, none⟩)) (some (.int k (8 * (j : Int)))) none none).run Try.prog w = .ok (.slice (some ⟨g, o + 8 * j, none⟩) (32 - 8 * j) (32 - 8 * j)) w := by
  rw [run_sliceAt_array_l w t ⟨g, o, none⟩ ht k (8 * (j : Int)) (by omega) (by rw [hl]; omega), hl]
  have hadd : (⟨g, o, none⟩ : Addr).add (8 * j * 1) = ⟨g, o + 8 * j, none⟩ := by unfold Addr.add; split <;> simp_all
  have e : (8 * (j : Int)).toNat = 8 * j := by omega
  cases hq : Try.prog.info? (Try.prog.elem t) with
  | none => simp [hq] at hs
  | some q =>
    have hs1 : q.size = 1 := by simpa [hq] using hs
    have hsz : (sizeOf (Try.prog.elem t)).run Try.prog w = .ok 1 w := by simp [sizeOf, typeInfo, hq, hs1]
    rw [hsz]
    simp only [Result.andThen_ok, slicedAt]
    rw [e, if_neg (by omega), hadd]
theorem rdN_drop (p : List UInt8) (j m : Nat) : rdN (p.drop (8 * j)) 0 m = rdN p j m := by
  induction m with
  | zero => rfl
  | succ m ih => rw [rdN, rdN, ih, List.getElem?_drop, show 8 * j + (8 * 0 + m) = 8 * j + m from by omega]
/-- A slice over a part of a block. -/
theorem Blk.partRow {α : Type} {f : α → List Value} {c1 : α → Value} (hf : One f c1) {e : TypeId} {w : World} {g : Nat} {cs : List Value} (h : Blk e w g cs) (o n c : Nat) (l : List α) (hl : l.length = n) (hcs : ∀ (j : Nat) (u : Value), (l.map c1)[j]? = some u → cs[o + j]? = some u) (hc : n ≤ c) (hm : c ≤ maxLen) :
    RowOf f 1 w (.slice (some ⟨g, o, none⟩) n c) l := by
  subst hl
  refine ⟨by rw [hf.map, List.length_map, Nat.mul_one], _, _, rfl, hc, hm, .inr ⟨g, o, none, rfl, .inl rfl, fun j u hu => ?_⟩⟩
  rw [hf.map] at hu
  rw [h.cell]; exact hcs j u hu
theorem hst_row {st : List Int} (h : St st) {pt : List UInt8} (h32 : pt.length = 32) (n j : Nat) (hj : j < 4) {w : World} {g : Nat} (hb : Blk 189 w g (hst st pt n)) :
    Bytes w (.slice (some ⟨g, 8 + 8 * j, none⟩) (32 - 8 * j) (32 - 8 * j)) (pt.drop (8 * j)) := by
  refine Blk.partRow (c1 := u8v) (fun _ => rfl) hb (8 + 8 * j) (32 - 8 * j) (32 - 8 * j) _ (by simp [h32]) (fun i u hu => ?_) (Nat.le_refl _) (by unfold maxLen; omega)
  rw [List.getElem?_map, List.getElem?_drop] at hu
  have hi : 8 * j + i < 32 := by
    by_cases hlt : 8 * j + i < 32
    · exact hlt
    · rw [List.getElem?_eq_none (by omega)] at hu; cases hu
  rw [show 8 + 8 * j + i = 8 + (8 * j + i) from by omega, hst_pt h h32 n (8 * j + i) hi, ← hu, List.getElem?_eq_getElem (by omega)]
  rfl
set_option maxHeartbeats 800000 in
set_option maxRecDepth 100000 in
theorem take_full (st : List Int) (pt : List UInt8) (x : UInt8) (hs : St st) (h32 : pt.length = 32) (g : Nat) (w : World) (hb : Blk 189 w g (hst st pt 31)) :
    Calls Try.prog 127 #[.pointer (some ⟨g, 0, none⟩), .int .u8 (x.toNat : Int)] w fun e w' => e = .returned (.tuple #[]) ∧ Blk 189 w' g (hst (mixL (absK st (pt.set 31 x) 32) 12) (pt.set 31 x) 0) ∧ w.grownBy w' (some g) := by
  have hc40 := (hb.cell 40).trans (hst_n hs h32 31)
  have k0 : ∀ u : Ext w, u.val.cell? ⟨g, 40, none⟩ = some (.int .i64 31) := fun u => u.cell hc40
  have h32' : (pt.set 31 x).length = 32 := by simpa using h32
  have H32 := Lib.hid h32
  have H32' := Lib.hid h32'
  clear h32 h32' hc40
  go_enter Try.func127, Try.ntmps127
  go_wp2
  refine wp_region_typed w 9 (by kernel_rfl) (by kernel_rfl) (Below.refl _ _) ?_; simp only [List.take_succ_cons, List.take_zero, List.take_nil]
  iterate 9 (refine wpX_step (by rfl) (fun K hK => ?_); go_simp; first | (refine hK _ ?_; clear hK K) | (apply Exists.intro; refine ⟨fun _ => ?_, hK _ ?_⟩; fail; clear hK K))
  refine wpX_nil ?_
  intro w1 hw1
  change wpList _ _ _ [_] _ _
  have hb1 := hb.kept hw1
  have hg1 := grown_bel (World.grownBy.refl w (some g)) hw1
  have hl1 := hst_len hs.1 H32.out 31
  obtain ⟨y1, hy1⟩ := hb1.has 39 (by rw [hl1]; omega)
  have hf1 := hb1.free 39
  have hb2 : Blk 189 (w1.setCell ⟨g, 39, none⟩ (.int .u8 (x.toNat : Int))) g (hst st (pt.set 31 x) 31) := by
    have := hb1.set (8 + 31) (u8v x)
    rw [hst_set_pt hs H32.out 31 31 (by omega) x] at this
    exact this
  have hg2 := grown_set hg1 39 (.int .u8 (x.toNat : Int))
  have hc2 : (w1.setCell ⟨g, 39, none⟩ (.int .u8 (x.toNat : Int))).cell? ⟨g, 40, none⟩ = some (.int .i64 31) := (hb2.cell 40).trans (hst_n hs H32'.out 31)
  have hf2 := hb2.free 40
  obtain ⟨u2, hu2⟩ : ∃ u2, u2 = w1.setCell ⟨g, 39, none⟩ (.int .u8 (x.toNat : Int)) := ⟨_, rfl⟩
  have hb3 : Blk 189 ((w1.setCell ⟨g, 39, none⟩ (.int .u8 (x.toNat : Int))).setCell ⟨g, 40, none⟩ (.int .i64 32)) g (hst st (pt.set 31 x) 32) := by
    have := hb2.set 40 (.int .i64 ((32 : Nat) : Int))
    rw [hst_set_n hs H32'.out 31 32] at this
    exact this
  have hg3 := grown_set hg2 40 (.int .i64 32)
  have hc3 : ((w1.setCell ⟨g, 39, none⟩ (.int .u8 (x.toNat : Int))).setCell ⟨g, 40, none⟩ (.int .i64 32)).cell? ⟨g, 40, none⟩ = some (.int .i64 32) := (hb3.cell 40).trans (hst_n hs H32'.out 32)
  have hf3 := hb3.free 40
  have hb4 : Blk 189 (((w1.setCell ⟨g, 39, none⟩ (.int .u8 (x.toNat : Int))).setCell ⟨g, 40, none⟩ (.int .i64 32)).setCell ⟨g, 40, none⟩ (.int .i64 0)) g (hst (absK st (pt.set 31 x) 0) (pt.set 31 x) 0) := by
    have := hb3.set 40 (.int .i64 ((0 : Nat) : Int))
    rw [hst_set_n hs H32'.out 32 0, ← absK_zero hs (pt.set 31 x)] at this
    exact this
  have hg4 := grown_set hg3 40 (.int .i64 0)
  clear k0 hl1 hu2 u2
  go_wp2
  obtain ⟨pt2, hpt2⟩ : ∃ p, p = pt.set 31 x := ⟨_, rfl⟩
  rw [← hpt2] at hb4 H32'
  have Hpt2 := Lib.hid hpt2
  clear hpt2
  go_loopw [29] (fun ix wr => ∃ j : Nat, j ≤ 4 ∧ ix = .int .i64 (j : Int) ∧ Blk 189 wr g (hst (absK st pt2 (8 * j)) pt2 0) ∧ w.grownBy wr (some g)) (fun ix _ => 4 - (intOf ix).toNat)
  case atStart => exact ⟨0, by omega, rfl, hb4, hg4⟩
  case round =>
    clear hb hb1 hb2 hb3 hb4 hg1 hg2 hg3 hg4 hc2 hc3 hf1 hf2 hf3 hy1
    obtain ⟨j, hj, rfl, hb, hgr⟩ := hrel
    have hst' := absK_St st pt2 (8 * j)
    by_cases hlt : j < 4
    · have hrow := hst_row hst' H32'.out 0 j hlt hb
      have hcj := (hb.cell j).trans (hst_st hst' pt2 0 j (by omega))
      have k0 := fun u : Ext wr => u.cell hcj
      have hword := absK_word hs pt2 j hlt
      have hr8 := fun w h => read8_any (some ⟨g, 8 + 8 * j, none⟩) (32 - 8 * j) (32 - 8 * j) (pt2.drop (8 * j)) (by simp [H32'.out]) (by omega) w h
      rw [rdN_drop] at hr8
      obtain ⟨y, hy⟩ := (⟨_, rfl⟩ : ∃ y, y = (absK st pt2 (8 * j))[j]?.getD 0)
      obtain ⟨r, hr⟩ : ∃ r, r = rdN pt2 j 8 := ⟨_, rfl⟩
      rw [← hr] at hr8 hword
      rw [← hy] at hword
      simp only [← hy] at k0
      have Hr8 := Lib.hid hr8
      have Hrow := Lib.hid hrow
      have Hword := Lib.hid hword
      have hji : (j : Int) < 4 := by omega
      have hj8 : (j : Int) < 8 := by omega
      have hsl : (8 * (j : Int)).toNat = 8 * j := by omega
      have e1 : IntKind.i64.wrap (8 * (j : Int)) = 8 * (j : Int) := IntWalk.i64_in _ (by omega)
      have hs32 := fun k w => slice32 (t := 42) (by kernel_rfl) (by kernel_rfl) (by kernel_rfl) g 8 j hlt k w
      clear hr8 hrow hword hy hr hcj
      go_wp2
      refine wp_region_typed wr 17 (by kernel_rfl) (by kernel_rfl) (Below.refl _ _) ?_; simp only [List.take_succ_cons, List.take_zero, List.take_nil]
      iterate 12 (refine wpX_step (by rfl) (fun K hK => ?_); go_simp; first | (refine hK _ ?_; clear hK K) | (apply Exists.intro; refine ⟨fun _ => ?_, hK _ ?_⟩; fail; clear hK K))
      (refine wpX_step (by rfl) (fun K hK => ?_); go_simp; first | (refine hK _ ?_; clear hK K) | (apply Exists.intro; refine ⟨fun _ => ?_, hK _ ?_⟩; exact Hr8.out _ (Ext.row _ Hrow.out); clear hK K))
      iterate 4 (refine wpX_step (by rfl) (fun K hK => ?_); go_simp; first | (refine hK _ ?_; clear hK K) | (apply Exists.intro; refine ⟨fun _ => ?_, hK _ ?_⟩; fail; clear hK K))
      refine wpX_nil ?_
      intro u2 hb2
      change wpList _ _ _ [_] _ _
      have hbk := hb.kept hb2
      obtain ⟨yj, hyj⟩ := hbk.has j (by rw [hst_len hst'.1 H32'.out]; omega)
      have hfj := hbk.free j
      have hbs := hbk.set j (.int .u64 (bits .xor .u64 y (r : Int)))
      rw [hst_set_st hst' pt2 0 j (by omega), Hword.out] at hbs
      have hgs := grown_set (grown_bel hgr hb2) j (.int .u64 (bits .xor .u64 y (r : Int)))
      clear k0 hb hbk hs32
      go_wp2
      go_roundw
      case rel => exact ⟨j + 1, by omega, by go_num, hbs, hgs⟩
      case measure => simp [intOf]; omega
    · obtain rfl : j = 4 := by omega
      obtain ⟨S, hS⟩ : ∃ S, S = absK st pt2 (8 * 4) := ⟨_, rfl⟩
      rw [← hS] at hb hst'
      have HS := Lib.hid hS
      obtain ⟨M, hM⟩ : ∃ M, M = mixL S 12 := ⟨_, rfl⟩
      have hMst : St M := by rw [hM]; exact hst'.mix 12
      have HM := Lib.hid hM
      have hrange : wr.rangeAt g 0 (u64s S) := fun i v hv => by
        have hi : i < 8 := by
          have := (List.getElem?_eq_some_iff.1 hv).1
          rwa [u64s_len hst'] at this
        rw [Nat.zero_add, hb.cell, hst_st hst' pt2 0 i hi, ← hv, u64s_at hst' i hi]
      have cm : ∀ w, Calls Try.prog 146 #[.agg (u64s S).toArray] w fun e w' => e = .returned (.agg (u64s M).toArray) ∧ Below w.heap.size w w' := fun w => by rw [hM]; exact mix_any S hst' w
      have Cm := Lib.hid cm
      have hthere : ∀ u : World, Blk 189 u g (hst S pt2 0) → u.there g 0 (u64s M).toArray.size := fun u hu i hi => by
        have hi8 : i < 8 := by simpa [u64s_len hMst] using hi
        refine ⟨?_, hu.free (0 + i)⟩
        rw [Nat.zero_add, hu.cell, hst_st hst' pt2 0 i hi8]; rfl
      have Hthere := Lib.hid hthere
      clear hS hM cm hthere
      go_wp2_with (first
        | (refine wpList_load_mid (op := ⟨some 54, _, _, _, _, _⟩) (by rfl) 187 (.tmp 53) (by rfl) g 0 (by rfl) (u64s S) _ hrange Try.underlying187 (by rfl) (by rw [u64s_len hst']; kernel_rfl) ?_)
        | (go_at_call 146; (with_reducible refine (Cm.out _).mono ?_); rintro e u2 ⟨rfl, b2⟩; have hb2 := hb.kept b2; have hg2 := grown_bel hgr b2)
        | (refine wpList_store_mid (by rfl) 187 (.tmp 57) (.tmp 55) (by rfl) g 0 (u64s M).toArray (by rfl) (by rfl) (Hthere.out u2 hb2) (by rw [List.size_toArray, u64s_len hMst]; kernel_rfl) (all_oneCell_toArray (u64s_one M)) ?_))
      go_end0
      have hb3 := hb2.sets (u64s M) 0
      rw [hst_sets hst' hMst pt2 0] at hb3
      have hfin : M = mixL (absK st pt2 32) 12 := by rw [HM.out, HS.out]
      have hg3 := grown_sets (u64s M) 0 hg2
      exact ⟨rfl, by rw [← Hpt2.out, ← hfin]; exact hb3, hg3⟩
end Go.Proofs.Ytljbbpcnoajfeaa
/- (Sum4) The Hasher by what it has taken: take, Write. -/
namespace Go.Proofs.Ytljbbpcnoajfeaa
open Go.RowKit
/-- the Hasher at g has taken the first t bytes of P -/
def HashAt (P : List UInt8) (t g : Nat) (w : World) : Prop := ∃ pt : List UInt8, pt.length = 32 ∧ (∀ i, i < t % 32 → pt[i]? = P[32 * (t / 32) + i]?) ∧ Blk 189 w g (hst (stB P (t / 32)) pt (t % 32))
theorem HashAt.kept {P : List UInt8} {t g : Nat} {w w' : World} (h : HashAt P t g w) (hb : Below w.heap.size w w') : HashAt P t g w' := by
  obtain ⟨pt, h1, h2, h3⟩ := h
  exact ⟨pt, h1, h2, h3.kept hb⟩
theorem HashAt.n {P : List UInt8} {t g : Nat} {w : World} (h : HashAt P t g w) : w.cell? ⟨g, 40, none⟩ = some (.int .i64 ((t % 32 : Nat) : Int)) := by
  obtain ⟨pt, h1, h2, h3⟩ := h
  exact (h3.cell 40).trans (hst_n (stB_St P _) h1 _)
theorem take_any (P : List UInt8) (t : Nat) (x : UInt8) (g : Nat) (w : World) (hx : P[t]? = some x) (h : HashAt P t g w) :
    Calls Try.prog 127 #[.pointer (some ⟨g, 0, none⟩), .int .u8 (x.toNat : Int)] w fun e w' => e = .returned (.tuple #[]) ∧ HashAt P (t + 1) g w' ∧ w.grownBy w' (some g) := by
  obtain ⟨pt, h32, hpt, hb⟩ := h
  have hs := stB_St P (t / 32)
  by_cases hn : t % 32 < 31
  · refine (take_less _ pt (t % 32) x hs h32 hn g w hb).mono ?_
    rintro e w' ⟨rfl, hb', hg⟩
    refine ⟨rfl, ⟨pt.set (t % 32) x, by simpa using h32, fun i hi => ?_, ?_⟩, hg⟩
    · rw [show (t + 1) / 32 = t / 32 from by omega]
      rw [show (t + 1) % 32 = t % 32 + 1 from by omega] at hi
      rw [List.getElem?_set]
      by_cases hit : t % 32 = i
      · rw [if_pos hit, if_pos (by omega), ← hit, show 32 * (t / 32) + t % 32 = t from by omega, hx]
      · rw [if_neg hit]; exact hpt i (by omega)
    · rw [show (t + 1) / 32 = t / 32 from by omega, show (t + 1) % 32 = t % 32 + 1 from by omega]; exact hb'
  · have h31 : t % 32 = 31 := by omega
    rw [h31] at hb hpt
    refine (take_full _ pt x hs h32 g w hb).mono ?_
    rintro e w' ⟨rfl, hb', hg⟩
    refine ⟨rfl, ⟨pt.set 31 x, by simpa using h32, fun i hi => by omega, ?_⟩, hg⟩
    rw [show (t + 1) / 32 = t / 32 + 1 from by omega, show (t + 1) % 32 = 0 from by omega]
    have e1 : absK (stB P (t / 32)) (pt.set 31 x) 32 = absK (stB P (t / 32)) (P.drop (32 * (t / 32))) 32 := absK_same _ _ _ 32 (Nat.le_refl _) (fun i hi => by
      rw [List.getElem?_set, List.getElem?_drop]
      by_cases hi31 : 31 = i
      · rw [if_pos hi31, if_pos (by omega), ← hi31, show 32 * (t / 32) + 31 = t from by omega, hx]
      · rw [if_neg hi31]; exact hpt i (by omega))
    rw [e1] at hb'
    exact hb'
set_option maxHeartbeats 400000 in
set_option maxRecDepth 100000 in
theorem write_any (P l : List UInt8) (a : Option Addr) (n c g : Nat) (w0 w : World) (hn : l.length = n) (hP : ∀ i, i < n → P[i]? = l[i]?) (hl : Bytes w0 (.slice a n c) l) (hg : w0.heap.size ≤ g) (hb : Below w0.heap.size w0 w) (h : HashAt P 0 g w) (hgl : g < w.heap.size) :
    Calls Try.prog 103 #[.pointer (some ⟨g, 0, none⟩), .slice a n c] w fun e w' => e = .returned (.tuple #[]) ∧ HashAt P n g w' ∧ w.grownBy w' (some g) := by
  have HP := Lib.hid hP
  have Hn := Lib.hid hn
  have hg0 := World.grownBy.refl w (some g)
  have hbs := hb.size
  have hsm := hl.small
  unfold maxLen at hsm
  rw [hn] at hsm
  clear hP hn
  go_enter Try.func103, Try.ntmps103
  go_wp2
  go_loopw [8] (fun ix wr => ∃ i : Nat, i ≤ n ∧ ix = .int .i64 (i : Int) ∧ HashAt P i g wr ∧ w.grownBy wr (some g)) (fun ix _ => n - (intOf ix).toNat)
  case atStart => exact ⟨0, by omega, rfl, h, hg0⟩
  case round =>
    clear h hg0
    obtain ⟨i, hi, rfl, hH, hgr⟩ := hrel
    by_cases hlt : i < n
    · have hii : (i : Int) < (n : Int) := by omega
      have hbw : Below w0.heap.size w0 wr := hb.grown hgr hbs (fun k hk => by cases hk; exact hg)
      obtain ⟨b, off, rfl, hc⟩ := Bytes.at (hl.below hbw) i (by rw [Hn.out]; exact hlt)
      have hx : P[i]? = some (l[i]'(by rw [Hn.out]; exact hlt)) := (HP.out i hlt).trans (List.getElem?_eq_getElem _)
      obtain ⟨x, hxx⟩ : ∃ x, x = l[i]'(by rw [Hn.out]; exact hlt) := ⟨_, rfl⟩
      rw [← hxx] at hx hc
      have Hx := Lib.hid hx
      clear hx hxx hbw
      go_wp2_with (go_at_call 127; (with_reducible refine (take_any P i x g _ Hx.out hH).mono ?_); rintro e w2 ⟨rfl, hH2, hg2⟩)
      have hgr2 : w.grownBy w2 (some g) := ⟨hg2.os.trans hgr.os, hg2.tape.trans hgr.tape, hg2.output.trans hgr.output, Nat.le_trans hgr.size hg2.size, fun k hk hne => (hg2.block k (Nat.lt_of_lt_of_le hk hgr.size) hne).trans (hgr.block k hk hne)⟩
      go_roundw
      case rel => exact ⟨i + 1, by omega, by go_num, hH2, hgr2⟩
      case measure => simp [intOf]; omega
    · obtain rfl : i = n := by omega
      go_wp2
      go_end0
      exact ⟨rfl, hH, hgr⟩
end Go.Proofs.Ytljbbpcnoajfeaa
/- (Sum5) (Hasher).Sum, sponge.Sum. -/
namespace Go.Proofs.Ytljbbpcnoajfeaa
open Go.RowKit
def leftZ (g : Nat) (w : World) : Nat := match w.cell? ⟨g, 40, none⟩ with
  | some (.int _ k) => (31 - k).toNat
  | _ => 0
theorem leftZ_at {P : List UInt8} {t g : Nat} {w : World} (h : HashAt P t g w) : leftZ g w = 31 - t % 32 := by
  unfold leftZ
  rw [h.n]
  simp only
  omega
theorem padL_one (l : List UInt8) : (padL l)[l.length]? = some 1 := by
  unfold padL
  rw [List.append_assoc, List.append_assoc, List.getElem?_append_right (Nat.le_refl _), Nat.sub_self]; rfl
theorem padL_zero (l : List UInt8) (t : Nat) (h1 : l.length + 1 ≤ t) (h2 : t < l.length + 1 + padZ l.length) : (padL l)[t]? = some 0 := by
  unfold padL
  rw [List.append_assoc, List.getElem?_append_right (by simp; omega), List.getElem?_append_left (by simp; omega), List.getElem?_replicate, if_pos (by simp; omega)]
theorem padL_last (l : List UInt8) : (padL l)[l.length + 1 + padZ l.length]? = some 128 := by
  unfold padL
  rw [List.getElem?_append_right (by simp; omega)]
  have e : l.length + 1 + padZ l.length - (l ++ [1] ++ List.replicate (padZ l.length) 0).length = 0 := by simp; omega
  rw [e]; rfl
theorem padL_head (l : List UInt8) (i : Nat) (h : i < l.length) : (padL l)[i]? = l[i]? := by
  unfold padL
  rw [List.append_assoc, List.append_assoc, List.getElem?_append_left h]
def scs (l : List UInt8) : List Value := (sumB l).map u8v
theorem scs_len (l : List UInt8) : (scs l).length = 32 := by unfold scs sumB; rw [List.length_map, outB_len]
theorem scs_one (l : List UInt8) : ∀ u ∈ scs l, u.oneCell' = true := by
  intro u hu
  obtain ⟨x, _, rfl⟩ := List.mem_map.1 hu
  rfl
theorem aggHasher : Agg Try.prog 189 41 := ⟨_, Try.underlying189, rfl, by kernel_rfl⟩
theorem slice32' (g j : Nat) (hj : j < 4) (k : IntKind) (w : World) :
    (Instr.sliceAt 43 (.pointer (some ⟨g, 0, none⟩)) (some (.int k (8 * (j : Int)))) none none).run Try.prog w = .ok (.slice (some ⟨g, 8 * j, none⟩) (32 - 8 * j) (32 - 8 * j)) w := by
  have := slice32 (t := 43) (by kernel_rfl) (by kernel_rfl) (by kernel_rfl) g 0 j hj k w
  rwa [Nat.zero_add] at this
set_option maxHeartbeats 1000000 in
set_option maxRecDepth 100000 in
theorem hsum_any (l pt : List UInt8) (h32 : pt.length = 32) (hpt : ∀ i, i < l.length % 32 → pt[i]? = (padL l)[32 * (l.length / 32) + i]?) (w : World) :
    Calls Try.prog 104 #[.agg (hst (stB (padL l) (l.length / 32)) pt (l.length % 32)).toArray] w fun e w' => e = .returned (.agg ((sumB l).map u8v).toArray) ∧ Below w.heap.size w w' := by
  obtain ⟨H, hH⟩ : ∃ H, H = hst (stB (padL l) (l.length / 32)) pt (l.length % 32) := ⟨_, rfl⟩
  obtain ⟨w1, hw1⟩ : ∃ w1, w1 = (w.alloc (.cells H.toArray 189)).alloc (.cells zh.toArray 43) := ⟨_, rfl⟩
  have hb1 : HashAt (padL l) l.length w.heap.size w1 := ⟨pt, h32, hpt, by rw [hw1, ← hH]; exact (Blk.new w 189 H).alloc _⟩
  have hz1 : Blk 43 w1 (w.heap.size + 1) zh := by
    have := Blk.new (w.alloc (.cells H.toArray 189)) 43 zh
    have h2 : Blk 43 ((w.alloc (.cells H.toArray 189)).alloc (.cells zh.toArray 43)) (w.heap.size + 1) zh := by simpa using this
    rw [hw1]; exact h2
  have hbel1 : Below w.heap.size w w1 := by rw [hw1]; exact ((Below.refl _ _).alloc (Nat.le_refl _) _).alloc (by simp) _
  obtain ⟨P, hP⟩ : ∃ P, P = padL l := ⟨_, rfl⟩
  obtain ⟨n, hn⟩ : ∃ n, n = l.length := ⟨_, rfl⟩
  obtain ⟨zz, hzz⟩ : ∃ zz, zz = padZ l.length := ⟨_, rfl⟩
  have p1 := padL_one l
  have p2 := padL_zero l
  have p3 := padL_last l
  have pm := padL_mod l
  have pl := padL_len l
  have hz31 : (n + 1 + zz) % 32 = 31 := by rw [hzz, ← hn]; unfold padZ; omega
  have hzd : ∀ t, n + 1 ≤ t → t < n + 1 + zz → t % 32 < 31 := by
    intro t q1 q2
    rw [hzz, ← hn] at q2
    unfold padZ at q2
    omega
  rw [← hP, ← hn] at hb1 p1
  rw [← hP, ← hzz, ← hn] at p2 p3 pl
  rw [← hP] at pm
  have g0 : ∀ (u u' : World), Below w.heap.size w u → Blk 43 u (w.heap.size + 1) zh → u.grownBy u' (some w.heap.size) → Below w.heap.size w u' ∧ Blk 43 u' (w.heap.size + 1) zh :=
    fun u u' b z g => ⟨b.grown g b.size (fun k hk => by cases hk; exact Nat.le_refl _), z.grown g (by simp)⟩
  have c1 : ∀ w', HashAt P n w.heap.size w' → Calls Try.prog 127 #[.pointer (some ⟨w.heap.size, 0, none⟩), .int .u8 1] w' fun e w2 => e = .returned (.tuple #[]) ∧ HashAt P (n + 1) w.heap.size w2 ∧ w'.grownBy w2 (some w.heap.size) := fun w' h => take_any P n 1 _ w' p1 h
  have c2 : ∀ t w', n + 1 ≤ t → t < n + 1 + zz → HashAt P t w.heap.size w' → Calls Try.prog 127 #[.pointer (some ⟨w.heap.size, 0, none⟩), .int .u8 0] w' fun e w2 => e = .returned (.tuple #[]) ∧ HashAt P (t + 1) w.heap.size w2 ∧ w'.grownBy w2 (some w.heap.size) := fun t w' q1 q2 h => take_any P t 0 _ w' (p2 t q1 q2) h
  have c3 : ∀ w', HashAt P (n + 1 + zz) w.heap.size w' → Calls Try.prog 127 #[.pointer (some ⟨w.heap.size, 0, none⟩), .int .u8 128] w' fun e w2 => e = .returned (.tuple #[]) ∧ HashAt P (n + 1 + zz + 1) w.heap.size w2 ∧ w'.grownBy w2 (some w.heap.size) := fun w' h => take_any P _ 128 _ w' p3 h
  have hS : stB P ((n + 1 + zz + 1) / 32) = stB P (P.length / 32) := by rw [pl]; congr 2; omega
  have hT : ocs (stB P (P.length / 32)) = (sumB l).map u8v := by unfold ocs sumB; rw [hP]
  have hN0 : (n + 1 + zz + 1) % 32 = 0 := by omega
  have Hw1 := Lib.hid hw1
  have C1 := Lib.hid c1
  have C2 := Lib.hid c2
  have C3 := Lib.hid c3
  have G0 := Lib.hid g0
  have HS := Lib.hid hS
  have HT := Lib.hid hT
  have HH := Lib.hid hH
  have Hzd := Lib.hid hzd
  have Hz31 := Lib.hid hz31
  have HN0 := Lib.hid hN0
  rw [show hst (stB (padL l) (l.length / 32)) pt (l.length % 32) = H from hH.symm]
  clear hw1 c1 c2 c3 g0 hS hT hH hzd hz31 hN0 p1 p2 p3 pm pl hP hn hzz h32 hpt
  go_enter Try.func104, Try.ntmps104
  go_wp2_with (go_at_call 127; (have hcall := C1.out w1 hb1); rw [Hw1.out] at hcall; refine hcall.mono ?_; rintro e w2 ⟨rfl, hb2, hg2⟩; rw [← Hw1.out] at hg2; clear hcall)
  obtain ⟨hbel2, hz2⟩ := G0.out w1 w2 hbel1 hz1 hg2
  clear hb1 hz1 hbel1 hg2
  go_loopw [] (fun wr => ∃ t : Nat, n + 1 ≤ t ∧ t ≤ n + 1 + zz ∧ HashAt P t w.heap.size wr ∧ Blk 43 wr (w.heap.size + 1) zh ∧ Below w.heap.size w wr) (fun wr => leftZ w.heap.size wr)
  case atStart => exact ⟨n + 1, Nat.le_refl _, by omega, hb2, hz2, hbel2⟩
  case round =>
    clear hb2 hz2 hbel2
    obtain ⟨t, ht1, ht2, hb, hz, hbel⟩ := hrel
    have hc := hb.n
    by_cases hlt : t < n + 1 + zz
    · have hq := Hzd.out t ht1 hlt
      obtain ⟨q, hqq⟩ : ∃ q, q = t % 32 := ⟨_, rfl⟩
      rw [← hqq] at hc hq
      have hd : ((q : Int) != 31) = true := by rw [bne_iff_ne]; omega
      have Hqq := Lib.hid hqq
      clear hqq
      go_wp2_with (go_at_call 127; (with_reducible refine (C2.out t _ ht1 hlt hb).mono ?_); rintro e w3 ⟨rfl, hb3, hg3⟩; obtain ⟨hbel3, hz3⟩ := G0.out _ w3 hbel hz hg3)
      have m1 := leftZ_at hb
      have m2 := leftZ_at hb3
      go_roundw
      case rel => exact ⟨t + 1, by omega, by omega, hb3, hz3, hbel3⟩
      case measure => rw [m1, m2]; have := Hqq.out; omega
    · obtain rfl : t = n + 1 + zz := by omega
      rw [Hz31.out] at hc
      have hcc : wr.cell? ⟨w.heap.size, 40, none⟩ = some (.int .i64 31) := hc
      clear hc
      go_wp2_with (go_at_call 127; (with_reducible refine (C3.out _ hb).mono ?_); rintro e w3 ⟨rfl, hb3, hg3⟩; obtain ⟨hbel3, hz3⟩ := G0.out _ w3 hbel hz hg3)
      obtain ⟨pt2, h32, _, hbk⟩ := hb3
      rw [HS.out, HN0.out] at hbk
      have hSt := stB_St P (P.length / 32)
      obtain ⟨S, hSS⟩ : ∃ S, S = stB P (P.length / 32) := ⟨_, rfl⟩
      have hT := HT.out
      rw [← hSS] at hbk hSt hT
      have hTn := ocs_len S
      have hTi := fun k hk => ocs_at S k hk
      obtain ⟨T, hTT⟩ : ∃ T, T = ocs S := ⟨_, rfl⟩
      rw [← hTT] at hTn
      simp only [← hTT] at hTi
      have hblk := Blk.new w3 43 zh
      have hbk1 := hbk.alloc (.cells zh.toArray 43)
      have hz4 := hz3.alloc (.cells zh.toArray 43)
      have hbel4 := hbel3.alloc hbel3.size (.cells zh.toArray 43)
      have hlt3 := hz3.lt
      obtain ⟨g3, hg3'⟩ : ∃ g3, g3 = w3.heap.size := ⟨_, rfl⟩
      rw [← hg3'] at hblk hlt3
      have hzf : zh = fillL T (.int .u8 0) 0 := by rw [fill_zero, hTn]; rfl
      have HT' := Lib.hid hT
      have HTT := Lib.hid hTT
      have HTn := Lib.hid hTn
      have HTi := Lib.hid hTi
      have H32 := Lib.hid h32
      rw [show w3.heap.size = g3 from hg3'.symm]
      clear hT hTT hTn hTi h32 hg3' hbk hz3 hbel3 hg3 hb hz hbel hcc hSS
      go_loopw [11] (fun ix wi => ∃ j : Nat, j ≤ 4 ∧ ix = .int .i64 (j : Int) ∧ Blk 43 wi g3 (fillL T (.int .u8 0) (8 * j)) ∧ Blk 189 wi w.heap.size (hst S pt2 0) ∧ Blk 43 wi (w.heap.size + 1) zh ∧ Below w.heap.size w wi) (fun ix _ => 4 - (intOf ix).toNat)
      case atStart => exact ⟨0, by omega, rfl, by rw [← hzf]; exact hblk, hbk1, hz4, hbel4⟩
      case round =>
        clear hblk hbk1 hz4 hbel4 hzf
        obtain ⟨j, hj, rfl, hb, hk, hz, hbel⟩ := hrel
        by_cases hlt : j < 4
        · have hc := (hk.cell j).trans (hst_st hSt pt2 0 j (by omega))
          obtain ⟨x, hx, hx64⟩ := inU_nat (hSt.get j (by omega))
          rw [hx] at hc
          have k0 := fun u : Ext wr => u.cell hc
          have hsl := fun k w => slice32' g3 j hlt k w
          have hTw : ∀ i, i < 8 → T[8 * j + i]? = some (u8v (UInt8.ofNat (x / 2 ^ (8 * i)))) := by
            intro i hi
            rw [HTi.out (8 * j + i) (by omega), show (8 * j + i) / 8 = j from by omega, show (8 * j + i) % 8 = i from by omega, hx, Int.toNat_natCast]
          have cw := fun u hu => write8_any g3 (8 * j) (32 - 8 * j) x T 43 hx64 (by omega) hTw (by rw [HTn.out]; omega) u hu
          have Cw := Lib.hid cw
          have hji : (j : Int) < 4 := by omega
          have hj8 : (j : Int) < 8 := by omega
          have hj8' : j < 8 := by omega
          have e1 : IntKind.i64.wrap (8 * (j : Int)) = 8 * (j : Int) := IntWalk.i64_in _ (by omega)
          clear hTw cw hx hc
          go_wp2
          refine wp_region_typed wr 7 (by kernel_rfl) (by kernel_rfl) (Below.refl _ _) ?_; simp only [List.take_succ_cons, List.take_zero, List.take_nil]
          iterate 7 (refine wpX_step (by rfl) (fun K hK => ?_); go_simp; first | (refine hK _ ?_; clear hK K) | (apply Exists.intro; refine ⟨fun _ => ?_, hK _ ?_⟩; fail; clear hK K))
          refine wpX_nil ?_
          intro u2 hb2
          change wpList _ _ _ [_] _ _
          have hbA := hb.kept hb2
          have hkA := hk.kept hb2
          have hzA := hz.kept hb2
          have hbelA := Below.then hbel hb2
          clear k0 hsl hb hk hz hbel hb2
          go_wp2_with (go_at_call 128; (with_reducible refine (Cw.out _ hbA).mono ?_); rintro e u3 ⟨rfl, hb5, hg5⟩)
          have hkB := hkA.grown hg5 (by simp; omega)
          have hzB := hzA.grown hg5 (by simp; omega)
          have hbelB := hbelA.grown hg5 hbelA.size (fun k hk => by cases hk; omega)
          go_roundw
          case rel => exact ⟨j + 1, by omega, by go_num, hb5, hkB, hzB, hbelB⟩
          case measure => simp [intOf]; omega
        · obtain rfl : j = 4 := by omega
          have hfe := fill_end T (.int .u8 0)
          rw [HTn.out] at hfe
          rw [show 8 * 4 = 32 from rfl, hfe, HTT.out] at hb
          clear hfe
          go_wp2_with (first
            | (refine wpList_loadA (o := ⟨some 23, _, _, _, _, _⟩) (by rfl) 43 (.tmp 3) (by rfl) g3 (by rfl) aggHash' hb (ocs_len _) ?_)
            | (refine wpList_storeA (by rfl) 43 (.tmp 2) (.tmp 23) (by rfl) (w.heap.size + 1) (ocs S) (by rfl) (by rfl) aggHash' hz (ocs_len _) (by rfl) (ocs_one _) (Below.refl _ _) (Nat.le_refl _) ?_; intro u3 ho3 hb3 hg3; have hbel3 := hbel.trans (hb3.mono (by omega))))
          exact bodyPost_ret (results_blk rfl _ _ (w.heap.size + 1) aggHash' ho3 (ocs_len _) rfl) rfl ⟨by rw [← HT'.out], hbel3⟩
set_option maxHeartbeats 1000000 in
set_option maxRecDepth 100000 in
theorem sum_any (a : Option Addr) (n c : Nat) (l : List UInt8) (hn : l.length = n) (w : World) (h : Bytes w (.slice a n c) l) :
    Calls Try.prog 70 #[.slice a n c] w fun e w' => e = .returned (.agg ((sumB l).map u8v).toArray) ∧ Below w.heap.size w w' := by
  obtain ⟨H0, hH0⟩ : ∃ H0, H0 = hst (stB (padL l) 0) (List.replicate 32 0) 0 := ⟨_, rfl⟩
  obtain ⟨w1, hw1⟩ : ∃ w1, w1 = (w.alloc (.cells zh.toArray 43)).alloc (.cells H0.toArray 189) := ⟨_, rfl⟩
  have hz1 : Blk 43 w1 w.heap.size zh := by rw [hw1]; exact (Blk.new w 43 zh).alloc _
  have hb1 : HashAt (padL l) 0 (w.heap.size + 1) w1 := by
    refine ⟨List.replicate 32 0, by simp, fun i hi => by omega, ?_⟩
    have := Blk.new (w.alloc (.cells zh.toArray 43)) 189 H0
    have h2 : Blk 189 ((w.alloc (.cells zh.toArray 43)).alloc (.cells H0.toArray 189)) (w.heap.size + 1) H0 := by simpa using this
    rw [hw1, ← hH0]; exact h2
  have hbel1 : Below w.heap.size w w1 := by rw [hw1]; exact ((Below.refl _ _).alloc (Nat.le_refl _) _).alloc (by simp) _
  have hsz1 : w1.heap.size = w.heap.size + 2 := by rw [hw1]; simp
  have cw := write_any (padL l) l a n c (w.heap.size + 1) w w1 hn (fun i hi => padL_head l i (by omega)) h (by omega) hbel1 hb1 (by omega)
  have hH1 : H0.toArray = #[.int .u64 0, .int .u64 0, .int .u64 0, .int .u64 0, .int .u64 0, .int .u64 0, .int .u64 0, .int .u64 0, .int .u8 0, .int .u8 0, .int .u8 0, .int .u8 0, .int .u8 0, .int .u8 0, .int .u8 0, .int .u8 0, .int .u8 0, .int .u8 0, .int .u8 0, .int .u8 0, .int .u8 0, .int .u8 0, .int .u8 0, .int .u8 0, .int .u8 0, .int .u8 0, .int .u8 0, .int .u8 0, .int .u8 0, .int .u8 0, .int .u8 0, .int .u8 0, .int .u8 0, .int .u8 0, .int .u8 0, .int .u8 0, .int .u8 0, .int .u8 0, .int .u8 0, .int .u8 0, .int .i64 0] := by rw [hH0]; rfl
  have Cw := Lib.hid cw
  have Hw1 := Lib.hid hw1
  have HH1 := Lib.hid hH1
  have Hn := Lib.hid hn
  clear cw hw1 hH1 hH0 hn hb1 h
  go_enter Try.func70, Try.ntmps70
  go_wp2_with (first
    | (go_at_call 103; (have hcall := Cw.out); rw [Hw1.out, HH1.out] at hcall; refine hcall.mono ?_; rintro e w2 ⟨rfl, hb2, hg2⟩; rw [← HH1.out, ← Hw1.out] at hg2; clear hcall; obtain ⟨pt, h32, hpt, hbk⟩ := hb2; rw [← Hn.out] at hbk hpt; have hz2 := hz1.grown hg2 (by simp); have hbel2 := hbel1.grown hg2 hbel1.size (fun k hk => by cases hk; omega); have H32 := Lib.hid h32; have Hpt := Lib.hid hpt; clear h32 hpt)
    | (refine wpList_loadA (o := ⟨some 6, _, _, _, _, _⟩) (by rfl) 189 (.tmp 3) (by rfl) (w.heap.size + 1) (by rfl) aggHasher hbk (hst_len (stB_St _ _).1 H32.out _) ?_)
    | (go_at_call 104; (with_reducible refine (hsum_any l pt H32.out Hpt.out _).mono ?_); rintro e w3 ⟨rfl, b3⟩; have hz3 := hz2.kept b3; have hbel3 := Below.then hbel2 b3)
    | (refine wpList_storeA (by rfl) 43 (.tmp 2) (.tmp 7) (by rfl) w.heap.size (scs l) (by rfl) (by rfl) aggHash' hz3 (scs_len l) (by rfl) (scs_one l) (Below.refl _ _) (Nat.le_refl _) ?_; intro u3 ho3 hb3 hg3; have hbel4 := hbel3.trans hb3))
  exact bodyPost_ret (results_blk rfl _ _ w.heap.size aggHash' ho3 (scs_len l) rfl) rfl ⟨rfl, hbel4⟩
end Go.Proofs.Ytljbbpcnoajfeaa
