/- The reference's SMix; sponge.Unmix and the reference's SUnmix. -/
import Derived.Test.YtohenjgegkgncaaSponge2
set_option linter.unusedSimpArgs false
set_option linter.unusedVariables false
namespace Go.Proofs.Ytohenjgegkgncaa
open Go.RowKit
theorem i64_and7 (n : Int) : bits .and .i64 n 7 = n % 8 := by
  have h7 : (BitVec.ofInt 64 7).toNat = 2 ^ 3 - 1 := by decide
  have key : (BitVec.ofInt 64 n &&& BitVec.ofInt 64 7).toNat = (n % ((2 ^ 64 : Nat) : Int)).toNat % 2 ^ 3 := by
    rw [BitVec.toNat_and, BitVec.toNat_ofInt, h7, Nat.and_two_pow_sub_one_eq_mod]
  show IntKind.i64.wrap ((BitVec.ofInt 64 n &&& BitVec.ofInt 64 7).toNat : Nat) = n % 8
  rw [key, IntKind.wrap_i64]
  omega
def unstepL (st : List Int) (i : Nat) : List Int := st.set i (IntKind.u64.wrap (st[i]?.getD 0 - rotI (bits .xor .u64 (st[(i + 1) % 8]?.getD 0) (st[(i + 5) % 8]?.getD 0)) (5 * i + 3)))
def unN (st : List Int) : Nat → List Int
  | 0 => st
  | n + 1 => unstepL (unN st n) (7 - n)
def unroundL (st : List Int) (r : Nat) : List Int := (unN st 8).set 0 (bits .xor .u64 ((unN st 8)[0]?.getD 0) (roundK r))
def unmixL (st : List Int) : Nat → List Int
  | 0 => st
  | n + 1 => unroundL (unmixL st n) (11 - n)
theorem St.unN {st : List Int} (h : St st) (n : Nat) : St (unN st n) := by
  induction n with
  | zero => exact h
  | succ n ih => exact ih.set _ _ (wrap_inU _)
theorem St.unmix {st : List Int} (h : St st) (n : Nat) : St (unmixL st n) := by
  induction n with
  | zero => exact h
  | succ n ih => exact (ih.unN 8).set _ _ (bits_inU _ _ _)
set_option maxHeartbeats 800000 in
set_option maxRecDepth 100000 in
theorem smix_any (st : List Int) (h : St st) (w : World) :
    Calls Try.prog 89 #[.agg (u64s st).toArray] w fun e w' => e = .returned (.agg (u64s (mixL st 12)).toArray) ∧ Below w.heap.size w w' := by
  have hz : Blk 134 (((w.alloc (.cells (u64s st).toArray 134)).alloc (.cells z8.toArray 134))) (w.heap.size + 1) z8 := by
    have := Blk.new (w.alloc (.cells (u64s st).toArray 134)) 134 z8; simpa using this
  have hb0 : Blk 134 (((w.alloc (.cells (u64s st).toArray 134)).alloc (.cells z8.toArray 134))) w.heap.size (u64s st) := (Blk.new w 134 (u64s st)).alloc _
  have hbel : Below w.heap.size w ((w.alloc (.cells (u64s st).toArray 134)).alloc (.cells z8.toArray 134)) := ((Below.refl _ _).alloc (Nat.le_refl _) _).alloc (by simp) _
  obtain ⟨T, hT⟩ : ∃ T, T = mixL st 12 := ⟨_, rfl⟩
  rw [← hT]
  have HT := Lib.hid hT
  clear hT
  have hsp : ∀ w1 : World, (Instr.arrayAt 134 (.slice (some ⟨w.heap.size, 0, none⟩) 8 8)).run Try.prog w1 = .ok (.pointer (some ⟨w.heap.size, 0, none⟩)) w1 := fun _ => by simp [Instr.arrayAt, run_underlying Try.underlying134]
  go_enter Try.func89, Try.ntmps89
  go_wp2
  go_loopw [4] (fun r wr => ∃ k : Nat, k ≤ 12 ∧ r = .int .u64 ((k : Int) + 1) ∧ Blk 134 wr w.heap.size (u64s (mixL st k)) ∧ Below w.heap.size w wr ∧ Blk 134 wr (w.heap.size + 1) z8) (fun r _ => (13 - intOf r).toNat)
  case atStart => exact ⟨0, by omega, rfl, hb0, hbel, hz⟩
  case round =>
    clear hz hb0 hbel
    obtain ⟨k, hk, rfl, hb, hbel, hz⟩ := hrel
    have hst := h.mix k
    by_cases hlt : k < 12
    · have hc0 := hb.st hst 0 (by omega)
      have hf0 := hb.free 0
      have hd : decide ((k : Int) + 1 ≤ 12) = true := by rw [decide_eq_true_eq]; omega
      go_wp2
      rw [show IntKind.u64.wrap (((k : Int) + 1) * 11400714819323198485) = roundK k from rfl]
      obtain ⟨wo, rfl⟩ : ∃ wo : World, wo = wr := ⟨_, rfl⟩
      go_loopw [5, 6] (fun r q wi => ∃ i : Nat, i ≤ 8 ∧ r = .int .i64 i ∧ q = .int .i64 (5 * (i : Int) + 3) ∧ Blk 134 wi w.heap.size (u64s (stepsL ((mixL st k).set 0 (bits .xor .u64 ((mixL st k)[0]?.getD 0) (roundK k))) i)) ∧ Below w.heap.size w wi ∧ Blk 134 wi (w.heap.size + 1) z8) (fun r _ _ => 8 - (intOf r).toNat)
      case atStart => exact ⟨0, by omega, rfl, rfl, by have := hb.set 0 (.int .u64 (bits .xor .u64 ((mixL st k)[0]?.getD 0) (roundK k))); rw [u64s_set] at this; exact this, hbel.setCell (Nat.le_refl _) _, hz.other _ (by simp) _⟩
      case round =>
        clear hb hbel hz hc0 hf0
        obtain ⟨i, hi, rfl, rfl, hb, hbel, hz⟩ := hrel
        have hs2 : St (stepsL ((mixL st k).set 0 (bits .xor .u64 ((mixL st k)[0]?.getD 0) (roundK k))) i) := (hst.set 0 _ (bits_inU _ _ _)).steps i
        generalize hq : stepsL ((mixL st k).set 0 (bits .xor .u64 ((mixL st k)[0]?.getD 0) (roundK k))) i = s2 at hb hs2
        have Hq := Lib.hid hq
        clear hq
        by_cases hi8 : i < 8
        · skip
          obtain ⟨j1, hj1⟩ : ∃ j1, j1 = (i + 1) % 8 := ⟨_, rfl⟩
          obtain ⟨j5, hj5⟩ : ∃ j5, j5 = (i + 5) % 8 := ⟨_, rfl⟩
          have c0 := hb.st hs2 i (by omega)
          have c1 := hb.st hs2 j1 (by omega)
          have c5 := hb.st hs2 j5 (by omega)
          have f0 := hb.free i
          have hx : inU (bits .xor .u64 (s2[j1]?.getD 0) (s2[j5]?.getD 0)) := bits_inU _ _ _
          have e1 : IntKind.i64.wrap ((i : Int) + 1) = (i : Int) + 1 := IntWalk.i64_in _ (by omega)
          have e5 : IntKind.i64.wrap ((i : Int) + 5) = (i : Int) + 5 := IntWalk.i64_in _ (by omega)
          have em : IntKind.i64.wrap (5 * (i : Int)) = 5 * (i : Int) := IntWalk.i64_in _ (by omega)
          have ea : IntKind.i64.wrap (5 * (i : Int) + 3) = 5 * (i : Int) + 3 := IntWalk.i64_in _ (by omega)
          have t1 : bits .and .i64 ((i : Int) + 1) 7 = (j1 : Int) := by rw [i64_and7]; omega
          have t5 : bits .and .i64 ((i : Int) + 5) 7 = (j5 : Int) := by rw [i64_and7]; omega
          have l0 : (i : Int) < 8 := by omega
          have l1 : (j1 : Int) < 8 := by omega
          have l5 : (j5 : Int) < 8 := by omega
          have Hstep : Hid ((s2.set i (IntKind.u64.wrap (s2[i]?.getD 0 + rotI (bits .xor .u64 (s2[j1]?.getD 0) (s2[j5]?.getD 0)) (5 * (i : Int) + 3)))) = stepL s2 i) := by rw [hj1, hj5]; exact Lib.hid rfl
          clear hj1 hj5
          go_wp2
          refine wp_region_still_tail 21 (by kernel_rfl) (by kernel_rfl) ?_
          simp only [List.take_succ_cons, List.take_zero, List.drop_succ_cons, List.drop_zero]
          iterate 18 still_step
          still_call (turn_any _ _ hx ⟨by omega, by omega⟩ _)
          iterate 2 still_step
          refine wpStill_nil ?_
          change wpList _ _ _ _ _ wr.drew
          have eb : 5 * (i : Int) + 3 + 5 = 5 * ((i : Int) + 1) + 3 := by omega
          go_wp2
          go_roundw
          case rel =>
            have hq2 := (hb.set i (.int .u64 (IntKind.u64.wrap (s2[i]?.getD 0 + rotI (bits .xor .u64 (s2[j1]?.getD 0) (s2[j5]?.getD 0)) (5 * (i : Int) + 3))))).drew
            rw [u64s_set, Hstep.out] at hq2
            exact ⟨i + 1, by omega, by go_num, by go_num, by show Blk _ _ _ (u64s (stepL (stepsL _ i) i)); rw [Hq.out]; exact hq2, (hbel.setCell (Nat.le_refl _) _).drew, (hz.other _ (by simp) _).drew⟩
          case measure => simp [intOf]; try omega
        · obtain rfl : i = 8 := by omega
          go_wp2
          go_roundw
          case rel => exact ⟨k + 1, by omega, by go_num, by show Blk _ _ _ (u64s (stepsL _ 8)); rw [Hq.out]; exact hb, hbel, hz⟩
          case measure => simp [intOf]; try omega
    · obtain rfl : k = 12 := by omega
      have hst := h.mix 12
      rw [← HT.out] at hb hst
      go_wp2_with (first
        | (refine wpList_loadA rfl 134 (.tmp 47) rfl w.heap.size rfl aggState hb (u64s_len hst) ?_)
        | (refine wpList_storeA rfl 134 (.tmp 2) (.tmp 48) rfl (w.heap.size + 1) (u64s T) rfl rfl aggState hz (u64s_len hst) rfl (u64s_one _) hbel (by omega) ?_; intro w2 hb2 hbel2 _))
      exact bodyPost_ret (results_blk rfl _ _ (w.heap.size + 1) aggState hb2 (u64s_len hst) rfl) rfl ⟨rfl, hbel2⟩
end Go.Proofs.Ytohenjgegkgncaa
