/- word.Read. -/
import Derived.Test.YtohenjgegkgncaaWord5
set_option linter.unusedSimpArgs false
set_option linter.unusedVariables false
namespace Go.Proofs.Ytohenjgegkgncaa
open Go.RowKit
theorem lim_below (N x k q j : Nat) (hk : 8 * q ≤ k) (hj : j < q) : lim (x * 256 ^ k + N) j = lim N j := by
  unfold lim
  have e : x * 256 ^ k = 2 ^ (64 * j) * (18446744073709551616 * (x * 2 ^ (8 * k - 64 * j - 64))) := by
    rw [show (256 : Nat) = 2 ^ 8 from rfl, ← Nat.pow_mul, show (18446744073709551616 : Nat) = 2 ^ 64 from rfl]
    rw [Nat.mul_left_comm (2 ^ 64) x, Nat.mul_left_comm (2 ^ (64 * j)) x, ← Nat.pow_add, ← Nat.pow_add, show 64 * j + (64 + (8 * k - 64 * j - 64)) = 8 * k from by omega]
  rw [e, Nat.mul_add_div (Nat.two_pow_pos _)]
  generalize x * 2 ^ (8 * k - 64 * j - 64) = y
  omega
theorem lim_over (N j k : Nat) (hN : N < 256 ^ k) (hk : k ≤ 8 * j) : lim N j = 0 := by
  unfold lim
  have h1 : (256 : Nat) ^ k ≤ 2 ^ (64 * j) := by
    rw [show (256 : Nat) = 2 ^ 8 from rfl, ← Nat.pow_mul]; exact Nat.pow_le_pow_right (by omega) (by omega)
  rw [Nat.div_eq_of_lt (by omega)]
theorem lim_on (N x k q r s : Nat) (hk : k = 8 * q + r) (hr : r < 8) (hs : s = 8 * r) (hN : N < 256 ^ k) (hx : x < 256) :
    bits .or .u64 (lim N q : Int) (IntKind.u64.wrap ((x : Int) * 2 ^ s)) = (lim (x * 256 ^ k + N) q : Int) := by
  have hp : (256 : Nat) ^ k = 2 ^ (64 * q) * 2 ^ s := by rw [show (256 : Nat) = 2 ^ 8 from rfl, ← Nat.pow_mul, ← Nat.pow_add, show 64 * q + s = 8 * k from by omega]
  have hd : N / 2 ^ (64 * q) < 2 ^ s := by
    rw [Nat.div_lt_iff_lt_mul (Nat.two_pow_pos _), Nat.mul_comm, ← hp]; exact hN
  have h56 : 2 ^ s ≤ 2 ^ 56 := Nat.pow_le_pow_right (by omega) (by omega)
  have hm : x * 2 ^ s ≤ 255 * 2 ^ s := Nat.mul_le_mul_right _ (by omega)
  have e : IntKind.u64.wrap ((x : Int) * 2 ^ s) = ((x * 2 ^ s : Nat) : Int) := by
    have : (x : Int) * 2 ^ s = ((x * 2 ^ s : Nat) : Int) := by rw [Int.natCast_mul, Int.natCast_pow]; rfl
    rw [this, IntKind.wrap_u64]; omega
  have hmod : x * 2 ^ s % 2 ^ s = 0 := Nat.mul_mod_left _ _
  have e2 : lim N q = N / 2 ^ (64 * q) := by unfold lim; exact Nat.mod_eq_of_lt (Nat.lt_of_lt_of_le hd (by omega))
  have b1 : N / 2 ^ (64 * q) < 18446744073709551616 := Nat.lt_of_lt_of_le hd (by omega)
  have b2 : x * 2 ^ s < 18446744073709551616 := by omega
  have e3 : lim (x * 256 ^ k + N) q = (x * 2 ^ s + N / 2 ^ (64 * q)) % 18446744073709551616 := by
    unfold lim
    rw [hp, Nat.mul_left_comm, Nat.mul_add_div (Nat.two_pow_pos _)]
  rw [e, e2, u64_or_nat _ _ b1 b2, Nat.or_comm, nat_join s _ _ hmod hd, e3]
  generalize N / 2 ^ (64 * q) = y at *
  generalize x * 2 ^ s = z at *
  generalize 2 ^ s = S at *
  congr 1
  exact (Nat.mod_eq_of_lt (by omega)).symm
theorem wcs_on (N x k q r s : Nat) (h32 : k < 32) (hk : k = 8 * q + r) (hr : r < 8) (hs : s = 8 * r) (hN : N < 256 ^ k) (hx : x < 256) :
    (wcs N).set q (.int .u64 (bits .or .u64 (lim N q : Int) (IntKind.u64.wrap ((x : Int) * 2 ^ s)))) = wcs (x * 256 ^ k + N) := by
  rw [lim_on N x k q r s hk hr hs hN hx]
  have hN2 : x * 256 ^ k + N < 256 ^ (k + 1) := by
    have : x * 256 ^ k ≤ 255 * 256 ^ k := Nat.mul_le_mul_right _ (by omega)
    rw [Nat.pow_succ]; omega
  apply List.ext_getElem?
  intro j
  by_cases hj : j < 4
  · rw [wcs_at _ j hj]
    by_cases hq : q = j
    · subst hq
      rw [List.getElem?_set_self (by rw [wcs_len]; exact hj)]
    · rw [List.getElem?_set_ne hq, wcs_at _ j hj]
      rcases Nat.lt_or_ge j q with h1 | h1
      · rw [lim_below N x k q j (by omega) h1]
      · rw [lim_over N j k hN (by omega), lim_over _ j (k + 1) hN2 (by omega)]
  · rw [List.getElem?_eq_none (by rw [List.length_set, wcs_len]; omega), List.getElem?_eq_none (by rw [wcs_len]; omega)]
theorem numL_back (l : List UInt8) (k j : Nat) (hj : j + k + 1 = l.length) : numL (l.drop (l.length - (k + 1))) = (l[j]'(by omega)).toNat * 256 ^ k + numL (l.drop (l.length - k)) := by
  have e : l.length - (k + 1) = j := by omega
  rw [e, List.drop_eq_getElem_cons (by omega), numL, List.length_drop, show j + 1 = l.length - k from by omega, show l.length - (l.length - k) = k from by omega]
set_option maxHeartbeats 400000 in
set_option maxRecDepth 100000 in
theorem read_any (a : Option Addr) (c : Nat) (l : List UInt8) (w : World) (h : Bytes w (.slice a l.length c) l) :
    Calls Try.prog 151 #[.slice a l.length c] w fun e w' => e = .returned (wv (numL (last32 l))) ∧ Below w.heap.size w w' := by
  obtain ⟨n, hn⟩ : ∃ n, n = min l.length 32 := ⟨_, rfl⟩
  have hz0 : Blk 73 (((w.alloc (.cells z4.toArray 73)).alloc (.cells z4.toArray 73))) w.heap.size z4 := (Blk.new w 73 z4).alloc _
  have hy0 : Blk 73 (((w.alloc (.cells z4.toArray 73)).alloc (.cells z4.toArray 73))) (w.heap.size + 1) z4 := by
    have := Blk.new (w.alloc (.cells z4.toArray 73)) 73 z4; simpa using this
  have hbel0 : Below w.heap.size w ((w.alloc (.cells z4.toArray 73)).alloc (.cells z4.toArray 73)) := ((Below.refl _ _).alloc (Nat.le_refl _) _).alloc (by simp) _
  have hlm := h.small
  unfold maxLen at hlm
  have e0 : min (l.length : Int) 32 = (n : Int) := by omega
  have hn32 : n ≤ 32 := by omega
  have hnl : n ≤ l.length := by omega
  have hend : last32 l = l.drop (l.length - n) := by unfold last32; congr 1; omega
  have Hend := Lib.hid hend
  clear hn hend
  go_enter Try.func151, Try.ntmps151
  go_wp2
  go_loopw [4, 8] (fun _ i wr => ∃ k : Nat, k ≤ n ∧ i = .int .i64 (k : Int) ∧ Blk 73 wr w.heap.size z4 ∧ Blk 73 wr (w.heap.size + 1) (wcs (numL (l.drop (l.length - k)))) ∧ Below w.heap.size w wr) (fun _ i _ => n - (intOf i).toNat)
  case atStart => exact ⟨0, by omega, rfl, hz0, by rw [List.drop_eq_nil_of_le (by omega), show numL [] = 0 from rfl, wcs_small 0 (by omega)]; exact hy0, hbel0⟩
  case round =>
    clear hz0 hy0 hbel0
    obtain ⟨k, hk, rfl, hz, hy, hbel⟩ := hrel
    by_cases hlt : k < n
    · obtain ⟨j, hj⟩ : ∃ j, j + k + 1 = l.length := ⟨l.length - k - 1, by omega⟩
      obtain ⟨b, off, rfl, hbl, hc0⟩ := h.later hbel j (by omega)
      have hnx := numL_back l k j hj
      have hNlt := numL_lt (l.drop (l.length - k))
      rw [List.length_drop, show l.length - (l.length - k) = k from by omega] at hNlt
      obtain ⟨x, hx⟩ : ∃ x, x = l[j]'(by omega) := ⟨_, rfl⟩
      rw [← hx] at hnx hc0
      have hx8 := u8_lt x
      obtain ⟨N, hN⟩ : ∃ N, N = numL (l.drop (l.length - k)) := ⟨_, rfl⟩
      rw [← hN] at hnx hy hNlt
      obtain ⟨q, hq⟩ : ∃ q, q = k / 8 := ⟨_, rfl⟩
      obtain ⟨r, hr⟩ : ∃ r, r = k % 8 := ⟨_, rfl⟩
      obtain ⟨s, hs⟩ : ∃ s, s = 8 * r := ⟨_, rfl⟩
      have hp := wcs_on N x.toNat k q r s (by omega) (by omega) (by omega) hs hNlt x.toNat_lt
      rw [← hnx] at hp
      have Hp := Lib.hid hp
      have hq4 : q < 4 := by omega
      have hq4i : (q : Int) < 4 := by omega
      have c0 := hy.wat q hq4
      have l0 := lim_lt N q
      have e1 : IntKind.i64.wrap ((l.length : Int) - 1) = (l.length : Int) - 1 := IntWalk.i64_in _ (by omega)
      have e2 : IntKind.i64.wrap ((l.length : Int) - 1 - (k : Int)) = (j : Int) := by rw [IntWalk.i64_in _ (by omega)]; omega
      have e2' : (l.length : Int) - 1 - (k : Int) = (j : Int) := by omega
      have e9 : IntKind.i64.wrap (j : Int) = (j : Int) := IntWalk.i64_in _ (by omega)
      have e10 : IntKind.i64.wrap (s : Int) = (s : Int) := IntWalk.i64_in _ (by omega)
      have e11 : IntKind.i64.wrap (r : Int) = (r : Int) := IntWalk.i64_in _ (by omega)
      have e8 : IntKind.i64.wrap (q : Int) = (q : Int) := IntWalk.i64_in _ (by omega)
      have e3 : (k : Int) / 8 = (q : Int) := by omega
      have e4 : (k : Int).tdiv 8 = (q : Int) := by rw [Int.tdiv_eq_ediv_of_nonneg (by omega)]; omega
      have e5 : (k : Int) % 8 = (r : Int) := by omega
      have e6 : (k : Int).tmod 8 = (r : Int) := by rw [Int.tmod_eq_emod_of_nonneg (by omega)]; omega
      have e7 : IntKind.i64.wrap ((r : Int) * 8) = (s : Int) := by rw [IntWalk.i64_in _ (by omega)]; omega
      have e7' : (r : Int) * 8 = (s : Int) := by omega
      have hs56 : s ≤ 56 := by omega
      have hj1 : (j : Int) < (l.length : Int) := by omega
      have hj2 : j < l.length := by omega
      clear hp hnx hN hx hs hr hq hj
      have k0 := fun u : Ext wr => u.cell hc0
      have k1 := fun u : Ext wr => u.cell c0
      go_wp2
      refine wp_region_typed wr 18 (by kernel_rfl) (by kernel_rfl) (Below.refl _ _) ?_; simp only [List.take_succ_cons, List.take_zero, List.take_nil]
      iterate 18 (refine wpX_step (by rfl) (fun K hK => ?_); go_simp; first | (refine hK _ ?_; clear hK K) | (apply Exists.intro; refine ⟨fun _ => ?_, hK _ ?_⟩; fail; clear hK K))
      refine wpX_nil ?_
      intro w1 hw1
      change wpList _ _ _ [_, _] _ _
      have hy1 := hy.kept hw1
      have hz1 := hz.kept hw1
      have hbel1 := hbel.trans (hw1.mono (Nat.le_trans (Nat.le_succ _) (Nat.le_of_lt hy.lt)))
      have c1 := hy1.wat q hq4
      have f1 := hy1.free q
      have hy2 := hy1.set q (.int .u64 (bits .or .u64 (lim N q : Int) (IntKind.u64.wrap ((x.toNat : Int) * 2 ^ s))))
      rw [Hp.out] at hy2
      go_wp2
      go_roundw
      case rel => exact ⟨k + 1, by omega, by go_num, hz1.other _ (by simp) _, hy2, hbel1.setCell (by simp) _⟩
      case measure => simp [intOf]; omega
    · obtain rfl : k = n := by omega
      have hdk : decide ((k : Int) < (k : Int)) = false := by rw [decide_eq_false_iff_not]; omega
      rw [← Hend.out] at hy
      go_wp2_with (first
        | (refine wpList_loadA rfl 73 (.tmp 3) rfl (w.heap.size + 1) rfl aggWord hy (wcs_len _) ?_)
        | (refine wpList_storeA rfl 73 (.tmp 2) (.tmp 31) rfl w.heap.size (wcs (numL (last32 l))) rfl rfl aggWord hz (wcs_len _) rfl (wcs_one _) hbel (by omega) ?_; intro w2 hb2 hbel2 _))
      exact bodyPost_ret (results_blk rfl _ _ w.heap.size aggWord hb2 (wcs_len _) rfl) rfl ⟨rfl, hbel2⟩
end Go.Proofs.Ytohenjgegkgncaa
