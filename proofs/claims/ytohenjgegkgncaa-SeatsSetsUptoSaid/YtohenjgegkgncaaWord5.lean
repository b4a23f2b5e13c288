/- word.Read and the reference's WRead. -/
import Derived.Test.YtohenjgegkgncaaWord4
set_option linter.unusedSimpArgs false
set_option linter.unusedVariables false
namespace Go.Proofs.Ytohenjgegkgncaa
open Go.RowKit
theorem u64_or_add (x y k : Nat) (hx : x < 18446744073709551616) (hk : k ≤ 64) (h1 : x % 2 ^ k = 0) (h2 : y < 2 ^ k) : bits .or .u64 (x : Int) (y : Int) = ((x + y : Nat) : Int) := by
  have h3 : 2 ^ k ≤ 2 ^ 64 := Nat.pow_le_pow_right (by omega) hk
  rw [u64_or_nat x y hx (by omega), nat_join k x y h1 h2]
theorem lim_push0 (N x : Nat) (hx : x < 256) : bits .or .u64 (IntKind.u64.wrap ((lim N 0 : Int) * 256)) (x : Int) = (lim (N * 256 + x) 0 : Int) := by
  have e : IntKind.u64.wrap ((lim N 0 : Int) * 256) = ((lim N 0 * 256 % 18446744073709551616 : Nat) : Int) := by rw [IntKind.wrap_u64]; omega
  rw [e, u64_or_add _ x 8 (Nat.mod_lt _ (by omega)) (by omega) (by omega) (by omega), lim0, lim0]
  omega
theorem lim_push (N x i j : Nat) (hx : x < 256) (hj : j = i + 1) : bits .or .u64 (IntKind.u64.wrap ((lim N j : Int) * 256)) ((lim N i : Int) / 72057594037927936) = (lim (N * 256 + x) j : Int) := by
  have e : IntKind.u64.wrap ((lim N j : Int) * 256) = ((lim N j * 256 % 18446744073709551616 : Nat) : Int) := by rw [IntKind.wrap_u64]; omega
  have e2 : (lim N i : Int) / 72057594037927936 = ((lim N i / 72057594037927936 : Nat) : Int) := by omega
  have hl := lim_lt N i
  rw [e, e2, u64_or_add _ _ 8 (Nat.mod_lt _ (by omega)) (by omega) (by omega) (by omega)]
  subst hj
  have hq : N / 2 ^ (64 * (i + 1)) = N / 2 ^ (64 * i) / 18446744073709551616 := by
    rw [Nat.div_div_eq_div_mul, show (18446744073709551616 : Nat) = 2 ^ 64 from rfl, ← Nat.pow_add, show 64 * i + 64 = 64 * (i + 1) from by omega]
  have hr : (N * 256 + x) / 2 ^ (64 * (i + 1)) = N / 2 ^ (64 * i) / 72057594037927936 := by
    have : 2 ^ (64 * (i + 1)) = 256 * (2 ^ (64 * i) * 72057594037927936) := by
      rw [show (256 : Nat) = 2 ^ 8 from rfl, show (72057594037927936 : Nat) = 2 ^ 56 from rfl, ← Nat.pow_add, ← Nat.pow_add, show 8 + (64 * i + 56) = 64 * (i + 1) from by omega]
    rw [this, ← Nat.div_div_eq_div_mul, ← Nat.div_div_eq_div_mul, show (N * 256 + x) / 256 = N from by omega]
  unfold lim
  rw [hq, hr]
  generalize N / 2 ^ (64 * i) = y
  omega
theorem wcs_push (N x : Nat) (hx : x < 256) :
    [Value.int .u64 (bits .or .u64 (IntKind.u64.wrap ((lim N 0 : Int) * 256)) (x : Int)),
     .int .u64 (bits .or .u64 (IntKind.u64.wrap ((lim N 1 : Int) * 256)) ((lim N 0 : Int) / 72057594037927936)),
     .int .u64 (bits .or .u64 (IntKind.u64.wrap ((lim N 2 : Int) * 256)) ((lim N 1 : Int) / 72057594037927936)),
     .int .u64 (bits .or .u64 (IntKind.u64.wrap ((lim N 3 : Int) * 256)) ((lim N 2 : Int) / 72057594037927936))] = wcs (N * 256 + x) := by
  rw [lim_push0 N x hx, lim_push N x 0 1 hx rfl, lim_push N x 1 2 hx rfl, lim_push N x 2 3 hx rfl]; rfl
theorem numL_next (l : List UInt8) (k : Nat) (h : k < l.length) : numL (l.take (k + 1)) = numL (l.take k) * 256 + l[k].toNat := by
  rw [List.take_succ_eq_append_getElem h, numL_snoc]
/-- the last 32 bytes at most -/
def last32 (l : List UInt8) : List UInt8 := l.drop (l.length - 32)
theorem last_small (l : List UInt8) (h : l.length ≤ 32) : last32 l = l := by
  unfold last32; rw [show l.length - 32 = 0 from by omega]; rfl
theorem last_len (l : List UInt8) : (last32 l).length ≤ 32 := by unfold last32; rw [List.length_drop]; omega
set_option maxHeartbeats 400000 in
set_option maxRecDepth 100000 in
theorem wread_any (a : Option Addr) (c : Nat) (l : List UInt8) (w : World) (h : Bytes w (.slice a l.length c) l) :
    Calls Try.prog 115 #[.slice a l.length c] w fun e w' => e = .returned (wv (numL (last32 l))) ∧ Below w.heap.size w w' := by
  obtain ⟨d, hd⟩ : ∃ d, d = l.length - 32 := ⟨_, rfl⟩
  obtain ⟨M, hM⟩ : ∃ M, M = last32 l := ⟨_, rfl⟩
  obtain ⟨n, hn⟩ : ∃ n, n = l.length - d := ⟨_, rfl⟩
  have hMn : M.length = n := by rw [hM, last32, List.length_drop]; omega
  obtain ⟨a', c', hs, hr⟩ := RowOf.from elU8 h d (by omega) (d : Int) rfl
  rw [← hn] at hr hs
  have hr : Bytes w (.slice a' n c') M := by rw [hM, last32, ← hd]; exact hr
  have hz0 : Blk 73 (((w.alloc (.cells z4.toArray 73)).alloc (.cells z4.toArray 73))) w.heap.size z4 := (Blk.new w 73 z4).alloc _
  have hy0 : Blk 73 (((w.alloc (.cells z4.toArray 73)).alloc (.cells z4.toArray 73))) (w.heap.size + 1) z4 := by
    have := Blk.new (w.alloc (.cells z4.toArray 73)) 73 z4; simpa using this
  have hbel0 : Below w.heap.size w ((w.alloc (.cells z4.toArray 73)).alloc (.cells z4.toArray 73)) := ((Below.refl _ _).alloc (Nat.le_refl _) _).alloc (by simp) _
  have hlm := h.small
  unfold maxLen at hlm
  have e0 : max (0 : Int) ((l.length : Int) - 32) = (d : Int) := by omega
  have e1 : IntKind.i64.wrap ((l.length : Int) - 32) = (l.length : Int) - 32 := IntWalk.i64_in _ (by omega)
  rw [← hM]
  have hn32 : n ≤ 32 := by omega
  have HM := Lib.hid hMn
  clear hM hMn hd hn h
  go_enter Try.func115, Try.ntmps115
  go_wp2
  go_loopw [5, 14] (fun _ i wr => ∃ k : Nat, k ≤ n ∧ i = .int .i64 (k : Int) ∧ Blk 73 wr w.heap.size z4 ∧ Blk 73 wr (w.heap.size + 1) (wcs (numL (M.take k))) ∧ Below w.heap.size w wr) (fun _ i _ => n - (intOf i).toNat)
  case atStart => exact ⟨0, by omega, rfl, hz0, by rw [List.take_zero, show numL [] = 0 from rfl, wcs_small 0 (by omega)]; exact hy0, hbel0⟩
  case round =>
    clear hz0 hy0 hbel0
    obtain ⟨k, hk, rfl, hz, hy, hbel⟩ := hrel
    by_cases hlt : k < n
    · obtain ⟨b, off, rfl, hbl, hc0⟩ := hr.later hbel k (by rw [HM.out]; exact hlt)
      have hnx := numL_next M k (by rw [HM.out]; exact hlt)
      obtain ⟨x, hx⟩ : ∃ x, x = M[k]'(by rw [HM.out]; exact hlt) := ⟨_, rfl⟩
      rw [← hx] at hnx hc0
      have hx8 := u8_lt x
      obtain ⟨N, hN⟩ : ∃ N, N = numL (M.take k) := ⟨_, rfl⟩
      rw [← hN] at hnx hy
      have hp := wcs_push N x.toNat x.toNat_lt
      rw [← hnx] at hp
      have Hp := Lib.hid hp
      have c0 := hy.wat 0 (by omega)
      have c1 := hy.wat 1 (by omega)
      have c2 := hy.wat 2 (by omega)
      have c3 := hy.wat 3 (by omega)
      have l0 := lim_lt N 0
      have l1 := lim_lt N 1
      have l2 := lim_lt N 2
      have l3 := lim_lt N 3
      clear hp hnx hN hx
      go_wp2_with (first
        | (refine wpList_storeA rfl 73 (.tmp 3) (.tmp 45) rfl (w.heap.size + 1) _ rfl rfl aggWord hy (by rw [Hp.out]; rfl) rfl (by rw [Hp.out]; exact wcs_one _) hbel (by omega) ?_; intro w2 hb2 hbel2 hg2))
      rw [Hp.out] at hb2
      go_roundw
      case rel => exact ⟨k + 1, by omega, by go_num, hz.grown hg2 (by simp), hb2, hbel2⟩
      case measure => simp [intOf]; omega
    · obtain rfl : k = n := by omega
      have hdk : decide ((k : Int) < (k : Int)) = false := by rw [decide_eq_false_iff_not]; omega
      rw [List.take_of_length_le (by rw [HM.out]; exact Nat.le_refl _)] at hy
      go_wp2_with (first
        | (refine wpList_loadA rfl 73 (.tmp 3) rfl (w.heap.size + 1) rfl aggWord hy (wcs_len _) ?_)
        | (refine wpList_storeA rfl 73 (.tmp 2) (.tmp 47) rfl w.heap.size (wcs (numL M)) rfl rfl aggWord hz (wcs_len _) rfl (wcs_one _) hbel (by omega) ?_; intro w2 hb2 hbel2 _))
      exact bodyPost_ret (results_blk rfl _ _ w.heap.size aggWord hb2 (wcs_len _) rfl) rfl ⟨rfl, hbel2⟩
end Go.Proofs.Ytohenjgegkgncaa
