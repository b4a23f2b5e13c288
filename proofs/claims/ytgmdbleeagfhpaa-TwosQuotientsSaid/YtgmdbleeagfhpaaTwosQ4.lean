/- Words with a sign: SCmp; the sign turned over. -/
import Derived.Test.YtgmdbleeagfhpaaTwosQ3
import Derived.Laws.Bits64
set_option linter.unusedSimpArgs false
set_option linter.unusedVariables false
namespace Go.Proofs.Ytgmdbleeagfhpaa
open Go.RowKit
theorem xor_low (a : Nat) (h : a < 2 ^ 63) : a ^^^ 2 ^ 63 = 2 ^ 63 + a := by
  apply Nat.eq_of_testBit_eq
  intro i
  rw [Nat.testBit_xor, Nat.testBit_two_pow]
  rcases Nat.lt_trichotomy i 63 with hi | hi | hi
  · rw [Nat.testBit_two_pow_add_gt hi, decide_eq_false (by omega)]; simp
  · subst hi; rw [Nat.testBit_two_pow_add_eq]; simp
  · have h1 : a.testBit i = false := Nat.testBit_lt_two_pow (Nat.lt_of_lt_of_le h (Nat.pow_le_pow_right (by omega) (by omega)))
    have h2 : (2 ^ 63 + a).testBit i = false := Nat.testBit_lt_two_pow (Nat.lt_of_lt_of_le (show 2 ^ 63 + a < 2 ^ 64 by omega) (Nat.pow_le_pow_right (by omega) (by omega)))
    rw [h1, h2, decide_eq_false (by omega)]; rfl
theorem xor_sign (a : Nat) (h : a < 18446744073709551616) : a ^^^ 9223372036854775808 = if a < 9223372036854775808 then a + 9223372036854775808 else a - 9223372036854775808 := by
  show a ^^^ 2 ^ 63 = _
  split
  · rename_i h1; rw [xor_low a h1, Nat.add_comm]
  · rename_i h1
    obtain ⟨b, hb⟩ : ∃ b, a = 2 ^ 63 + b := ⟨a - 2 ^ 63, by omega⟩
    have h2 : b < 2 ^ 63 := by omega
    rw [hb, ← xor_low b h2, Nat.xor_assoc, Nat.xor_self, Nat.xor_zero, xor_low b h2]
    omega
def flip (N : Nat) : Nat := if N < 57896044618658097711785492504343953926634992332820282019728792003956564819968 then N + 57896044618658097711785492504343953926634992332820282019728792003956564819968 else N - 57896044618658097711785492504343953926634992332820282019728792003956564819968
theorem flip_lt (N : Nat) (h : N < W256) : flip N < W256 := by unfold flip; unfold W256 at *; split <;> omega
theorem flip_lims (N : Nat) (h : N < W256) : (wcs N).set 3 (.int .u64 ((lim N 3 ^^^ 9223372036854775808 : Nat) : Int)) = wcs (flip N) := by
  have hs := lim_sum N h
  have l0 := lim_lt N 0
  have l1 := lim_lt N 1
  have l2 := lim_lt N 2
  have l3 := lim_lt N 3
  have e : lim (flip N) 0 = lim N 0 ∧ lim (flip N) 1 = lim N 1 ∧ lim (flip N) 2 = lim N 2 ∧ lim (flip N) 3 = lim N 3 ^^^ 9223372036854775808 := by
    rw [xor_sign _ l3]
    rw [lim0 (flip N), lim1 (flip N), lim2 (flip N), lim3 (flip N)]
    generalize lim N 0 = a at *
    generalize lim N 1 = b at *
    generalize lim N 2 = c at *
    generalize lim N 3 = d at *
    unfold flip
    subst hs
    refine ⟨?_, ?_, ?_, ?_⟩ <;> (split <;> (try split) <;> omega)
  unfold wcs limI
  rw [e.1, e.2.1, e.2.2.1, e.2.2.2]
  rfl
theorem bit_sign (N : Nat) (hN : N < W256) : N.testBit 255 = decide (57896044618658097711785492504343953926634992332820282019728792003956564819968 ≤ N) := by
  rw [bit255 N hN, decide_eq_decide]; unfold W256; omega
def scmp (N M : Nat) : Int := cmpI (flip N) (flip M)
theorem scmp_same (N M : Nat) (hN : N < W256) (hM : M < W256) (h : N.testBit 255 = M.testBit 255) : scmp N M = cmpI N M := by
  rw [bit_sign N hN, bit_sign M hM, decide_eq_decide] at h
  unfold scmp cmpI flip
  unfold W256 at hN hM
  split <;> split <;> (try split) <;> (try split) <;> (try split) <;> (try split) <;> first | rfl | omega
theorem scmp_other (N M : Nat) (hN : N < W256) (hM : M < W256) (h : N.testBit 255 ≠ M.testBit 255) : scmp N M = cmpI M N := by
  rw [bit_sign N hN, bit_sign M hM, ne_eq, decide_eq_decide] at h
  unfold scmp cmpI flip
  unfold W256 at hN hM
  split <;> split <;> (try split) <;> (try split) <;> (try split) <;> (try split) <;> first | rfl | omega
set_option maxHeartbeats 400000 in
set_option maxRecDepth 100000 in
theorem scmp_any (N M : Nat) (hN : N < W256) (hM : M < W256) (w : World) :
    Calls Try.prog 17 #[wv N, wv M] w fun e w' => e = .returned (.int .i64 (scmp N M)) ∧ Below w.heap.size w w' := by
  obtain ⟨hb3, hd3, hbel3⟩ := box2 w N M
  show Calls Try.prog 17 #[.agg (wcs N).toArray, .agg (wcs M).toArray] w _
  obtain ⟨w3, hw3⟩ : ∃ w3, w3 = (w.alloc (.cells (wcs N).toArray 24)).alloc (.cells (wcs M).toArray 24) := ⟨_, rfl⟩
  rw [← hw3] at hb3 hd3 hbel3
  have k0 := fun u : Ext w3 => u.cell (hb3.wat 0 (by omega))
  have k1 := fun u : Ext w3 => u.cell (hb3.wat 1 (by omega))
  have k2 := fun u : Ext w3 => u.cell (hb3.wat 2 (by omega))
  have k3 := fun u : Ext w3 => u.cell (hb3.wat 3 (by omega))
  have m0 := fun u : Ext w3 => u.cell (hd3.wat 0 (by omega))
  have m1 := fun u : Ext w3 => u.cell (hd3.wat 1 (by omega))
  have m2 := fun u : Ext w3 => u.cell (hd3.wat 2 (by omega))
  have m3 := fun u : Ext w3 => u.cell (hd3.wat 3 (by omega))
  have cN := fun w => minus_any N w
  have cM := fun w => minus_any M w
  by_cases hne : N.testBit 255 = M.testBit 255
  · have hs := scmp_same N M hN hM hne
    rw [← hne] at cM
    generalize N.testBit 255 = b at *
    have CN := Lib.hid cN
    have CM := Lib.hid cM
    have Hs := Lib.hid hs
    clear cN cM hs hne
    go_enter Try.func17, Try.ntmps17
    go_wp2
    rw [← hw3]
    clear hw3
    refine wp_region_typed w3 5 (by kernel_rfl) (by kernel_rfl) (Below.refl _ _) ?_; simp only [List.take_succ_cons, List.take_zero, List.take_nil]
    iterate 1 (refine wpX_step (by rfl) (fun K hK => ?_); go_simp; first | (refine hK _ ?_; clear hK K) | (apply Exists.intro; refine ⟨fun _ => ?_, hK _ ?_⟩; fail; clear hK K))
    (refine wpX_step (by rfl) (fun K hK => ?_); go_simp; first | (refine hK _ ?_; clear hK K) | (apply Exists.intro; refine ⟨fun _ => ?_, hK _ ?_⟩; exact CN.out _; clear hK K))
    iterate 1 (refine wpX_step (by rfl) (fun K hK => ?_); go_simp; first | (refine hK _ ?_; clear hK K) | (apply Exists.intro; refine ⟨fun _ => ?_, hK _ ?_⟩; fail; clear hK K))
    (refine wpX_step (by rfl) (fun K hK => ?_); go_simp; first | (refine hK _ ?_; clear hK K) | (apply Exists.intro; refine ⟨fun _ => ?_, hK _ ?_⟩; exact CM.out _; clear hK K))
    iterate 1 (refine wpX_step (by rfl) (fun K hK => ?_); go_simp; first | (refine hK _ ?_; clear hK K) | (apply Exists.intro; refine ⟨fun _ => ?_, hK _ ?_⟩; fail; clear hK K))
    refine wpX_end rfl ?_
    rintro w4 hw4
    simp only [List.reverse_nil, forallRel]
    have hb4 := hb3.kept hw4
    have hd4 := hd3.kept hw4
    have hbel4 := hbel3.trans (hw4.mono hbel3.size)
    clear k0 k1 k2 k3 m0 m1 m2 m3
    go_wp2_with (first
      | (refine wpList_loadA (o := ⟨some 13, _, _, _, _, _⟩) (by rfl) 24 (.tmp 2) (by rfl) (w.heap.size) (by rfl) aggWord hb4 (wcs_len _) ?_)
      | (refine wpList_loadA (o := ⟨some 14, _, _, _, _, _⟩) (by rfl) 24 (.tmp 3) (by rfl) (w.heap.size + 1) (by rfl) aggWord hd4 (wcs_len _) ?_)
      | (go_at_call 69; (with_reducible refine (cmp_l N M hN hM _).mono ?_); rintro e w5 ⟨rfl, b5⟩; have hbel5 := hbel4.trans (b5.mono hbel4.size)))
    go_ret
    exact ⟨by rw [Hs.out]; rfl, hbel5⟩
  · have hs := scmp_other N M hN hM hne
    have hb' : (N.testBit 255 == M.testBit 255) = false := by rw [beq_eq_false_iff_ne]; exact hne
    generalize N.testBit 255 = b at *
    generalize M.testBit 255 = c at *
    have hne2 : (b != c) = true := by simpa using hne
    have CN := Lib.hid cN
    have CM := Lib.hid cM
    have Hs := Lib.hid hs
    clear cN cM hs hne
    go_enter Try.func17, Try.ntmps17
    go_wp2
    rw [← hw3]
    clear hw3
    refine wp_region_typed w3 5 (by kernel_rfl) (by kernel_rfl) (Below.refl _ _) ?_; simp only [List.take_succ_cons, List.take_zero, List.take_nil]
    iterate 1 (refine wpX_step (by rfl) (fun K hK => ?_); go_simp; first | (refine hK _ ?_; clear hK K) | (apply Exists.intro; refine ⟨fun _ => ?_, hK _ ?_⟩; fail; clear hK K))
    (refine wpX_step (by rfl) (fun K hK => ?_); go_simp; first | (refine hK _ ?_; clear hK K) | (apply Exists.intro; refine ⟨fun _ => ?_, hK _ ?_⟩; exact CN.out _; clear hK K))
    iterate 1 (refine wpX_step (by rfl) (fun K hK => ?_); go_simp; first | (refine hK _ ?_; clear hK K) | (apply Exists.intro; refine ⟨fun _ => ?_, hK _ ?_⟩; fail; clear hK K))
    (refine wpX_step (by rfl) (fun K hK => ?_); go_simp; first | (refine hK _ ?_; clear hK K) | (apply Exists.intro; refine ⟨fun _ => ?_, hK _ ?_⟩; exact CM.out _; clear hK K))
    iterate 1 (refine wpX_step (by rfl) (fun K hK => ?_); go_simp; first | (refine hK _ ?_; clear hK K) | (apply Exists.intro; refine ⟨fun _ => ?_, hK _ ?_⟩; fail; clear hK K))
    refine wpX_end rfl ?_
    rintro w4 hw4
    simp only [List.reverse_nil, forallRel]
    have hb4 := hb3.kept hw4
    have hd4 := hd3.kept hw4
    have hbel4 := hbel3.trans (hw4.mono hbel3.size)
    clear k0 k1 k2 k3 m0 m1 m2 m3
    go_wp2_with (first
      | (refine wpList_loadA (o := ⟨some 10, _, _, _, _, _⟩) (by rfl) 24 (.tmp 3) (by rfl) (w.heap.size + 1) (by rfl) aggWord hd4 (wcs_len _) ?_)
      | (refine wpList_loadA (o := ⟨some 11, _, _, _, _, _⟩) (by rfl) 24 (.tmp 2) (by rfl) (w.heap.size) (by rfl) aggWord hb4 (wcs_len _) ?_)
      | (go_at_call 69; (with_reducible refine (cmp_l M N hM hN _).mono ?_); rintro e w5 ⟨rfl, b5⟩; have hbel5 := hbel4.trans (b5.mono hbel4.size)))
    go_ret
    exact ⟨by rw [Hs.out]; rfl, hbel5⟩
end Go.Proofs.Ytgmdbleeagfhpaa
