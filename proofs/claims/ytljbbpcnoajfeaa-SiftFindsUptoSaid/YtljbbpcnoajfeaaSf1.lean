/- slices.Index and slices.Contains at addresses and at words. -/
import Derived.Test.YtljbbpcnoajfeaaLgc
import Derived.Test.YtljbbpcnoajfeaaWeq
import Derived.Test.YtljbbpcnoajfeaaAeq
import Derived.Deep.Cut
import Derived.Deep.CutBlock
set_option linter.unusedSimpArgs false
set_option linter.unusedVariables false
namespace Go.Proofs.Ytljbbpcnoajfeaa
open Go.RowKit
/-- an address -/
structure Ad8 where
  b : List UInt8
  l : b.length = 8
def adc (a : Ad8) : List Value := by8 a.b
theorem adc_len (a : Ad8) : (adc a).length = 8 := by unfold adc; rw [by8_len, a.l]
theorem aggAd : Agg Try.prog 46 8 := ⟨_, Try.underlying46, rfl, by kernel_rfl⟩
def hasA (l : List Ad8) (A : List UInt8) : Bool := l.any fun x => x.b == A
def hasW (l : List Nat) (N : Nat) : Bool := l.any fun x => decide (x = N)
def IxPost (q : Bool) (w : World) (e : Ending) (w' : World) : Prop := ∃ i : Int, e = .returned (.int .i64 i) ∧ decide (0 ≤ i) = q ∧ Below w.heap.size w w'
set_option maxHeartbeats 2000000 in
set_option maxRecDepth 100000 in
theorem idxA_any (a : Option Addr) (n c : Nat) (l : List Ad8) (hn : l.length = n) (A : List UInt8) (hA : A.length = 8) (w : World) (h : RowOf adc 8 w (.slice a n c) l) (hN : n ≤ 140737488355328) :
    Calls Try.prog 123 #[.slice a n c, .agg (by8 A).toArray] w (IxPost (hasA l A) w) := by
  obtain ⟨AC, hAC⟩ : ∃ C, C = by8 A := ⟨_, rfl⟩
  have hAl : AC.length = 8 := by rw [hAC, by8_len]; exact hA
  obtain ⟨w1, hw1⟩ : ∃ w1, w1 = w.alloc (.cells AC.toArray 46) := ⟨_, rfl⟩
  have z1 : Blk 46 w1 w.heap.size AC := by rw [hw1]; exact Blk.new w _ _
  have hbel : Below w.heap.size w w1 := by rw [hw1]; exact (Below.refl _ _).alloc (Nat.le_refl _) _
  rw [← hAC]
  have Hn := Lib.hid hn
  have H := Lib.hid (h.below hbel)
  have HWe := Lib.hid hw1
  have HAC := Lib.hid hAC
  have HAl := Lib.hid hAl
  clear hn h hw1 hAC hAl
  go_enter Try.func123, Try.ntmps123
  go_wp2_with fail
  rw [← HWe.out]
  have Q0 : Below w1.heap.size w1 w1 := Below.refl _ _
  go_loopw [8] (fun ix wr => ∃ k : Nat, k ≤ n ∧ ix = .int .i64 (k : Int) ∧ Below w1.heap.size w1 wr ∧ Hid (∀ j (hj : j < l.length), j < k → l[j].b ≠ A)) (fun ix _ => n - (intOf ix).toNat)
  case atStart => exact ⟨0, by omega, rfl, Q0, Lib.hid (fun j hj h => by omega)⟩
  case round =>
    clear Q0
    obtain ⟨k, hk, rfl, hb, hno⟩ := hrel
    have bb := Below.then hbel hb
    by_cases hlt : k < n
    · have hki : (k : Int) < (n : Int) := by omega
      have hwi : IntKind.i64.wrap ((k : Int) + 1) = ((k + 1 : Nat) : Int) := by rw [IntWalk.i64_in _ (by omega)]; omega
      have hil : k < l.length := by rw [Hn.out]; exact hlt
      obtain ⟨b, off, rfl, hr⟩ := RowOf.range adc_len (H.out.below hb) k hil
      have r0 := (z1.kept hb).all0
      obtain ⟨X, hX⟩ : ∃ X, X = l[k].b := ⟨_, rfl⟩
      have hX8 : X.length = 8 := by rw [hX]; exact l[k].l
      have hr' : wr.rangeAt b (off + k * 8) (by8 X) := by rw [hX]; exact hr
      have g1 := guard_eq_a A X
      have q1 := run_eq_a A X hA hX8
      obtain ⟨XC, hXC⟩ : ∃ C, C = by8 X := ⟨_, rfl⟩
      have hXl : XC.length = 8 := by rw [hXC, by8_len]; exact hX8
      rw [← hXC] at hr'
      rw [← HAC.out, ← hXC] at g1 q1
      obtain ⟨q, hq⟩ : ∃ q, q = (A == X) := ⟨_, rfl⟩
      rw [← hq] at q1
      have G1 := Lib.hid g1
      have Q1 := Lib.hid q1
      have HR := Lib.hid hr'
      have R0 := Lib.hid r0
      have HXl := Lib.hid hXl
      have hfin : (q = true → hasA l A = true) ∧ (q = false → l[k].b ≠ A) := by
        refine ⟨fun e => ?_, fun e => ?_⟩
        · have hAX : A = X := by rw [hq] at e; simpa using e
          exact List.any_eq_true.2 ⟨_, List.getElem_mem hil, by rw [beq_iff_eq, ← hX]; exact hAX.symm⟩
        · have hAX : ¬ A = X := by rw [hq] at e; simpa using e
          rw [← hX]; exact fun e => hAX e.symm
      have Hfin := Lib.hid hfin
      clear g1 q1 hr' hr r0 hXC hXl hq hX hX8 hfin
      go_upto_region 4 with fail
      refine wp_region_typed wr 6 (by kernel_rfl) (by kernel_rfl) (Below.refl _ _) ?_; simp only [List.take_succ_cons, List.take_zero, List.take_nil]
      (refine wpX_step (by rfl) (fun K hK => ?_); rw [if_pos (by rfl)]; refine ⟨_, fun u => const_loadm _ (.tmp 3) (by rfl) _ _ (by rfl) aggAd HAl.out (rangeAt.ext R0.out u), hK _ ?_⟩; clear hK K; simp only [Act.put, List.setIfInBounds_toArray, List.set_cons_zero, List.set_cons_succ])
      iterate 3 (refine wpX_step (by rfl) (fun K hK => ?_); go_simp; first | (refine hK _ ?_; clear hK K) | (apply Exists.intro; refine ⟨fun _ => ?_, hK _ ?_⟩; fail; clear hK K))
      (refine wpX_step (by rfl) (fun K hK => ?_); rw [if_pos (by rfl)]; refine ⟨_, fun u => const_loadm _ (.tmp 14) (by rfl) _ _ (by rfl) aggAd HXl.out (rangeAt.ext HR.out u), hK _ ?_⟩; clear hK K; simp only [Act.put, List.setIfInBounds_toArray, List.set_cons_zero, List.set_cons_succ])
      (refine wpX_step (by rfl) (fun K hK => ?_); rw [if_pos (by rfl)]; refine ⟨_, fun u => const_eql _ _ _ _ (by rfl) (by rfl) (by rfl) (fun o1 o2 w1 => G1.out o1 o2 w1) (fun w1 => Q1.out w1), hK _ ?_⟩; clear hK K; simp only [Act.put, List.setIfInBounds_toArray, List.set_cons_zero, List.set_cons_succ])
      refine wpX_nil ?_
      intro u2 hb2
      change forallRel u2 [] _ _
      simp only [forallRel, List.drop_succ_cons, List.drop_zero, List.drop_nil]
      try simp only [Act.put, List.setIfInBounds_toArray, List.set_cons_zero, List.set_cons_succ]
      cases q with
      | true =>
        have hf0 := Lib.hid (Hfin.out.1 rfl)
        go_wp2_with fail
        go_ret
        exact ⟨(k : Int), rfl, by rw [hf0.out]; exact decide_eq_true (by omega), Below.then bb hb2⟩
      | false =>
        go_wp2_with fail
        go_roundw
        case rel => exact ⟨k + 1, by omega, by go_num, Below.then hb hb2, Lib.hid (fun j hj h => by
          rcases Nat.lt_succ_iff_lt_or_eq.1 h with h | rfl
          · exact hno.out j hj h
          · exact Hfin.out.2 rfl)⟩
        case measure => simp [intOf]; omega
    · obtain rfl : k = n := by omega
      have hf : hasA l A = false := by
        unfold hasA
        rw [List.any_eq_false]
        intro x hx
        obtain ⟨j, hj, rfl⟩ := List.mem_iff_getElem.1 hx
        rw [beq_iff_eq]
        exact hno.out j hj (by rw [← Hn.out]; exact hj)
      go_wp2_with fail
      go_ret
      exact ⟨-1, rfl, by rw [hf]; rfl, bb⟩
set_option maxHeartbeats 2000000 in
set_option maxRecDepth 100000 in
theorem idxW_any (a : Option Addr) (n c : Nat) (l : List Nat) (hn : l.length = n) (hl : ∀ x ∈ l, x < W256) (A : Nat) (hA : A < W256) (w : World) (h : RowOf wcs 4 w (.slice a n c) l) (hN : n ≤ 140737488355328) :
    Calls Try.prog 124 #[.slice a n c, .agg (wcs A).toArray] w (IxPost (hasW l A) w) := by
  obtain ⟨AC, hAC⟩ : ∃ C, C = wcs A := ⟨_, rfl⟩
  have hAl : AC.length = 4 := by rw [hAC]; exact wcs_len A
  obtain ⟨w1, hw1⟩ : ∃ w1, w1 = w.alloc (.cells AC.toArray 142) := ⟨_, rfl⟩
  have z1 : Blk 142 w1 w.heap.size AC := by rw [hw1]; exact Blk.new w _ _
  have hbel : Below w.heap.size w w1 := by rw [hw1]; exact (Below.refl _ _).alloc (Nat.le_refl _) _
  rw [← hAC]
  have Hn := Lib.hid hn
  have H := Lib.hid (h.below hbel)
  have HWe := Lib.hid hw1
  have HAC := Lib.hid hAC
  have HAl := Lib.hid hAl
  clear hn h hw1 hAC hAl
  go_enter Try.func124, Try.ntmps124
  go_wp2_with fail
  rw [← HWe.out]
  have Q0 : Below w1.heap.size w1 w1 := Below.refl _ _
  go_loopw [8] (fun ix wr => ∃ k : Nat, k ≤ n ∧ ix = .int .i64 (k : Int) ∧ Below w1.heap.size w1 wr ∧ Hid (∀ j (hj : j < l.length), j < k → l[j] ≠ A)) (fun ix _ => n - (intOf ix).toNat)
  case atStart => exact ⟨0, by omega, rfl, Q0, Lib.hid (fun j hj h => by omega)⟩
  case round =>
    clear Q0
    obtain ⟨k, hk, rfl, hb, hno⟩ := hrel
    have bb := Below.then hbel hb
    by_cases hlt : k < n
    · have hki : (k : Int) < (n : Int) := by omega
      have hwi : IntKind.i64.wrap ((k : Int) + 1) = ((k + 1 : Nat) : Int) := by rw [IntWalk.i64_in _ (by omega)]; omega
      have hil : k < l.length := by rw [Hn.out]; exact hlt
      obtain ⟨b, off, rfl, hr⟩ := RowOf.range wcs_len (H.out.below hb) k hil
      have r0 := (z1.kept hb).all0
      obtain ⟨X, hX⟩ : ∃ X, X = l[k] := ⟨_, rfl⟩
      have hX8 : X < W256 := by rw [hX]; exact hl _ (List.getElem_mem hil)
      have hr' : wr.rangeAt b (off + k * 4) (wcs X) := by rw [hX]; exact hr
      have g1 := guardWN A X
      have q1 := eqWN A X hA hX8
      obtain ⟨XC, hXC⟩ : ∃ C, C = wcs X := ⟨_, rfl⟩
      have hXl : XC.length = 4 := by rw [hXC]; exact wcs_len X
      rw [← hXC] at hr'
      rw [← HAC.out, ← hXC] at g1 q1
      obtain ⟨q, hq⟩ : ∃ q, q = decide (A = X) := ⟨_, rfl⟩
      rw [← hq] at q1
      have G1 := Lib.hid g1
      have Q1 := Lib.hid q1
      have HR := Lib.hid hr'
      have R0 := Lib.hid r0
      have HXl := Lib.hid hXl
      have hfin : (q = true → hasW l A = true) ∧ (q = false → l[k] ≠ A) := by
        refine ⟨fun e => ?_, fun e => ?_⟩
        · have hAX : A = X := by rw [hq] at e; simpa using e
          exact List.any_eq_true.2 ⟨_, List.getElem_mem hil, decide_eq_true (by rw [← hX]; exact hAX.symm)⟩
        · have hAX : ¬ A = X := by rw [hq] at e; simpa using e
          rw [← hX]; exact fun e => hAX e.symm
      have Hfin := Lib.hid hfin
      clear g1 q1 hr' hr r0 hXC hXl hq hX hX8 hfin
      go_upto_region 4 with fail
      refine wp_region_typed wr 6 (by kernel_rfl) (by kernel_rfl) (Below.refl _ _) ?_; simp only [List.take_succ_cons, List.take_zero, List.take_nil]
      (refine wpX_step (by rfl) (fun K hK => ?_); rw [if_pos (by rfl)]; refine ⟨_, fun u => const_loadm _ (.tmp 3) (by rfl) _ _ (by rfl) aggWord HAl.out (rangeAt.ext R0.out u), hK _ ?_⟩; clear hK K; simp only [Act.put, List.setIfInBounds_toArray, List.set_cons_zero, List.set_cons_succ])
      iterate 3 (refine wpX_step (by rfl) (fun K hK => ?_); go_simp; first | (refine hK _ ?_; clear hK K) | (apply Exists.intro; refine ⟨fun _ => ?_, hK _ ?_⟩; fail; clear hK K))
      (refine wpX_step (by rfl) (fun K hK => ?_); rw [if_pos (by rfl)]; refine ⟨_, fun u => const_loadm _ (.tmp 14) (by rfl) _ _ (by rfl) aggWord HXl.out (rangeAt.ext HR.out u), hK _ ?_⟩; clear hK K; simp only [Act.put, List.setIfInBounds_toArray, List.set_cons_zero, List.set_cons_succ])
      (refine wpX_step (by rfl) (fun K hK => ?_); rw [if_pos (by rfl)]; refine ⟨_, fun u => const_eql _ _ _ _ (by rfl) (by rfl) (by rfl) (fun o1 o2 w1 => G1.out o1 o2 w1) (fun w1 => Q1.out w1), hK _ ?_⟩; clear hK K; simp only [Act.put, List.setIfInBounds_toArray, List.set_cons_zero, List.set_cons_succ])
      refine wpX_nil ?_
      intro u2 hb2
      change forallRel u2 [] _ _
      simp only [forallRel, List.drop_succ_cons, List.drop_zero, List.drop_nil]
      try simp only [Act.put, List.setIfInBounds_toArray, List.set_cons_zero, List.set_cons_succ]
      cases q with
      | true =>
        have hf0 := Lib.hid (Hfin.out.1 rfl)
        go_wp2_with fail
        go_ret
        exact ⟨(k : Int), rfl, by rw [hf0.out]; exact decide_eq_true (by omega), Below.then bb hb2⟩
      | false =>
        go_wp2_with fail
        go_roundw
        case rel => exact ⟨k + 1, by omega, by go_num, Below.then hb hb2, Lib.hid (fun j hj h => by
          rcases Nat.lt_succ_iff_lt_or_eq.1 h with h | rfl
          · exact hno.out j hj h
          · exact Hfin.out.2 rfl)⟩
        case measure => simp [intOf]; omega
    · obtain rfl : k = n := by omega
      have hf : hasW l A = false := by
        unfold hasW
        rw [List.any_eq_false]
        intro x hx
        obtain ⟨j, hj, rfl⟩ := List.mem_iff_getElem.1 hx
        rw [decide_eq_true_eq]
        exact hno.out j hj (by rw [← Hn.out]; exact hj)
      go_wp2_with fail
      go_ret
      exact ⟨-1, rfl, by rw [hf]; rfl, bb⟩
set_option maxHeartbeats 1000000 in
set_option maxRecDepth 100000 in
theorem containsA_any (a : Option Addr) (n c : Nat) (l : List Ad8) (hn : l.length = n) (A : List UInt8) (hA : A.length = 8) (w : World) (h : RowOf adc 8 w (.slice a n c) l) (hN : n ≤ 140737488355328) :
    Calls Try.prog 95 #[.slice a n c, .agg (by8 A).toArray] w fun e w' => e = .returned (.bool (hasA l A)) ∧ Below w.heap.size w w' := by
  obtain ⟨w1, hw1⟩ : ∃ w1, w1 = w.alloc (.cells (by8 A).toArray 46) := ⟨_, rfl⟩
  have z1 : Blk 46 w1 w.heap.size (by8 A) := by rw [hw1]; exact Blk.new w _ _
  have hbel : Below w.heap.size w w1 := by rw [hw1]; exact (Below.refl _ _).alloc (Nat.le_refl _) _
  have ci := idxA_any a n c l hn A hA w1 (h.below hbel) hN
  obtain ⟨Q, hQ⟩ : ∃ Q, Q = hasA l A := ⟨_, rfl⟩
  rw [← hQ] at ci ⊢
  unfold IxPost at ci
  obtain ⟨AC, hAC⟩ : ∃ C, C = by8 A := ⟨_, rfl⟩
  have hAl : AC.length = 8 := by rw [hAC, by8_len]; exact hA
  rw [← hAC] at ci z1 hw1 ⊢
  have r0 := z1.all0
  have Ci := Lib.hid ci
  have HWe := Lib.hid hw1
  have HAl := Lib.hid hAl
  clear ci hw1 hAl hAC hQ h hn
  go_enter Try.func95, Try.ntmps95
  go_wp2_with (first
    | (rw [← HWe.out])
    | ((with_reducible show wpList _ _ _ (⟨some 6, _, _, _, _, _⟩ :: _) _ _); refine wpList_loadW (o := ⟨some 6, _, _, _, _, _⟩) 46 (.tmp 3) (by rfl) w.heap.size 0 (by rfl) aggAd HAl.out r0 (by rfl) ?_)
    | (go_at_call 123; (with_reducible refine Ci.out.mono ?_); rintro e w2 ⟨i, rfl, hi, b2⟩; subst hi))
  go_ret
  exact ⟨rfl, Below.then hbel b2⟩
set_option maxHeartbeats 1000000 in
set_option maxRecDepth 100000 in
theorem containsW_any (a : Option Addr) (n c : Nat) (l : List Nat) (hn : l.length = n) (hl : ∀ x ∈ l, x < W256) (A : Nat) (hA : A < W256) (w : World) (h : RowOf wcs 4 w (.slice a n c) l) (hN : n ≤ 140737488355328) :
    Calls Try.prog 96 #[.slice a n c, .agg (wcs A).toArray] w fun e w' => e = .returned (.bool (hasW l A)) ∧ Below w.heap.size w w' := by
  obtain ⟨w1, hw1⟩ : ∃ w1, w1 = w.alloc (.cells (wcs A).toArray 142) := ⟨_, rfl⟩
  have z1 : Blk 142 w1 w.heap.size (wcs A) := by rw [hw1]; exact Blk.new w _ _
  have hbel : Below w.heap.size w w1 := by rw [hw1]; exact (Below.refl _ _).alloc (Nat.le_refl _) _
  have ci := idxW_any a n c l hn hl A hA w1 (h.below hbel) hN
  obtain ⟨Q, hQ⟩ : ∃ Q, Q = hasW l A := ⟨_, rfl⟩
  rw [← hQ] at ci ⊢
  unfold IxPost at ci
  obtain ⟨AC, hAC⟩ : ∃ C, C = wcs A := ⟨_, rfl⟩
  have hAl : AC.length = 4 := by rw [hAC]; exact wcs_len A
  rw [← hAC] at ci z1 hw1 ⊢
  have r0 := z1.all0
  have Ci := Lib.hid ci
  have HWe := Lib.hid hw1
  have HAl := Lib.hid hAl
  clear ci hw1 hAl hAC hQ h hn
  go_enter Try.func96, Try.ntmps96
  go_wp2_with (first
    | (rw [← HWe.out])
    | ((with_reducible show wpList _ _ _ (⟨some 6, _, _, _, _, _⟩ :: _) _ _); refine wpList_loadW (o := ⟨some 6, _, _, _, _, _⟩) 142 (.tmp 3) (by rfl) w.heap.size 0 (by rfl) aggWord HAl.out r0 (by rfl) ?_)
    | (go_at_call 124; (with_reducible refine Ci.out.mono ?_); rintro e w2 ⟨i, rfl, hi, b2⟩; subst hi))
  go_ret
  exact ⟨rfl, Below.then hbel b2⟩
end Go.Proofs.Ytljbbpcnoajfeaa
