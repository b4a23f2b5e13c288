/- The reference's routes: a road; nothing, something else. -/
import Derived.Test.YtnhbfnegpjkojaaRts1
set_option linter.unusedSimpArgs false
set_option linter.unusedVariables false
namespace Go.Proofs.Ytnhbfnegpjkojaa
open Go.RowKit
def RtT (l : List Rt) : Ty := fun v w => ∃ (a : Option Addr) (n c : Nat), v = .slice a n c ∧ RowOf rcells 2 w (.slice a n c) l
theorem RtT.mono (l : List Rt) : Mono (RtT l) := fun _ _ _ ⟨a, n, c, h, h2⟩ hb => ⟨a, n, c, h, h2.below hb⟩
def RtTup (l : List Rt) : Ty := fun v w => ∃ (a : Option Addr) (n c : Nat), v = .tuple #[.slice a n c, .bool true] ∧ RowOf rcells 2 w (.slice a n c) l
theorem RtTup.mono (l : List Rt) : Mono (RtTup l) := fun _ _ _ ⟨a, n, c, h, h2⟩ hb => ⟨a, n, c, h, h2.below hb⟩
section
variable (N : Nat) (hN : N ≤ 1000000000) (pa va ka : Option Addr) (pn pc vn vc kn kc : Nat) (p v : List UInt8) (ks : List Nd) (hpn : p.length = pn) (hvn : v.length = vn) (hkn : ks.length = kn) (q : List UInt8) (w : World)
  (hp : Bytes w (.slice pa pn pc) p) (hv : Bytes w (.slice va vn vc) v) (hk : RowOf ndcells 4 w (.slice ka kn kc) ks) (hks : ∀ k ∈ ks, IsNd w k)
include hN hpn hkn hp hk hks in
set_option maxHeartbeats 2000000 in
set_option maxRecDepth 100000 in
theorem routes_road (ih : ∀ k ∈ ks, RtsC N k) (hq : q.length + 1 + pn + bulkNL ks ≤ N) : Calls Try.prog 61 #[.agg #[.int .i64 2, .slice pa pn pc, .slice va vn vc, .slice ka kn kc], .string ⟨q.toArray⟩] w (RtsPost q (rts (.mk 2 (.slice pa pn pc) p (.slice va vn vc) v (.slice ka kn kc) ks)) w) := by
  have hR : rts (.mk 2 (.slice pa pn pc) p (.slice va vn vc) v (.slice ka kn kc) ks) = if half p = false then none else if kn = 1 then (rtsL ks).map fun l => pre p l.flatten else none := by unfold rts; rw [hkn]; simp
  obtain ⟨O, hO⟩ : ∃ O, O = rts (.mk 2 (.slice pa pn pc) p (.slice va vn vc) v (.slice ka kn kc) ks) := ⟨_, rfl⟩
  rw [← hO]
  rw [hR] at hO
  have HO := Lib.hid hO
  clear hO
  obtain ⟨w1, hw1⟩ : ∃ w1, w1 = w.alloc (.cells #[.int .i64 2, .slice pa pn pc, .slice va vn vc, .slice ka kn kc] 25) := ⟨_, rfl⟩
  have hz : Blk 25 w1 w.heap.size [.int .i64 2, .slice pa pn pc, .slice va vn vc, .slice ka kn kc] := by rw [hw1]; exact Blk.new w _ _
  have hbel : Below w.heap.size w w1 := by rw [hw1]; exact (Below.refl _ _).alloc (Nat.le_refl _) _
  have k1 := (hz.cell 1).trans (show _ = some (Value.slice pa pn pc) from rfl)
  rw [hw1] at k1
  have Hw1 := Lib.hid hw1
  have Hpn := Lib.hid hpn
  have Hkn := Lib.hid hkn
  have Hq := Lib.hid hq
  clear hw1 hR
  go_enter Try.func61, Try.ntmps61
  go_wp2_with fail
  rw [← Hw1.out]
  go_loopw [16] (fun ix wr => ∃ k : Nat, k ≤ pn ∧ ix = .int .i64 (k : Int) ∧ half (p.take k) = true ∧ Below w.heap.size w wr ∧ Blk 25 wr w.heap.size [.int .i64 2, .slice pa pn pc, .slice va vn vc, .slice ka kn kc]) (fun ix _ => pn - (intOf ix).toNat)
  case atStart => exact ⟨0, by omega, rfl, rfl, hbel, hz⟩
  case round =>
    obtain ⟨k, hkk, rfl, hall, hbr, hzr⟩ := hrel
    have k0 := (hzr.cell 0).trans (show _ = some (Value.int .i64 2) from rfl)
    by_cases hlt : k < pn
    · have hki : (k : Int) < (pn : Int) := by omega
      have hkl : k < p.length := by rw [Hpn.out]; exact hlt
      obtain ⟨b, off, rfl, hc⟩ := Bytes.at (hp.below hbr) k hkl
      obtain ⟨x, hx⟩ : ∃ x, x = p[k] := ⟨_, rfl⟩
      rw [← hx] at hc
      have hst := half_step p k hkl
      rw [hall, ← hx, Bool.true_and] at hst
      have Hx := Lib.hid hx
      by_cases h15 : x.toNat ≤ 15
      · have hi15 : (x.toNat : Int) ≤ 15 := by omega
        rw [decide_eq_true h15] at hst
        clear hx hall
        go_wp2
        go_roundw
        case rel => exact ⟨k + 1, by omega, by go_num, hst, hbr, hzr⟩
        case measure => simp [intOf]; omega
      · have hi15 : (15 : Int) < (x.toNat : Int) := by omega
        have hRf : half p = false := half_not hkl (by rw [← Hx.out]; exact h15)
        have hOn : O = none := by rw [HO.out, if_pos hRf]
        subst hOn
        clear hx hall hst hRf
        go_wp2
        go_ret2
        exact ⟨hbr, rfl⟩
    · obtain rfl : k = pn := by omega
      have hRt : ¬ half p = false := by rw [← Hpn.out, List.take_length] at hall; rw [hall]; simp
      have hO2 : O = if kn = 1 then (rtsL ks).map fun l => pre p l.flatten else none := by rw [HO.out, if_neg hRt]
      have HO2 := Lib.hid hO2
      have m1 := (hzr.cell 1).trans (show _ = some (Value.slice pa k pc) from rfl)
      have m3 := (hzr.cell 3).trans (show _ = some (Value.slice ka kn kc) from rfl)
      clear hRt hO2 HO hall hlt hkn
      by_cases h1 : kn = 1
      · subst h1
        obtain ⟨y, rfl⟩ := List.length_eq_one_iff.1 Hkn.out
        obtain ⟨bk, ok, rfl, hr⟩ := RowOf.range ndcells_len (hk.below hbr) 0 (by simp)
        simp only [List.getElem_cons_zero, Nat.zero_mul, Nat.add_zero] at hr
        have hIs := (hks y List.mem_cons_self).kept hbr
        have hbk : bulkNL [y] = bulkN y := by simp [bulkNL]
        have c2 := fun (u : Ext wr) => ih y List.mem_cons_self (q ++ p) u.val (u.nd hIs) (by rw [hbk] at hq; rw [List.length_append, Hpn.out]; omega)
        have c1 := fun u : Ext wr => run_str (P := Try.prog) (src := 22) (dst := 9) elU8.ht (by kernel_rfl) (by kernel_rfl) (u.row (hp.below hbr))
        obtain ⟨S1, hS1⟩ : ∃ S : ByteArray, S = ⟨(q ++ p).toArray⟩ := ⟨_, rfl⟩
        simp only [← hS1] at c2
        rw [← ba_add] at hS1
        have hsm : ¬ 9223372036854775807 < q.length + k := by have := Hq.out; omega
        have hadd : (⟨q.toArray⟩ ++ ⟨p.toArray⟩ : ByteArray) = S1 := hS1.symm
        have hKl := ndcells_len y
        obtain ⟨K, hK⟩ : ∃ K, K = ndcells y := ⟨_, rfl⟩
        simp only [← hK] at hr hKl c2
        have j1 := fun u : Ext wr => u.cell m1
        have j3 := fun u : Ext wr => u.cell m3
        have HKl := Lib.hid hKl
        have Hr := Lib.hid hr
        cases hy : rts y with
        | none =>
          have hOn : O = none := by rw [HO2.out, if_pos rfl, rtsL_none List.mem_cons_self hy]; rfl
          subst hOn
          rw [hy] at c2
          have c4 : ∀ u : Ext wr, Calls Try.prog 61 #[.agg K.toArray, .string S1] u.val fun e w' => e = .returned (.tuple #[.slice none 0 0, .bool false]) ∧ Below u.val.heap.size u.val w' := fun u => (c2 u).mono fun _ _ h => ⟨h.2, h.1⟩
          have C4 := Lib.hid c4
          clear hS1 hK hIs hbk hq hr hKl c2 c4 hy hk hks ih
          go_wp2_with fail
          clear m1 m3
          refine wp_region_typed wr 12 (by kernel_rfl) (by kernel_rfl) (Below.refl _ _) ?_; simp only [List.take_succ_cons, List.take_zero, List.take_nil]
          iterate 3 (refine wpX_step (by rfl) (fun K hK => ?_); go_simp; first | (refine hK _ ?_; clear hK K) | (apply Exists.intro; refine ⟨fun _ => ?_, hK _ ?_⟩; fail; clear hK K))
          (refine wpX_step (by rfl) (fun K hK => ?_); rw [if_pos (by rfl)]; refine ⟨_, fun u => const_loadm _ (.tmp 63) (by rfl) _ _ (by rfl) aggNode HKl.out (rangeAt.ext Hr.out u), hK _ ?_⟩; clear hK K; simp only [Act.put, List.setIfInBounds_toArray, List.set_cons_zero, List.set_cons_succ])
          iterate 5 (refine wpX_step (by rfl) (fun K hK => ?_); go_simp; first | (refine hK _ ?_; clear hK K) | (apply Exists.intro; refine ⟨fun _ => ?_, hK _ ?_⟩; fail; clear hK K))
          (refine wpX_step (by rfl) (fun K hK => ?_); go_simp; first | (refine hK _ ?_; clear hK K) | (apply Exists.intro; refine ⟨fun _ => ?_, hK _ ?_⟩; exact C4.out _; clear hK K))
          iterate 2 (refine wpX_step (by rfl) (fun K hK => ?_); go_simp; first | (refine hK _ ?_; clear hK K) | (apply Exists.intro; refine ⟨fun _ => ?_, hK _ ?_⟩; fail; clear hK K))
          refine wpX_nil ?_
          intro u2 hb2
          simp only [List.reverse_nil, forallRel]
          change wpList _ _ _ [_, _] _ _
          go_wp2_with fail
          go_ret2
          exact ⟨Below.then hbr hb2, rfl⟩
        | some l =>
          have hOn : O = some (pre p l) := by rw [HO2.out, if_pos rfl]; simp [rtsL, hy]
          subst hOn
          rw [hy] at c2
          have C2 := Lib.hid c2
          clear hS1 hK hIs hbk hq hr hKl c2 hy hk hks ih
          go_wp2_with fail
          clear m1 m3
          refine wp_region_typed wr 12 (by kernel_rfl) (by kernel_rfl) (Below.refl _ _) ?_; simp only [List.take_succ_cons, List.take_zero, List.take_nil]
          iterate 3 (refine wpX_step (by rfl) (fun K hK => ?_); go_simp; first | (refine hK _ ?_; clear hK K) | (apply Exists.intro; refine ⟨fun _ => ?_, hK _ ?_⟩; fail; clear hK K))
          (refine wpX_step (by rfl) (fun K hK => ?_); rw [if_pos (by rfl)]; refine ⟨_, fun u => const_loadm _ (.tmp 63) (by rfl) _ _ (by rfl) aggNode HKl.out (rangeAt.ext Hr.out u), hK _ ?_⟩; clear hK K; simp only [Act.put, List.setIfInBounds_toArray, List.set_cons_zero, List.set_cons_succ])
          iterate 5 (refine wpX_step (by rfl) (fun K hK => ?_); go_simp; first | (refine hK _ ?_; clear hK K) | (apply Exists.intro; refine ⟨fun _ => ?_, hK _ ?_⟩; fail; clear hK K))
          refine wpX_rel 70 (RtTup (pre (q ++ p) l)) rfl (of_decide_eq_true rfl) (RtTup.mono _) (fun w6 hw6 => ?_) ?_
          · simp only [relOf, List.filter_nil, forallRel]
            refine ⟨rfl, ?_⟩
            go_simp
            refine (C2.out ⟨w6, hw6⟩).mono ?_
            rintro e w7 ⟨b7, a, n, c, rfl, h7⟩
            exact ⟨_, rfl, ⟨a, n, c, rfl, h7⟩, b7⟩
          refine wpX_rel 71 (RtT (pre (q ++ p) l)) rfl (of_decide_eq_true rfl) (RtT.mono _) (fun w6 hw6 => ?_) ?_
          · change forallRel w6 [(70, _)] _ _
            rintro v73 ⟨a, n, c, rfl, h7⟩
            simp only [forallRel]
            refine ⟨rfl, ?_⟩
            go_simp
            exact ⟨Below.refl _ _, a, n, c, rfl, h7⟩
          refine wpX_eq (.bool true) (fun w6 hw6 => ?_) ?_
          · change forallRel w6 [(70, _)] _ _
            rintro v73 ⟨a, n, c, rfl, h7⟩
            simp only [forallRel]
            refine ⟨rfl, ?_⟩
            go_simp
            exact Below.refl _ _
          refine wpX_nil ?_
          intro u2 hb2 v70 _ v71 h71
          change wpList _ _ _ [_, _] _ _
          obtain ⟨a, n, c, rfl, h7⟩ := h71
          go_wp2_with fail
          go_ret2
          exact ⟨Below.then hbr hb2, a, n, c, rfl, by rw [pre_pre]; exact h7⟩
      · have h1i : ((kn : Int) == 1) = false := by rw [beq_eq_false_iff_ne]; omega
        have hOn : O = none := by rw [HO2.out, if_neg h1]
        subst hOn
        go_wp2_with fail
        go_ret2
        exact ⟨hbr, rfl⟩
include hpn hp in
set_option maxHeartbeats 2000000 in
set_option maxRecDepth 100000 in
theorem routes_odd (kd : Int) (h1 : kd ≠ 1) (h2 : kd ≠ 2) (h3 : kd = 3 → kn ≠ 16) : Calls Try.prog 61 #[.agg #[.int .i64 kd, .slice pa pn pc, .slice va vn vc, .slice ka kn kc], .string ⟨q.toArray⟩] w (RtsPost q (if kd = 0 then some [] else none) w) := by
  obtain ⟨O, hO⟩ : ∃ O : Option (List Rt), O = if kd = 0 then some [] else none := ⟨_, rfl⟩
  rw [← hO]
  have HO := Lib.hid hO
  have H3 := Lib.hid h3
  have e1 : (kd == 1) = false := by rw [beq_eq_false_iff_ne]; exact h1
  have e2 : (kd == 2) = false := by rw [beq_eq_false_iff_ne]; exact h2
  obtain ⟨w1, hw1⟩ : ∃ w1, w1 = w.alloc (.cells #[.int .i64 kd, .slice pa pn pc, .slice va vn vc, .slice ka kn kc] 25) := ⟨_, rfl⟩
  have hz : Blk 25 w1 w.heap.size [.int .i64 kd, .slice pa pn pc, .slice va vn vc, .slice ka kn kc] := by rw [hw1]; exact Blk.new w _ _
  have hbel : Below w.heap.size w w1 := by rw [hw1]; exact (Below.refl _ _).alloc (Nat.le_refl _) _
  have k1 := (hz.cell 1).trans (show _ = some (Value.slice pa pn pc) from rfl)
  rw [hw1] at k1
  have hnn : pn ≤ 9223372036854775807 := by have h1 := hp.fits.2.1; have h2 := hp.fits.2.2; unfold maxLen at h2; omega
  have Hw1 := Lib.hid hw1
  have Hpn := Lib.hid hpn
  clear hw1 hO h1 h2 h3
  go_enter Try.func61, Try.ntmps61
  go_wp2_with fail
  rw [← Hw1.out]
  go_loopw [16] (fun ix wr => ∃ k : Nat, k ≤ pn ∧ ix = .int .i64 (k : Int) ∧ Below w.heap.size w wr ∧ Blk 25 wr w.heap.size [.int .i64 kd, .slice pa pn pc, .slice va vn vc, .slice ka kn kc]) (fun ix _ => pn - (intOf ix).toNat)
  case atStart => exact ⟨0, by omega, rfl, hbel, hz⟩
  case round =>
    obtain ⟨k, hkk, rfl, hbr, hzr⟩ := hrel
    have k0 := (hzr.cell 0).trans (show _ = some (Value.int .i64 kd) from rfl)
    by_cases hlt : k < pn
    · have hki : (k : Int) < (pn : Int) := by omega
      have hkl : k < p.length := by rw [Hpn.out]; exact hlt
      obtain ⟨b, off, rfl, hc⟩ := Bytes.at (hp.below hbr) k hkl
      go_wp2
      go_roundw
      case rel => exact ⟨k + 1, by omega, by go_num, hbr, hzr⟩
      case measure => simp [intOf]; omega
    · obtain rfl : k = pn := by omega
      have k3 := (hzr.cell 3).trans (show _ = some (Value.slice ka kn kc) from rfl)
      by_cases h0 : kd = 0
      · have hOn : O = some [] := by rw [HO.out, if_pos h0]
        subst hOn
        subst h0
        go_wp2
        go_ret2
        exact ⟨hbr, none, 0, 0, rfl, RowOf.nil rcells 2 _⟩
      · have hOn : O = none := by rw [HO.out, if_neg h0]
        subst hOn
        have e0 : (kd == 0) = false := by rw [beq_eq_false_iff_ne]; exact h0
        by_cases h3 : kd = 3
        · have h16 := H3.out h3
          have h16i : ((kn : Int) == 16) = false := by rw [beq_eq_false_iff_ne]; omega
          subst h3
          clear h16
          go_wp2
          go_ret2
          exact ⟨hbr, rfl⟩
        · have e3 : (kd == 3) = false := by rw [beq_eq_false_iff_ne]; exact h3
          clear h0 h3
          go_wp2
          go_ret2
          exact ⟨hbr, rfl⟩
end
end Go.Proofs.Ytnhbfnegpjkojaa
