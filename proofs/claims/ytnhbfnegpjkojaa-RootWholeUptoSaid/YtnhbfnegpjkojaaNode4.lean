/- tree.rightFork, tree.right, tree.Right. -/
import Derived.Test.YtnhbfnegpjkojaaNode3
set_option linter.unusedSimpArgs false
set_option linter.unusedVariables false
namespace Go.Proofs.Ytnhbfnegpjkojaa
open Go.RowKit
theorem many_app (l m : List Nd) : manyP (l ++ m) = manyP l + manyP m := by
  induction l with
  | nil => simp [manyP]
  | cons x l ih => simp only [List.cons_append, manyP, ih]; omega
theorem many_step (ks : List Nd) (i : Nat) (hi : i < ks.length) : manyP (ks.take (i + 1)) = manyP (ks.take i) + (if ks[i].kd = 0 then 0 else 1) := by
  rw [List.take_succ_eq_append_getElem hi, many_app]
  simp [manyP]
theorem many_le (ks : List Nd) : manyP ks ≤ ks.length := by
  induction ks with
  | nil => simp [manyP]
  | cons k ks ih => simp only [manyP, List.length_cons]; split <;> omega
theorem rgtL_step (d : Nat) (ks : List Nd) (i : Nat) (hi : i < ks.length) (h : rgtL d (ks.take i) = true) (hk : rgt d ks[i] = true) : rgtL d (ks.take (i + 1)) = true := by
  rw [rgtL_iff] at h ⊢
  intro k hk'
  rw [List.take_succ_eq_append_getElem hi] at hk'
  rcases List.mem_append.1 hk' with h1 | h1
  · exact h k h1
  · rw [List.mem_singleton] at h1; rw [h1]; exact hk
theorem rgtL_not (d : Nat) (ks : List Nd) (i : Nat) (hi : i < ks.length) (hk : rgt d ks[i] = false) : rgtL d ks = false := by
  rw [← Bool.not_eq_true, rgtL_iff]
  intro h
  rw [h _ (List.getElem_mem hi)] at hk
  simp at hk
theorem IsNd.one {w : World} {k : Nd} (h : IsNd w k) : ∀ u ∈ ndcells k, u.oneCell' = true := by
  obtain ⟨kd, pv, p, vv, v, kv, ks⟩ := k
  obtain ⟨hp, hv, hk, _⟩ := h.inv
  obtain ⟨a, c, rfl, _⟩ := hp.form
  obtain ⟨a, c, rfl, _⟩ := hv.form
  obtain ⟨a, c, rfl, _⟩ := hk.form
  intro u hu
  simp only [ndcells, List.mem_cons, List.not_mem_nil, or_false] at hu
  rcases hu with rfl | rfl | rfl | rfl <;> rfl
section
variable (N : Nat) (hN : N ≤ 1000000000) (pa va ka : Option Addr) (pn pc vn vc kn kc : Nat) (p v : List UInt8) (ks : List Nd) (hpn : p.length = pn) (hvn : v.length = vn) (hkn : ks.length = kn) (d : Nat) (w : World)
  (hp : Bytes w (.slice pa pn pc) p) (hv : Bytes w (.slice va vn vc) v) (hk : RowOf ndcells 4 w (.slice ka kn kc) ks) (hks : ∀ k ∈ ks, IsNd w k)
include hN hvn hkn hk hks in
set_option maxHeartbeats 4000000 in
set_option maxRecDepth 100000 in
theorem rfork_any (ih : ∀ k ∈ ks, RgtC N k) (hd : d + 1 + bulkNL ks ≤ N) : Calls Try.prog 162 #[.agg #[.int .i64 3, .slice pa pn pc, .slice va vn vc, .slice ka kn kc], .int .i64 (d : Int)] w fun e w' => e = .returned (.bool (rgt d (.mk 3 (.slice pa pn pc) p (.slice va vn vc) v (.slice ka kn kc) ks))) ∧ Below w.heap.size w w' := by
  obtain ⟨R, hR⟩ : ∃ R, R = rgt d (.mk 3 (.slice pa pn pc) p (.slice va vn vc) v (.slice ka kn kc) ks) := ⟨_, rfl⟩
  rw [← hR]
  have hR2 : R = (decide (kn = 16) && decide (vn ≤ 1024) && (decide (vn = 0) || endsP d) && rgtL (d + 1) ks && decide (2 ≤ min vn 1 + manyP ks)) := by rw [hR]; unfold rgt; rw [hvn, hkn]; rfl
  obtain ⟨w1, hw1⟩ : ∃ w1, w1 = w.alloc (.cells #[.int .i64 3, .slice pa pn pc, .slice va vn vc, .slice ka kn kc] 25) := ⟨_, rfl⟩
  have hz : Blk 25 w1 w.heap.size [.int .i64 3, .slice pa pn pc, .slice va vn vc, .slice ka kn kc] := by rw [hw1]; exact Blk.new w _ _
  have hbel : Below w.heap.size w w1 := by rw [hw1]; exact (Below.refl _ _).alloc (Nat.le_refl _) _
  have Hw1 := Lib.hid hw1
  have k2 := (hz.cell 2).trans (show _ = some (Value.slice va vn vc) from rfl)
  have k3 := (hz.cell 3).trans (show _ = some (Value.slice ka kn kc) from rfl)
  rw [hw1] at k2 k3
  clear hw1 hR
  by_cases h16 : kn = 16
  · subst h16
    by_cases h1024 : vn ≤ 1024
    · have c2 := fun u => ends_any d u
      by_cases hv0 : vn = 0 ∨ endsP d = true
      · have hR3 : R = (rgtL (d + 1) ks && decide (2 ≤ min vn 1 + manyP ks)) := by
          rw [hR2, decide_eq_true h1024]
          have : (decide (vn = 0) || endsP d) = true := by rw [Bool.or_eq_true, decide_eq_true_eq]; exact hv0
          rw [this]; simp
        have h1024i : ¬ (1024 : Int) < (vn : Int) := by omega
        have HR3 := Lib.hid hR3
        have Hkn := Lib.hid hkn
        clear hR2 hR3 hkn
        rcases (show vn = 0 ∨ (0 < vn ∧ endsP d = true) from by rcases hv0 with h | h; exact .inl h; by_cases h0 : vn = 0; exact .inl h0; exact .inr ⟨by omega, h⟩) with hv0 | ⟨hv1, he⟩
        · subst hv0
          have HMIN := Lib.hid (show (0 : Nat) = min 0 1 from rfl)
          clear c2
          go_enter Try.func162, Try.ntmps162
          go_wp2_with fail
          rw [← Hw1.out]
          go_loopw [5, 36] (fun mv ix wr => ∃ i : Nat, i ≤ 16 ∧ mv = .int .i64 ((0 + manyP (ks.take i) : Nat) : Int) ∧ ix = .int .i64 (i : Int) ∧ rgtL (d + 1) (ks.take i) = true ∧ Below w.heap.size w wr) (fun _ ix _ => 16 - (intOf ix).toNat)
          case atStart => exact ⟨0, by omega, by simp [manyP], rfl, rfl, hbel⟩
          case round =>
            obtain ⟨i, hii, rfl, rfl, hall, hbr⟩ := hrel
            obtain ⟨m, hm⟩ : ∃ m, m = 0 + manyP (ks.take i) := ⟨_, rfl⟩
            have hml : m ≤ 17 := by have := many_le (ks.take i); rw [List.length_take] at this; omega
            rw [← hm]
            by_cases hlt : i < 16
            · have hki : (i : Int) < 16 := by omega
              have hil : i < ks.length := by rw [Hkn.out]; exact hlt
              obtain ⟨bk, ok, rfl, hr⟩ := RowOf.range ndcells_len (hk.below hbr) i hil
              have hIs := (hks _ (List.getElem_mem hil)).kept hbr
              have hIh := ih _ (List.getElem_mem hil)
              have hbk := bulkN_mem (List.getElem_mem hil)
              have hst := many_step ks i hil
              have hrs := rgtL_step (d + 1) ks i hil hall
              have hrn := rgtL_not (d + 1) ks i hil
              obtain ⟨k, hkk⟩ : ∃ k, k = ks[i] := ⟨_, rfl⟩
              rw [← hkk] at hr hIs hIh hbk hst hrs hrn
              have hKl := ndcells_len k
              have hone : ∀ u ∈ ndcells k, u.oneCell' = true := hIs.one
              have hk0 : (ndcells k)[0]? = some (.int .i64 k.kd) := by cases k; rfl
              have c3 := fun (u : World) (hu : Below wr.heap.size wr u) => hIh (d + 1) u (hIs.kept hu) (by omega)
              simp only [Int.natCast_add, Int.cast_ofNat_Int] at c3
              have hwr : IntKind.i64.wrap ((d : Int) + 1) = (d : Int) + 1 := IntWalk.i64_in _ (by omega)
              have hwm : IntKind.i64.wrap ((m : Int) + 1) = (m : Int) + 1 := IntWalk.i64_in _ (by omega)
              obtain ⟨K, hK⟩ : ∃ K, K = ndcells k := ⟨_, rfl⟩
              simp only [← hK] at hr hKl hone hk0 c3
              obtain ⟨kd, hkd⟩ : ∃ x, x = k.kd := ⟨_, rfl⟩
              rw [← hkd] at hst hk0
              obtain ⟨b, hb⟩ : ∃ x, x = rgt (d + 1) k := ⟨_, rfl⟩
              simp only [← hb] at c3
              rw [← hb] at hrs hrn
              have C3 := Lib.hid c3
              have HKl := Lib.hid hKl
              have Hone := Lib.hid hone
              have Hk0 := Lib.hid hk0
              have Hrn := Lib.hid hrn
              have Hst := Lib.hid hst
              have Hrs := Lib.hid hrs
              have Hm := Lib.hid hm
              clear hIs hIh hbk hkk hK hkd hb hKl hone hk0 hrn hst hrs hm c3 hall
              cases b with
              | false =>
                have hRf : R = false := by rw [HR3.out, Hrn.out rfl]; rfl
                subst hRf
                go_wp2_with (first
                  | (refine wpList_loadW (o := ⟨some 39, _, _, _, _, _⟩) 25 (.tmp 38) (by rfl) bk (ok + i * 4) (by rfl) aggNode HKl.out hr (by rfl) ?_; have bA : Below wr.heap.size wr (wr.alloc (.cells #[.int .i64 0, .slice none 0 0, .slice none 0 0, .slice none 0 0] 25)) := (Below.refl _ _).alloc (Nat.le_refl _) _)
                              | ((with_reducible show wpList _ _ _ (⟨none, Op.store _ _ (Operand.tmp 39), _, _, _, _⟩ :: _) _ _); refine wpList_storeA (o := ⟨none, _, _, _, _, _⟩) (by rfl) 25 (.tmp 7) (.tmp 39) (by rfl) wr.heap.size K (by rfl) (by rfl) aggNode (Blk.new wr 25 [.int .i64 0, .slice none 0 0, .slice none 0 0, .slice none 0 0]) HKl.out (by rfl) Hone.out bA (Nat.le_refl _) ?_; intro w5 h7 b5 _; have bb5 := Below.then hbr b5)
                              | (refine wpList_loadA (o := ⟨some 40, _, _, _, _, _⟩) (by rfl) 25 (.tmp 7) (by rfl) wr.heap.size (by rfl) aggNode h7 HKl.out ?_)
                              | (go_at_call 114; (with_reducible refine (C3.out _ b5).mono ?_); rintro e w6 ⟨rfl, b6⟩; have h76 := (((h7.kept b6).cell 0).trans Hk0.out)))
                go_ret
                exact ⟨rfl, Below.then bb5 b6⟩
              | true =>
                have hall' := Hrs.out rfl
                have hst' := Hst.out
                by_cases hz0 : kd = 0
                · subst hz0
                  rw [if_pos rfl] at hst'
                  clear hlt
                  go_wp2_with (first
                    | (refine wpList_loadW (o := ⟨some 39, _, _, _, _, _⟩) 25 (.tmp 38) (by rfl) bk (ok + i * 4) (by rfl) aggNode HKl.out hr (by rfl) ?_; have bA : Below wr.heap.size wr (wr.alloc (.cells #[.int .i64 0, .slice none 0 0, .slice none 0 0, .slice none 0 0] 25)) := (Below.refl _ _).alloc (Nat.le_refl _) _)
                              | ((with_reducible show wpList _ _ _ (⟨none, Op.store _ _ (Operand.tmp 39), _, _, _, _⟩ :: _) _ _); refine wpList_storeA (o := ⟨none, _, _, _, _, _⟩) (by rfl) 25 (.tmp 7) (.tmp 39) (by rfl) wr.heap.size K (by rfl) (by rfl) aggNode (Blk.new wr 25 [.int .i64 0, .slice none 0 0, .slice none 0 0, .slice none 0 0]) HKl.out (by rfl) Hone.out bA (Nat.le_refl _) ?_; intro w5 h7 b5 _; have bb5 := Below.then hbr b5)
                              | (refine wpList_loadA (o := ⟨some 40, _, _, _, _, _⟩) (by rfl) 25 (.tmp 7) (by rfl) wr.heap.size (by rfl) aggNode h7 HKl.out ?_)
                              | (go_at_call 114; (with_reducible refine (C3.out _ b5).mono ?_); rintro e w6 ⟨rfl, b6⟩; have h76 := (((h7.kept b6).cell 0).trans Hk0.out)))
                  go_roundw
                  case rel => exact ⟨i + 1, by omega, by rw [hst', Hm.out]; go_num, by go_num, hall', Below.then bb5 b6⟩
                  case measure => simp [intOf]; omega
                · rw [if_neg hz0] at hst'
                  have hz1 : (kd != 0) = true := by simp; exact hz0
                  have hz2 : (kd == 0) = false := by rw [beq_eq_false_iff_ne]; exact hz0
                  clear hlt
                  go_wp2_with (first
                    | (refine wpList_loadW (o := ⟨some 39, _, _, _, _, _⟩) 25 (.tmp 38) (by rfl) bk (ok + i * 4) (by rfl) aggNode HKl.out hr (by rfl) ?_; have bA : Below wr.heap.size wr (wr.alloc (.cells #[.int .i64 0, .slice none 0 0, .slice none 0 0, .slice none 0 0] 25)) := (Below.refl _ _).alloc (Nat.le_refl _) _)
                              | ((with_reducible show wpList _ _ _ (⟨none, Op.store _ _ (Operand.tmp 39), _, _, _, _⟩ :: _) _ _); refine wpList_storeA (o := ⟨none, _, _, _, _, _⟩) (by rfl) 25 (.tmp 7) (.tmp 39) (by rfl) wr.heap.size K (by rfl) (by rfl) aggNode (Blk.new wr 25 [.int .i64 0, .slice none 0 0, .slice none 0 0, .slice none 0 0]) HKl.out (by rfl) Hone.out bA (Nat.le_refl _) ?_; intro w5 h7 b5 _; have bb5 := Below.then hbr b5)
                              | (refine wpList_loadA (o := ⟨some 40, _, _, _, _, _⟩) (by rfl) 25 (.tmp 7) (by rfl) wr.heap.size (by rfl) aggNode h7 HKl.out ?_)
                              | (go_at_call 114; (with_reducible refine (C3.out _ b5).mono ?_); rintro e w6 ⟨rfl, b6⟩; have h76 := (((h7.kept b6).cell 0).trans Hk0.out)))
                  go_roundw
                  case rel => exact ⟨i + 1, by omega, by rw [hst', ← Nat.add_assoc, ← Hm.out]; go_num, by go_num, hall', Below.then bb5 b6⟩
                  case measure => simp [intOf]; omega
            · obtain rfl : i = 16 := by omega
              have htk : ks.take 16 = ks := by rw [← Hkn.out, List.take_length]
              rw [htk] at hall hm
              have hR4 : R = decide (2 ≤ m) := by rw [HR3.out, hall, hm, ← HMIN.out]; rfl
              have h2i : decide ((2 : Int) ≤ (m : Int)) = decide (2 ≤ m) := by congr 1; rw [eq_iff_iff]; omega
              obtain ⟨b, hb⟩ : ∃ b, b = decide (2 ≤ m) := ⟨_, rfl⟩
              rw [← hb] at h2i hR4
              subst hR4
              clear hb htk hm hall
              go_wp2_with fail
              go_ret
              exact ⟨rfl, hbr⟩
        · rw [he] at c2
          have C2 := Lib.hid c2
          have hv1i : (0 : Int) < (vn : Int) := by omega
          have HMIN := Lib.hid (show (1 : Nat) = min vn 1 from by omega)
          clear c2
          go_enter Try.func162, Try.ntmps162
          go_wp2_with (go_at_call 161; (with_reducible refine (C2.out _).mono ?_); rintro e w3 ⟨rfl, b3⟩; rw [← Hw1.out] at b3; have bb3 := Below.then hbel b3; have z3 := hz.kept b3; have j2 := (z3.cell 2).trans (show _ = some (Value.slice va vn vc) from rfl); have j3 := (z3.cell 3).trans (show _ = some (Value.slice ka 16 kc) from rfl))
          all_goals
            go_loopw [5, 36] (fun mv ix wr => ∃ i : Nat, i ≤ 16 ∧ mv = .int .i64 ((1 + manyP (ks.take i) : Nat) : Int) ∧ ix = .int .i64 (i : Int) ∧ rgtL (d + 1) (ks.take i) = true ∧ Below w.heap.size w wr) (fun _ ix _ => 16 - (intOf ix).toNat)
            case atStart => exact ⟨0, by omega, by first | (simp [manyP]; done) | (simp [manyP]; omega), rfl, rfl, bb3⟩
            case round =>
              obtain ⟨i, hii, rfl, rfl, hall, hbr⟩ := hrel
              obtain ⟨m, hm⟩ : ∃ m, m = 1 + manyP (ks.take i) := ⟨_, rfl⟩
              have hml : m ≤ 17 := by have := many_le (ks.take i); rw [List.length_take] at this; omega
              rw [← hm]
              by_cases hlt : i < 16
              · have hki : (i : Int) < 16 := by omega
                have hil : i < ks.length := by rw [Hkn.out]; exact hlt
                obtain ⟨bk, ok, rfl, hr⟩ := RowOf.range ndcells_len (hk.below hbr) i hil
                have hIs := (hks _ (List.getElem_mem hil)).kept hbr
                have hIh := ih _ (List.getElem_mem hil)
                have hbk := bulkN_mem (List.getElem_mem hil)
                have hst := many_step ks i hil
                have hrs := rgtL_step (d + 1) ks i hil hall
                have hrn := rgtL_not (d + 1) ks i hil
                obtain ⟨k, hkk⟩ : ∃ k, k = ks[i] := ⟨_, rfl⟩
                rw [← hkk] at hr hIs hIh hbk hst hrs hrn
                have hKl := ndcells_len k
                have hone : ∀ u ∈ ndcells k, u.oneCell' = true := hIs.one
                have hk0 : (ndcells k)[0]? = some (.int .i64 k.kd) := by cases k; rfl
                have c3 := fun (u : World) (hu : Below wr.heap.size wr u) => hIh (d + 1) u (hIs.kept hu) (by omega)
                simp only [Int.natCast_add, Int.cast_ofNat_Int] at c3
                have hwr : IntKind.i64.wrap ((d : Int) + 1) = (d : Int) + 1 := IntWalk.i64_in _ (by omega)
                have hwm : IntKind.i64.wrap ((m : Int) + 1) = (m : Int) + 1 := IntWalk.i64_in _ (by omega)
                obtain ⟨K, hK⟩ : ∃ K, K = ndcells k := ⟨_, rfl⟩
                simp only [← hK] at hr hKl hone hk0 c3
                obtain ⟨kd, hkd⟩ : ∃ x, x = k.kd := ⟨_, rfl⟩
                rw [← hkd] at hst hk0
                obtain ⟨b, hb⟩ : ∃ x, x = rgt (d + 1) k := ⟨_, rfl⟩
                simp only [← hb] at c3
                rw [← hb] at hrs hrn
                have C3 := Lib.hid c3
                have HKl := Lib.hid hKl
                have Hone := Lib.hid hone
                have Hk0 := Lib.hid hk0
                have Hrn := Lib.hid hrn
                have Hst := Lib.hid hst
                have Hrs := Lib.hid hrs
                have Hm := Lib.hid hm
                clear hIs hIh hbk hkk hK hkd hb hKl hone hk0 hrn hst hrs hm c3 hall
                cases b with
                | false =>
                  have hRf : R = false := by rw [HR3.out, Hrn.out rfl]; rfl
                  subst hRf
                  go_wp2_with (first
                    | (refine wpList_loadW (o := ⟨some 39, _, _, _, _, _⟩) 25 (.tmp 38) (by rfl) bk (ok + i * 4) (by rfl) aggNode HKl.out hr (by rfl) ?_; have bA : Below wr.heap.size wr (wr.alloc (.cells #[.int .i64 0, .slice none 0 0, .slice none 0 0, .slice none 0 0] 25)) := (Below.refl _ _).alloc (Nat.le_refl _) _)
                                | ((with_reducible show wpList _ _ _ (⟨none, Op.store _ _ (Operand.tmp 39), _, _, _, _⟩ :: _) _ _); refine wpList_storeA (o := ⟨none, _, _, _, _, _⟩) (by rfl) 25 (.tmp 7) (.tmp 39) (by rfl) wr.heap.size K (by rfl) (by rfl) aggNode (Blk.new wr 25 [.int .i64 0, .slice none 0 0, .slice none 0 0, .slice none 0 0]) HKl.out (by rfl) Hone.out bA (Nat.le_refl _) ?_; intro w5 h7 b5 _; have bb5 := Below.then hbr b5)
                                | (refine wpList_loadA (o := ⟨some 40, _, _, _, _, _⟩) (by rfl) 25 (.tmp 7) (by rfl) wr.heap.size (by rfl) aggNode h7 HKl.out ?_)
                                | (go_at_call 114; (with_reducible refine (C3.out _ b5).mono ?_); rintro e w6 ⟨rfl, b6⟩; have h76 := (((h7.kept b6).cell 0).trans Hk0.out)))
                  go_ret
                  exact ⟨rfl, Below.then bb5 b6⟩
                | true =>
                  have hall' := Hrs.out rfl
                  have hst' := Hst.out
                  by_cases hz0 : kd = 0
                  · subst hz0
                    rw [if_pos rfl] at hst'
                    clear hlt
                    go_wp2_with (first
                      | (refine wpList_loadW (o := ⟨some 39, _, _, _, _, _⟩) 25 (.tmp 38) (by rfl) bk (ok + i * 4) (by rfl) aggNode HKl.out hr (by rfl) ?_; have bA : Below wr.heap.size wr (wr.alloc (.cells #[.int .i64 0, .slice none 0 0, .slice none 0 0, .slice none 0 0] 25)) := (Below.refl _ _).alloc (Nat.le_refl _) _)
                                | ((with_reducible show wpList _ _ _ (⟨none, Op.store _ _ (Operand.tmp 39), _, _, _, _⟩ :: _) _ _); refine wpList_storeA (o := ⟨none, _, _, _, _, _⟩) (by rfl) 25 (.tmp 7) (.tmp 39) (by rfl) wr.heap.size K (by rfl) (by rfl) aggNode (Blk.new wr 25 [.int .i64 0, .slice none 0 0, .slice none 0 0, .slice none 0 0]) HKl.out (by rfl) Hone.out bA (Nat.le_refl _) ?_; intro w5 h7 b5 _; have bb5 := Below.then hbr b5)
                                | (refine wpList_loadA (o := ⟨some 40, _, _, _, _, _⟩) (by rfl) 25 (.tmp 7) (by rfl) wr.heap.size (by rfl) aggNode h7 HKl.out ?_)
                                | (go_at_call 114; (with_reducible refine (C3.out _ b5).mono ?_); rintro e w6 ⟨rfl, b6⟩; have h76 := (((h7.kept b6).cell 0).trans Hk0.out)))
                    go_roundw
                    case rel => exact ⟨i + 1, by omega, by rw [hst', Hm.out]; go_num, by go_num, hall', Below.then bb5 b6⟩
                    case measure => simp [intOf]; omega
                  · rw [if_neg hz0] at hst'
                    have hz1 : (kd != 0) = true := by simp; exact hz0
                    have hz2 : (kd == 0) = false := by rw [beq_eq_false_iff_ne]; exact hz0
                    clear hlt
                    go_wp2_with (first
                      | (refine wpList_loadW (o := ⟨some 39, _, _, _, _, _⟩) 25 (.tmp 38) (by rfl) bk (ok + i * 4) (by rfl) aggNode HKl.out hr (by rfl) ?_; have bA : Below wr.heap.size wr (wr.alloc (.cells #[.int .i64 0, .slice none 0 0, .slice none 0 0, .slice none 0 0] 25)) := (Below.refl _ _).alloc (Nat.le_refl _) _)
                                | ((with_reducible show wpList _ _ _ (⟨none, Op.store _ _ (Operand.tmp 39), _, _, _, _⟩ :: _) _ _); refine wpList_storeA (o := ⟨none, _, _, _, _, _⟩) (by rfl) 25 (.tmp 7) (.tmp 39) (by rfl) wr.heap.size K (by rfl) (by rfl) aggNode (Blk.new wr 25 [.int .i64 0, .slice none 0 0, .slice none 0 0, .slice none 0 0]) HKl.out (by rfl) Hone.out bA (Nat.le_refl _) ?_; intro w5 h7 b5 _; have bb5 := Below.then hbr b5)
                                | (refine wpList_loadA (o := ⟨some 40, _, _, _, _, _⟩) (by rfl) 25 (.tmp 7) (by rfl) wr.heap.size (by rfl) aggNode h7 HKl.out ?_)
                                | (go_at_call 114; (with_reducible refine (C3.out _ b5).mono ?_); rintro e w6 ⟨rfl, b6⟩; have h76 := (((h7.kept b6).cell 0).trans Hk0.out)))
                    go_roundw
                    case rel => exact ⟨i + 1, by omega, by rw [hst', ← Nat.add_assoc, ← Hm.out]; go_num, by go_num, hall', Below.then bb5 b6⟩
                    case measure => simp [intOf]; omega
              · obtain rfl : i = 16 := by omega
                have htk : ks.take 16 = ks := by rw [← Hkn.out, List.take_length]
                rw [htk] at hall hm
                have hR4 : R = decide (2 ≤ m) := by rw [HR3.out, hall, hm, ← HMIN.out]; rfl
                have h2i : decide ((2 : Int) ≤ (m : Int)) = decide (2 ≤ m) := by congr 1; rw [eq_iff_iff]; omega
                obtain ⟨b, hb⟩ : ∃ b, b = decide (2 ≤ m) := ⟨_, rfl⟩
                rw [← hb] at h2i hR4
                subst hR4
                clear hb htk hm hall
                go_wp2_with fail
                go_ret
                exact ⟨rfl, hbr⟩
      · have hv1 : 0 < vn := by omega
        have he : endsP d = false := by rw [← Bool.not_eq_true]; exact fun e => hv0 (.inr e)
        have hRf : R = false := by rw [hR2, he]; simp; intro _ _ h; omega
        subst hRf
        rw [he] at c2
        have C2 := Lib.hid c2
        have h1024i : ¬ (1024 : Int) < (vn : Int) := by omega
        have hv1i : (0 : Int) < (vn : Int) := by omega
        clear c2 hR2
        go_enter Try.func162, Try.ntmps162
        go_wp2_with (go_at_call 161; (with_reducible refine (C2.out _).mono ?_); rintro e w3 ⟨rfl, b3⟩; rw [← Hw1.out] at b3; have bb3 := Below.then hbel b3)
        go_ret
        exact ⟨rfl, bb3⟩
    · have hRf : R = false := by rw [hR2, decide_eq_false h1024]; simp
      subst hRf
      have h1024i : (1024 : Int) < (vn : Int) := by omega
      clear hR2
      go_enter Try.func162, Try.ntmps162
      go_wp2_with fail
      rw [← Hw1.out]
      go_ret
      exact ⟨rfl, hbel⟩
  · have hRf : R = false := by rw [hR2, decide_eq_false h16]; simp
    subst hRf
    have h16i : ((kn : Int) == 16) = false := by rw [beq_eq_false_iff_ne]; omega
    clear hR2
    go_enter Try.func162, Try.ntmps162
    go_wp2_with fail
    rw [← Hw1.out]
    go_ret
    exact ⟨rfl, hbel⟩
end
end Go.Proofs.Ytnhbfnegpjkojaa
