/- proof.size. -/
import Derived.Test.YtnhbfnegpjkojaaMk1
set_option linter.unusedSimpArgs false
set_option linter.unusedVariables false
namespace Go.Proofs.Ytnhbfnegpjkojaa
open Go.RowKit
set_option maxHeartbeats 1000000 in
set_option maxRecDepth 100000 in
theorem size_step (kd : Int) (pa va ka : Option Addr) (pn pc vn vc kn kc : Nat) (ks : List Nd) (hkn : ks.length = kn) (w : World) (hk : RowOf ndcells 4 w (.slice ka kn kc) ks) (hB : szL ks ≤ 1048576) (hK : kn ≤ 1048576) (ho : ∀ k ∈ ks, ∀ u ∈ ndcells k, u.oneCell' = true)
    (ih : ∀ k ∈ ks, ∀ u, Below w.heap.size w u → Calls Try.prog 111 #[.agg (ndcells k).toArray] u fun e w' => e = .returned (.int .i64 (szN k : Int)) ∧ Below u.heap.size u w') :
    Calls Try.prog 111 #[.agg #[.int .i64 kd, .slice pa pn pc, .slice va vn vc, .slice ka kn kc]] w fun e w' => e = .returned (.int .i64 ((if kd = 0 then 0 else if kd = 1 then 1 else 1 + szL ks : Nat) : Int)) ∧ Below w.heap.size w w' := by
  obtain ⟨w1, hw1⟩ : ∃ w1, w1 = w.alloc (.cells #[.int .i64 kd, .slice pa pn pc, .slice va vn vc, .slice ka kn kc] 25) := ⟨_, rfl⟩
  have z1 : Blk 25 w1 w.heap.size [.int .i64 kd, .slice pa pn pc, .slice va vn vc, .slice ka kn kc] := by rw [hw1]; exact Blk.new w _ _
  have hbel : Below w.heap.size w w1 := by rw [hw1]; exact (Below.refl _ _).alloc (Nat.le_refl _) _
  have c0 : w1.cell? ⟨w.heap.size, 0, none⟩ = some (.int .i64 kd) := z1.cell 0
  have c3 : w1.cell? ⟨w.heap.size, 3, none⟩ = some (.slice ka kn kc) := z1.cell 3
  have Hw1 := Lib.hid hw1
  have IH := Lib.hid ih
  have Hkn := Lib.hid hkn
  have Hk := Lib.hid hk
  have HB := Lib.hid hB
  have HO := Lib.hid ho
  clear hw1 ih hkn hk hB ho
  by_cases h0 : kd = 0
  · subst h0
    go_enter Try.func111, Try.ntmps111
    go_wp2_with (rw [← Hw1.out])
    go_ret
    exact ⟨rfl, hbel⟩
  · have n0 : (kd == 0) = false := by rw [beq_eq_false_iff_ne]; exact h0
    by_cases h1 : kd = 1
    · subst h1
      go_enter Try.func111, Try.ntmps111
      go_wp2_with (rw [← Hw1.out])
      go_ret
      exact ⟨rfl, hbel⟩
    · have n1 : (kd == 1) = false := by rw [beq_eq_false_iff_ne]; exact h1
      rw [if_neg h0, if_neg h1]
      clear h0 h1
      go_enter Try.func111, Try.ntmps111
      go_wp2_with (rw [← Hw1.out])
      go_loopw [3, 16] (fun sv ix wr => ∃ k : Nat, k ≤ kn ∧ sv = .int .i64 ((1 + szL (ks.take k) : Nat) : Int) ∧ ix = .int .i64 (k : Int) ∧ Below w.heap.size w wr) (fun _ ix _ => kn - (intOf ix).toNat)
      case atStart => exact ⟨0, Nat.zero_le _, by rw [List.take_zero, szL]; rfl, rfl, hbel⟩
      case round =>
        obtain ⟨k, hk, rfl, rfl, bb⟩ := hrel
        by_cases hlt : k < kn
        · have hki : (k : Int) < (kn : Int) := by omega
          have hlk : k < ks.length := by rw [Hkn.out]; exact hlt
          obtain ⟨b, off, rfl, hr⟩ := RowOf.range ndcells_len (Hk.out.below bb) k hlk
          obtain ⟨x, hx⟩ : ∃ x, ks[k] = x := ⟨_, rfl⟩
          have hxm : x ∈ ks := by rw [← hx]; exact List.getElem_mem hlk
          have HT : Hid (szL (ks.take (k + 1)) = szL (ks.take k) + szN x) := Lib.hid (by rw [List.take_add_one, List.getElem?_eq_getElem hlk, hx]; exact szL_snoc _ x)
          have hle : szL (ks.take (k + 1)) ≤ 1048576 := Nat.le_trans (szL_take ks (k + 1)) HB.out
          rw [HT.out] at hle
          rw [hx] at hr
          have ihx := Lib.hid (IH.out x hxm)
          obtain ⟨K, hK⟩ : ∃ K, K = ndcells x := ⟨_, rfl⟩
          have hKl : Hid (K.length = 4) := Lib.hid (by rw [hK]; exact ndcells_len x)
          have hKo : Hid (∀ u ∈ K, u.oneCell' = true) := Lib.hid (by rw [hK]; exact HO.out x hxm)
          rw [← hK] at hr
          have Ihx : Hid (∀ u, Below w.heap.size w u → Calls Try.prog 111 #[.agg K.toArray] u fun e w' => e = .returned (.int .i64 (szN x : Int)) ∧ Below u.heap.size u w') := Lib.hid (by rw [hK]; exact ihx.out)
          obtain ⟨s0, hs0⟩ : ∃ s, s = szL (ks.take k) := ⟨_, rfl⟩
          obtain ⟨s1, hs1⟩ : ∃ s, s = szN x := ⟨_, rfl⟩
          rw [← hs0, ← hs1] at hle HT
          rw [← hs1] at Ihx
          rw [← hs0]
          have Hs0 := Lib.hid hs0
          clear hx hxm hlk ihx hK hs0 hs1 hlt hk
          go_wp2_with (first
            | ((with_reducible show wpList _ _ _ (⟨some 19, _, _, _, _, _⟩ :: _) _ _); refine wpList_loadW (o := ⟨some 19, _, _, _, _, _⟩) 25 (.tmp 18) (by rfl) b (off + k * 4) (by rfl) aggNode hKl.out hr (by rfl) ?_)
            | ((with_reducible show wpList _ _ _ (⟨none, Op.store _ _ (Operand.tmp 19), _, _, _, _⟩ :: _) _ _); refine wpList_storeA (o := ⟨none, _, _, _, _, _⟩) (by rfl) 25 (.tmp 5) (.tmp 19) (by rfl) wr.heap.size K (by rfl) (by rfl) aggNode (old := [.int .i64 0, .slice none 0 0, .slice none 0 0, .slice none 0 0]) (Blk.new wr _ _) hKl.out (by rfl) hKo.out ((Below.refl wr.heap.size wr).alloc (Nat.le_refl _) _) (Nat.le_refl _) ?_; intro w4 y4 b4 _; have bb := Below.then bb b4)
            | ((with_reducible show wpList _ _ _ (⟨some 21, _, _, _, _, _⟩ :: _) _ _); refine wpList_loadA (o := ⟨some 21, _, _, _, _, _⟩) (by rfl) 25 (.tmp 5) (by rfl) wr.heap.size (by rfl) aggNode y4 hKl.out ?_)
            | (go_at_call 111; (with_reducible refine (Ihx.out _ bb).mono ?_); rintro e w5 ⟨rfl, b5⟩; have bb := Below.then bb b5))
          go_roundw
          case rel => exact ⟨k + 1, by omega, by rw [HT.out]; go_num, by go_num, bb⟩
          case measure => simp [intOf]; omega
        · obtain rfl : k = kn := by omega
          have ht : ks.take k = ks := List.take_of_length_le (by rw [Hkn.out]; exact Nat.le_refl _)
          rw [ht]
          go_wp2_with fail
          go_ret
          exact ⟨rfl, bb⟩
theorem size_any : ∀ (n : Nat) (t : Nd), SizeOf.sizeOf t ≤ n → bulkN t ≤ 1048576 → ∀ w, IsNd w t → Calls Try.prog 111 #[.agg (ndcells t).toArray] w fun e w' => e = .returned (.int .i64 (szN t : Int)) ∧ Below w.heap.size w w'
  | 0, .mk kd pv p vv v kv ks, h, _, _, _ => by simp at h
  | n + 1, .mk kd pv p vv v kv ks, h, hb, w, hI => by
    obtain ⟨hp, hv, hk, hall⟩ := hI.inv
    obtain ⟨pa, pc, rfl, _, _⟩ := hp.form
    obtain ⟨va, vc, rfl, _, _⟩ := hv.form
    obtain ⟨ka, kc, rfl, _, _⟩ := hk.form
    simp only [bulkN] at hb
    rw [szN]
    exact size_step kd pa va ka p.length pc v.length vc ks.length kc ks rfl w hk (by have := szL_le ks; omega) (by have := bulkN_len ks; omega) (fun k hk => (hall k hk).one) (fun k hk u hu => size_any n k (by
      have := List.sizeOf_lt_of_mem hk
      simp only [Nd.mk.sizeOf_spec] at h
      omega) (by have := bulkN_mem hk; omega) u ((hall k hk).kept hu))
end Go.Proofs.Ytnhbfnegpjkojaa
