/- The reference's routes of any node; shorter. -/
import Derived.Test.YtnhbfnegpjkojaaRts3
set_option linter.unusedSimpArgs false
set_option linter.unusedVariables false
namespace Go.Proofs.Ytnhbfnegpjkojaa
open Go.RowKit
theorem routes_any (N : Nat) (hN : N ≤ 1000000000) : ∀ (n : Nat) (t : Nd), SizeOf.sizeOf t ≤ n → RtsC N t
  | 0, .mk kd pv p vv v kv ks, h => by simp at h
  | n + 1, .mk kd pv p vv v kv ks, h => by
    intro q w hI hd
    have hks : ∀ k ∈ ks, RtsC N k := by
      intro k hk
      refine routes_any N hN n k ?_
      have := List.sizeOf_lt_of_mem hk
      simp only [Nd.mk.sizeOf_spec] at h
      omega
    obtain ⟨hp, hv, hk, hall⟩ := hI.inv
    obtain ⟨pa, pc, rfl, _, _⟩ := hp.form
    obtain ⟨va, vc, rfl, _, _⟩ := hv.form
    obtain ⟨ka, kc, rfl, _, _⟩ := hk.form
    simp only [bulkN] at hd
    by_cases h1 : kd = 1
    · subst h1
      exact routes_leaf N hN pa va ka p.length pc v.length vc ks.length kc p v ks rfl rfl q w hp hv (by omega)
    · by_cases h2 : kd = 2
      · subst h2
        exact routes_road N hN pa va ka p.length pc v.length vc ks.length kc p v ks rfl rfl q w hp hk hall hks (by omega)
      · by_cases h3 : kd = 3 ∧ ks.length = 16
        · obtain ⟨rfl, h16⟩ := h3
          have hR : rts (.mk 3 (.slice pa p.length pc) p (.slice va v.length vc) v (.slice ka ks.length kc) ks) = (rtsL ks).map fun l => bdP v l := by
            unfold rts; simp [h16, bdP]
          rw [hR]
          have := routes_fork N hN pa va ka p.length pc v.length vc kc p v ks rfl rfl h16 q w hp hv (by rw [← h16]; exact hk) hall hks (by omega)
          rw [← h16] at this
          exact this
        · have hR : rts (.mk kd (.slice pa p.length pc) p (.slice va v.length vc) v (.slice ka ks.length kc) ks) = if kd = 0 then some [] else none := by
            unfold rts
            rw [if_neg (fun e => e.1.elim h1 h2)]
            by_cases h0 : kd = 0
            · rw [if_pos h0, if_pos h0]
            · rw [if_neg h0, if_neg h1, if_neg (fun e => h2 e.1), if_neg h3, if_neg h0]
          rw [hR]
          exact routes_odd pa va ka p.length pc v.length vc ks.length kc p rfl q w hp kd h1 h2 (fun e h => h3 ⟨e, h⟩)
def OneR (r : Rt) : Ty := fun u w => ∃ g : Nat, u = .slice (some ⟨g, 0, none⟩) 1 1 ∧ RowOf rcells 2 w u [r]
theorem OneR.mono (r : Rt) : Mono (OneR r) := fun _ _ _ ⟨g, h, h2⟩ hb => ⟨g, h, h2.below hb⟩
theorem aggRoute : Agg Try.prog 116 2 := ⟨_, Try.underlying116, rfl, by kernel_rfl⟩
theorem shorter_take (c : Nat) (l : List Rt) (k : Nat) (hk : k < l.length) : shorterP c (l.take (k + 1)) = shorterP c (l.take k) ++ [(l[k].1.drop c, l[k].2)] := by
  unfold shorterP
  rw [List.take_succ_eq_append_getElem hk, List.map_append]
  rfl
set_option maxHeartbeats 2000000 in
set_option maxRecDepth 100000 in
theorem shorter_any (a : Option Addr) (n cap : Nat) (l : List Rt) (hn : l.length = n) (c : Nat) (hc : ∀ r ∈ l, c ≤ r.1.length) (hN : n ≤ 1000000000) (hcN : c ≤ 1000000000) (w : World) (h : RowOf rcells 2 w (.slice a n cap) l) :
    Calls Try.prog 166 #[.slice a n cap, .int .i64 (c : Int)] w fun e w' => ∃ (a' : Option Addr) (c' : Nat), e = .returned (.slice a' n c') ∧ Below w.heap.size w w' ∧ RowOf rcells 2 w' (.slice a' n c') (shorterP c l) := by
  have Hn := Lib.hid hn
  have Hc := Lib.hid hc
  clear hn hc
  go_enter Try.func166, Try.ntmps166
  go_wp2
  go_loopw [5, 10] (fun av ix wr => ∃ k : Nat, k ≤ n ∧ OwnOf rcells 2 116 wr w.heap.size av (shorterP c (l.take k)) ∧ ix = .int .i64 (k : Int) ∧ Below w.heap.size w wr) (fun _ ix _ => n - (intOf ix).toNat)
  case atStart => exact ⟨0, by omega, OwnOf.nil _ _ _ _ _, rfl, Below.refl _ _⟩
  case round =>
    obtain ⟨k, hkk, hown, rfl, hbr⟩ := hrel
    have hol : (shorterP c (l.take k)).length = k := by unfold shorterP; rw [List.length_map, List.length_take]; have := Hn.out; omega
    obtain ⟨av1, ac1, rfl, _⟩ := hown.form' k hol
    by_cases hlt : k < n
    · have hki : (k : Int) < (n : Int) := by omega
      have hkl : k < l.length := by rw [Hn.out]; exact hlt
      obtain ⟨b, off, rfl, hr⟩ := RowOf.range (f := rcells) (size := 2) (fun _ => rfl) (h.below hbr) k hkl
      have hst := shorter_take c l k hkl
      have hcl := Hc.out _ (List.getElem_mem hkl)
      obtain ⟨y, hy⟩ : ∃ y, y = l[k] := ⟨_, rfl⟩
      rw [← hy] at hr hst hcl
      obtain ⟨y1, y2⟩ := y
      dsimp only at hst hcl
      have hr2 : wr.rangeAt b (off + k * 2) [.string ⟨y1.toArray⟩, .string ⟨y2.toArray⟩] := hr
      have s1 := str_from (P := Try.prog) (t := 9) (by kernel_rfl) y1 c (c : Int) rfl hcl
      have hlo := OwnOf.lt hown
      have n0 : ∀ (g : Nat) (u : World), Blk 116 u g [.string ⟨y1.toArray⟩, .string ⟨y2.toArray⟩] → u.cell? ⟨g, 0, none⟩ = some (.string ⟨y1.toArray⟩) ∧ u.cell? ⟨g, 1, none⟩ = some (.string ⟨y2.toArray⟩) := fun g u hb => ⟨(hb.cell 0).trans rfl, (hb.cell 1).trans rfl⟩
      have hb1 : ((shorterP c (l.take k)).length + [(y1.drop c, y2)].length) * 32 ≤ 140737488355328 := by rw [hol]; simp only [List.length_singleton]; omega
      have hb2 : (shorterP c (l.take k)).length + [(y1.drop c, y2)].length ≤ maxLen := by rw [hol]; unfold maxLen; simp only [List.length_singleton]; omega
      have Hst := Lib.hid hst
      have N0 := Lib.hid n0
      have Hb1 := Lib.hid hb1
      have Hb2 := Lib.hid hb2
      clear hst n0 hy hr hol hcl hlt hb1 hb2
      have bA : Below wr.heap.size wr (wr.alloc (.cells #[.string ByteArray.empty, .string ByteArray.empty] 116)) := (Below.refl _ _).alloc (Nat.le_refl _) _
      go_wp2_with (first
        | (refine wpList_loadW (o := ⟨some 13, _, _, _, _, _⟩) 116 (.tmp 12) (by rfl) b (off + k * 2) (by rfl) aggRoute (by rfl) hr2 (by rfl) ?_)
        | ((with_reducible show wpList _ _ _ (⟨none, Op.store _ _ (Operand.tmp 13), _, _, _, _⟩ :: _) _ _); refine wpList_storeA (o := ⟨none, _, _, _, _, _⟩) (by rfl) 116 (.tmp 7) (.tmp 13) (by rfl) wr.heap.size [.string ⟨y1.toArray⟩, .string ⟨y2.toArray⟩] (by rfl) (by rfl) aggRoute (Blk.new wr 116 [.string ByteArray.empty, .string ByteArray.empty]) (by rfl) (by rfl) (by intro u hu; simp at hu; rcases hu with rfl | rfl <;> rfl) bA (Nat.le_refl _) ?_; intro w5 h7 b5 _; have bb5 := Below.then hbr b5; have o5 := hown.kept b5; obtain ⟨i0, i1⟩ := N0.out _ _ h7; have j0 := fun u : Ext w5 => u.cell i0; have j1 := fun u : Ext w5 => u.cell i1))
      refine wp_region_typed w5 9 (by kernel_rfl) (by kernel_rfl) (Below.refl _ _) ?_; simp only [List.take_succ_cons, List.take_zero, List.take_nil]
      iterate 8 (refine wpX_step (by rfl) (fun K hK => ?_); go_simp; first | (refine hK _ ?_; clear hK K) | (apply Exists.intro; refine ⟨fun _ => ?_, hK _ ?_⟩; fail; clear hK K))
      refine wpX_rel 22 (OneR (y1.drop c, y2)) rfl (of_decide_eq_true rfl) (OneR.mono _) (fun w6 hw6 => ?_) ?_
      · change forallRel w6 [] _ _
        simp only [forallRel]
        refine ⟨rfl, ?_⟩
        go_simp
        exact ⟨(Below.refl _ _).alloc (Nat.le_refl _) _, w6.heap.size, rfl, Row.built (f := rcells) (size := 2) (fun _ => rfl) w6 116 [(y1.drop c, y2)] 1 rfl (by unfold maxLen; omega)⟩
      refine wpX_nil ?_
      intro u2 hb2 v22 h22
      change wpList _ _ _ [_, _] _ _
      obtain ⟨g22, rfl, hr22⟩ := h22
      have o2 := o5.kept hb2
      have bb2 := Below.then bb5 hb2
      clear j0 j1 i0 i1
      go_wp2_with (refine wpList_appA (o := ⟨some 23, _, _, _, _, _⟩) (by rfl) (.tmp 14) (.tmp 22) 112 (by rfl) elRt (by rfl) o2 (by rfl) hr22 bb2.size Hb1.out Hb2.out ?_; intro v7 w7 o7 g7 _; have b7 := bb2.grown g7 bb2.size hlo; rw [← Hst.out] at o7)
      go_roundw
      case rel => exact ⟨k + 1, by omega, o7, by go_num, b7⟩
      case measure => simp [intOf]; omega
    · obtain rfl : k = n := by omega
      have htk : l.take k = l := by rw [← Hn.out, List.take_length]
      rw [htk] at hown
      have hrow := hown.row
      clear hown hol htk
      go_wp2
      go_ret
      exact ⟨_, _, rfl, hbr, hrow⟩
end Go.Proofs.Ytnhbfnegpjkojaa
