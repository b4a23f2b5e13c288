/- The reference's LNext and LLandings; slices.Equal of []int. -/
import Derived.Test.YtbnghkhipmhojaaCode2
namespace Go.Proofs.Ytbnghkhipmhojaa
open Go.RowKit
set_option maxHeartbeats 400000 in
set_option maxRecDepth 100000 in
theorem lnext_any (a : Option Addr) (c : Nat) (l : List UInt8) (pc : Int) (hpc : (Lit.int .i64 pc).wf = true) (w : World) (h : Bytes w (.slice a l.length c) l) (hl : l.length ≤ 140737488355328) :
    Calls Try.prog 57 #[.slice a l.length c, .int .i64 pc] w fun e w' => e = .returned (.int .i64 (nextI l pc)) ∧ w' = w := by
  have hb := bounds_i64 hpc
  by_cases h0 : pc < 0
  · have d0 : decide (pc < 0) = true := by rw [decide_eq_true_eq]; exact h0
    rw [next_out l pc (.inl h0)]
    go_enter Try.func57, Try.ntmps57
    go_wp2
    go_ret
    exact ⟨rfl, rfl⟩
  · have d0 : decide (pc < 0) = false := by rw [decide_eq_false_iff_not]; exact h0
    obtain ⟨k, rfl⟩ := Int.eq_ofNat_of_zero_le (by omega : 0 ≤ pc)
    by_cases h1 : l.length ≤ k
    · have d1 : decide (l.length ≤ k) = true := by rw [decide_eq_true_eq]; exact h1
      rw [next_out l _ (.inr (by omega))]
      go_enter Try.func57, Try.ntmps57
      go_wp2
      go_ret
      exact ⟨rfl, rfl⟩
    · have d1 : decide (l.length ≤ k) = false := by rw [decide_eq_false_iff_not]; exact h1
      have hlt : k < l.length := by omega
      rw [next_in l k hlt]
      obtain ⟨b, off, rfl, hc⟩ := h.at k hlt
      obtain ⟨x, hx⟩ : ∃ x, x = l[k] := ⟨_, rfl⟩
      rw [← hx] at hc ⊢
      have hp := push_le x
      have hki : (k : Int) < (l.length : Int) := by omega
      clear hx
      by_cases h2 : l.length < k + 1 + push x
      · have d2 : decide ((l.length : Int) - (k : Int) - 1 < (push x : Int)) = true := by rw [decide_eq_true_eq]; omega
        go_enter Try.func57, Try.ntmps57
        go_wp2_with (go_at_call 83; refine (lpush_any x _).mono ?_; rintro e w' ⟨rfl, rfl⟩)
        go_ret
        exact ⟨ret_int (by omega), rfl⟩
      · have d2 : decide ((l.length : Int) - (k : Int) - 1 < (push x : Int)) = false := by rw [decide_eq_false_iff_not]; omega
        go_enter Try.func57, Try.ntmps57
        go_wp2_with (go_at_call 83; refine (lpush_any x _).mono ?_; rintro e w' ⟨rfl, rfl⟩)
        go_ret
        exact ⟨ret_int (by omega), rfl⟩
set_option maxHeartbeats 400000 in
set_option maxRecDepth 100000 in
theorem llandings_any (a : Option Addr) (c : Nat) (l : List UInt8) (w : World) (h : Bytes w (.slice a l.length c) l) (hl : l.length ≤ 1048576) :
    Calls Try.prog 60 #[.slice a l.length c] w fun e w' => ∃ v, e = .returned v ∧ OwnOf bi64 1 3 w' w.heap.size v (landF l 0 0) ∧ Below w.heap.size w w' := by
  go_enter Try.func60, Try.ntmps60
  go_wp2
  go_loopw [3, 4, 5, 6, 9] (fun v si _ _ i wr => ∃ (k s : Nat) (o : List Int), k ≤ l.length ∧ o.length ≤ k ∧ s ≤ 32 ∧ i = .int .i64 (k : Int) ∧ si = .int .i64 (s : Int) ∧ OwnOf bi64 1 3 wr w.heap.size v o ∧ landF l 0 0 = o ++ landF (l.drop k) k s ∧ Below w.heap.size w wr ∧ w.heap.size ≤ wr.heap.size) (fun _ _ _ _ i _ => l.length - (intOf i).toNat)
  case atStart => exact ⟨0, 0, [], Nat.zero_le _, Nat.le_refl _, by omega, rfl, rfl, OwnOf.nil _ _ _ _ _, rfl, Below.refl _ _, Nat.le_refl _⟩
  case round =>
    obtain ⟨k, s, o, hk, ho, hs, rfl, rfl, hown, hT, hbel, hB⟩ := hrel
    by_cases hlt : k < l.length
    · obtain ⟨b, off, rfl, hbl, hc⟩ := h.later hbel k hlt
      rw [List.drop_eq_getElem_cons hlt] at hT
      obtain ⟨x, hx⟩ : ∃ x, x = l[k] := ⟨_, rfl⟩
      rw [← hx] at hc hT
      have hki : (k : Int) < (l.length : Int) := by omega
      have hp := push_le x
      rcases s with _ | s
      · rw [landF, ← List.append_assoc] at hT
        by_cases hx91 : x = 91
        · have hd : ((x.toNat : Int) == 91) = true := by rw [hx91]; rfl
          rw [if_pos hx91] at hT
          have HT := Lib.hid hT
          clear hT hx hx91
          go_wp2_with (first
            | (go_at_call 83; refine (lpush_any x _).mono ?_; rintro e w' ⟨rfl, rfl⟩)
            | (at_builtin; (refine wpList_app rfl (.tmp 20) (.tmp 22) 68 rfl elI64 rfl (hown.alloc _) rfl (RowOf.made bi64 1 _ [(k : Int)] _ _ 1 rfl rfl rfl (by decide)) (hbel.alloc hB _) (by simp; omega) (by simp; omega) (by simp [maxLen]; omega) ?_; intro v4 w4 hv4 hg4 _ hB4)))
          go_roundw
          case rel => exact ⟨k + 1, push x, _, by omega, by simp; omega, hp, by go_num, rfl, hv4, HT.out, hg4, hB4⟩
          case measure => simp [intOf]; omega
        · have hd : ((x.toNat : Int) == 91) = false := by
            rw [beq_eq_false_iff_ne]; intro e; apply hx91; exact UInt8.toNat_inj.1 (by have : (91 : UInt8).toNat = 91 := rfl; omega)
          rw [if_neg hx91, List.append_nil] at hT
          have HT := Lib.hid hT
          clear hT hx hx91
          go_wp2_with (first
            | (go_at_call 83; refine (lpush_any x _).mono ?_; rintro e w' ⟨rfl, rfl⟩))
          go_roundw
          case rel => exact ⟨k + 1, push x, _, by omega, by omega, hp, by go_num, rfl, hown, HT.out, hbel, hB⟩
          case measure => simp [intOf]; omega
      · rw [landF] at hT
        have hd : decide ((0 : Int) < ((s + 1 : Nat) : Int)) = true := by rw [decide_eq_true_eq]; omega
        have HT := Lib.hid hT
        clear hT hx
        go_wp2
        go_roundw
        case rel => exact ⟨k + 1, s, _, by omega, by omega, by omega, by go_num, by go_num, hown, HT.out, hbel, hB⟩
        case measure => simp [intOf]; omega
    · obtain rfl : k = l.length := by omega
      rw [List.drop_eq_nil_of_le (Nat.le_refl _), landF_nil, List.append_nil] at hT
      rw [← hT] at hown
      have hdk : decide (l.length < l.length) = false := by rw [decide_eq_false_iff_not]; omega
      clear hT
      go_wp2
      go_ret
      exact ⟨_, rfl, hown, hbel⟩
theorem Ints.at {w : World} {a : Option Addr} {n c : Nat} {l : List Int} (h : RowOf bi64 1 w (.slice a n c) l) (k : Nat) (hk : k < l.length) :
    ∃ b off, a = some ⟨b, off, none⟩ ∧ w.cell? ⟨b, off + k, none⟩ = some (.int .i64 l[k]) := by
  obtain ⟨b, off, ha, hc⟩ := RowOf.cells (f := bi64) (size := 1) (fun _ => rfl) h k hk
  exact ⟨b, off, ha, by simpa using hc 0 _ rfl⟩
set_option maxHeartbeats 400000 in
set_option maxRecDepth 100000 in
theorem eqInts_any (a b : Option Addr) (c d n : Nat) (l : List Int) (hn : l.length = n) (w : World) (h : RowOf bi64 1 w (.slice a n c) l) (h2 : RowOf bi64 1 w (.slice b n d) l) :
    Calls Try.prog 58 #[.slice a n c, .slice b n d] w fun e w' => e = .returned (.bool true) ∧ Below w.heap.size w w' := by
  have hlm := h.small
  rw [hn] at hlm
  unfold maxLen at hlm
  have Hn := Lib.hid hn
  clear hn
  have hne : ((n : Int) != (n : Int)) = false := by simp
  go_enter Try.func58, Try.ntmps58
  go_wp2
  go_loopw [5, 13] (fun _ i wr => ∃ (k : Nat), k ≤ n ∧ i = .int .i64 (k : Int) ∧ Below w.heap.size w wr) (fun _ i _ => n - (intOf i).toNat)
  case atStart => exact ⟨0, Nat.zero_le _, rfl, Below.refl _ _⟩
  case round =>
    obtain ⟨k, hk, rfl, hbel⟩ := hrel
    by_cases hlt : k < n
    · obtain ⟨b1, o1, rfl, hc⟩ := Ints.at (h.below hbel) k (by rw [Hn.out]; exact hlt)
      obtain ⟨b2, o2, rfl, hc2⟩ := Ints.at (h2.below hbel) k (by rw [Hn.out]; exact hlt)
      obtain ⟨x, hx⟩ : ∃ x, x = l[k]'(by rw [Hn.out]; exact hlt) := ⟨_, rfl⟩
      rw [← hx] at hc hc2
      have hki : (k : Int) < (n : Int) := by omega
      have hxx : (x != x) = false := by simp
      have k0 := fun u : Ext wr => u.cell hc
      have k1 := fun u : Ext wr => u.cell hc2
      clear hx
      go_wp2
      refine wp_region_typed wr 9 (by kernel_rfl) (by kernel_rfl) (Below.refl _ _) ?_; simp only [List.take_succ_cons, List.take_zero, List.take_nil]
      iterate 9 (refine wpX_step (by rfl) (fun K hK => ?_); go_simp; first | (refine hK _ ?_; clear hK K) | (apply Exists.intro; refine ⟨fun _ => ?_, hK _ ?_⟩; fail; clear hK K))
      refine wpX_end rfl ?_
      rintro w2 hw2
      simp only [List.reverse_nil, forallRel]
      have hbel2 := hbel.trans (hw2.mono hbel.size)
      clear k0 k1 hc hc2
      go_wp2
      go_roundw
      case rel => exact ⟨k + 1, by omega, by go_num, hbel2⟩
      case measure => simp [intOf]; omega
    · obtain rfl : k = n := by omega
      have hdk : decide (k < k) = false := by rw [decide_eq_false_iff_not]; omega
      go_wp2
      go_ret
      exact ⟨rfl, hbel⟩
end Go.Proofs.Ytbnghkhipmhojaa
