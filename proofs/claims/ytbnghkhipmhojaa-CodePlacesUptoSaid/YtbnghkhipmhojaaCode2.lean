/- code.Landings and the reference's LLandings. -/
import Derived.Test.YtbnghkhipmhojaaCode1
namespace Go.Proofs.Ytbnghkhipmhojaa
open Go.RowKit
theorem elI64 : El Try.prog 68 3 (.int .i64 0) 1 8 bi64 := ⟨by kernel_rfl, by kernel_rfl, rfl, by omega, fun _ => rfl, fun x u hu => by simp only [bi64, List.mem_singleton] at hu; subst hu; rfl⟩
/-- the landings from place i on, the next s bytes covered -/
def landF : List UInt8 → Nat → Nat → List Int
  | [], _, _ => []
  | _ :: t, i, s + 1 => landF t (i + 1) s
  | x :: t, i, 0 => (if x = 91 then [(i : Int)] else []) ++ landF t (i + 1) (push x)
theorem landF_nil (i s : Nat) : landF [] i s = [] := by unfold landF; rfl
theorem landF_skip : ∀ (t : List UInt8) (i s : Nat), landF t i s = landF (t.drop s) (i + s) 0
  | [], i, s => by rw [List.drop_nil, landF_nil, landF_nil]
  | x :: t, i, 0 => rfl
  | x :: t, i, s + 1 => by
    rw [landF, landF_skip t (i + 1) s, List.drop_succ_cons, show i + 1 + s = i + (s + 1) from by omega]
theorem landF_step (l : List UInt8) (k : Nat) (h : k < l.length) : landF (l.drop k) k 0 = (if l[k] = 91 then [(k : Int)] else []) ++ landF (l.drop (min (k + 1 + push l[k]) l.length)) (min (k + 1 + push l[k]) l.length) 0 := by
  rw [List.drop_eq_getElem_cons h, landF]
  congr 1
  rw [landF_skip, List.drop_drop]
  rcases Nat.lt_or_ge (k + 1 + push l[k]) l.length with h1 | h1
  · rw [Nat.min_eq_left (by omega)]
  · rw [Nat.min_eq_right h1, List.drop_eq_nil_of_le (by omega), List.drop_eq_nil_of_le (Nat.le_refl _), landF_nil, landF_nil]
set_option maxHeartbeats 400000 in
set_option maxRecDepth 100000 in
theorem landings_any (a : Option Addr) (c : Nat) (l : List UInt8) (w : World) (h : Bytes w (.slice a l.length c) l) (hl : l.length ≤ 1048576) :
    Calls Try.prog 59 #[.slice a l.length c] w fun e w' => ∃ v, e = .returned v ∧ OwnOf bi64 1 3 w' w.heap.size v (landF l 0 0) ∧ Below w.heap.size w w' := by
  go_enter Try.func59, Try.ntmps59
  go_wp2
  go_loopw [3, 4] (fun v i wr => ∃ (k : Nat) (o : List Int), k ≤ l.length ∧ o.length ≤ k ∧ i = .int .i64 (k : Int) ∧ OwnOf bi64 1 3 wr w.heap.size v o ∧ landF l 0 0 = o ++ landF (l.drop k) k 0 ∧ Below w.heap.size w wr ∧ w.heap.size ≤ wr.heap.size) (fun _ i _ => l.length - (intOf i).toNat)
  case atStart => exact ⟨0, [], Nat.zero_le _, Nat.le_refl _, rfl, OwnOf.nil _ _ _ _ _, rfl, Below.refl _ _, Nat.le_refl _⟩
  case round =>
    obtain ⟨k, o, hk, ho, rfl, hown, hT, hbel, hB⟩ := hrel
    by_cases hlt : k < l.length
    · obtain ⟨b, off, rfl, hbl, hc⟩ := h.later hbel k hlt
      have hstep := landF_step l k hlt
      have hnext := next_in l k hlt
      obtain ⟨x, hx⟩ : ∃ x, x = l[k] := ⟨_, rfl⟩
      rw [← hx] at hc hstep hnext
      obtain ⟨m, hm⟩ : ∃ m, m = min (k + 1 + push x) l.length := ⟨_, rfl⟩
      rw [← hm] at hstep hnext
      have hmk : k < m := by omega
      have hml : m ≤ l.length := by omega
      have hki : (k : Int) < (l.length : Int) := by omega
      have hwf : (Lit.int .i64 (k : Int)).wf = true := by
        have : IntKind.i64.wrap (k : Int) = (k : Int) := IntWalk.i64_in _ (by omega)
        have h2 := wf_wrap .i64 (k : Int)
        rw [this] at h2; exact h2
      rw [hstep, ← List.append_assoc] at hT
      by_cases hx91 : x = 91
      · have hd : ((x.toNat : Int) == 91) = true := by rw [hx91]; rfl
        rw [if_pos hx91] at hT
        have HT := Lib.hid hT
        have Hm := Lib.hid hnext
        clear hT hstep hnext hx hm hx91
        go_wp2_with (first
          | (go_at_call 56; refine (next_any _ c l (k : Int) hwf _ (h.below hg4) (by omega)).mono ?_; rintro e w' ⟨rfl, rfl⟩; rw [Hm.out])
          | (at_builtin; (refine wpList_app rfl (.tmp 17) (.tmp 19) 68 rfl elI64 rfl (hown.alloc _) rfl (RowOf.made bi64 1 _ [(k : Int)] _ _ 1 rfl rfl rfl (by decide)) (hbel.alloc hB _) (by simp; omega) (by simp; omega) (by simp [maxLen]; omega) ?_; intro v4 w4 hv4 hg4 _ hB4)))
        go_roundw
        case rel => exact ⟨m, _, hml, by simp; omega, rfl, hv4, HT.out, hg4, hB4⟩
        case measure => simp [intOf]; omega
      · have hd : ((x.toNat : Int) == 91) = false := by
          rw [beq_eq_false_iff_ne]; intro e; apply hx91; exact UInt8.toNat_inj.1 (by have : (91 : UInt8).toNat = 91 := rfl; omega)
        rw [if_neg hx91, List.append_nil] at hT
        have HT := Lib.hid hT
        have Hm := Lib.hid hnext
        clear hT hstep hnext hx hm hx91
        go_wp2_with (first
          | (go_at_call 56; refine (next_any _ c l (k : Int) hwf _ (h.below hbel) (by omega)).mono ?_; rintro e w' ⟨rfl, rfl⟩; rw [Hm.out]))
        go_roundw
        case rel => exact ⟨m, _, hml, by omega, rfl, hown, HT.out, hbel, hB⟩
        case measure => simp [intOf]; omega
    · obtain rfl : k = l.length := by omega
      rw [List.drop_eq_nil_of_le (Nat.le_refl _), landF_nil, List.append_nil] at hT
      rw [← hT] at hown
      have hdk : decide (l.length < l.length) = false := by rw [decide_eq_false_iff_not]; omega
      clear hT
      go_wp2
      go_ret
      exact ⟨_, rfl, hown, hbel⟩
end Go.Proofs.Ytbnghkhipmhojaa
