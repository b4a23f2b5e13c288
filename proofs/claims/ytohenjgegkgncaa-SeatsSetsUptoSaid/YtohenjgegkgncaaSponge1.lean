/- sponge.Pad and the reference's SPad: both come to one list. -/
import Derived.Test.YtohenjgegkgncaaTabs
set_option linter.unusedSimpArgs false
set_option linter.unusedVariables false
namespace Go.Proofs.Ytohenjgegkgncaa
open Go.RowKit
def padZ (n : Nat) : Nat := (62 - n % 32) % 32
def padL (l : List UInt8) : List UInt8 := l ++ [1] ++ List.replicate (padZ l.length) 0 ++ [128]

theorem pad_splice (l : List UInt8) (n : Nat) (h : n = l.length + 2 + padZ l.length) : ((((splice (List.replicate n (Value.int .u8 0)) 0 (l.map u8v)).set l.length (.int .u8 1))).set (n - 1) (.int .u8 128)) = (padL l).map u8v := by
  have e1 : splice (List.replicate n (Value.int .u8 0)) 0 (l.map u8v) = l.map u8v ++ (Value.int .u8 0 :: (List.replicate (padZ l.length) (Value.int .u8 0) ++ [Value.int .u8 0])) := by
    unfold splice
    rw [List.take_zero, List.nil_append, Nat.zero_add, List.length_map, List.drop_replicate, show n - l.length = padZ l.length + 1 + 1 from by omega, List.replicate_succ, List.replicate_succ']
  rw [e1, List.set_append_right _ _ (by simp)]
  simp only [List.length_map, Nat.sub_self, List.set_cons_zero]
  rw [List.set_append_right _ _ (by simp; omega), List.length_map, show n - 1 - l.length = padZ l.length + 1 from by omega, List.set_cons_succ, List.set_append_right _ _ (by simp)]
  simp [padL, u8v]
set_option maxHeartbeats 400000 in
theorem spad_own (a : Option Addr) (c : Nat) (l : List UInt8) (w : World) (h : Bytes w (.slice a l.length c) l) (hl : l.length + 64 ≤ 140737488355328) :
    Calls Try.prog 88 #[.slice a l.length c] w fun e w' => ∃ v, e = .returned v ∧ OwnOf b8 1 5 w' w.heap.size v (padL l) ∧ Below w.heap.size w w' := by
  have hn := h.small
  unfold maxLen at hn
  have hz : padZ l.length ≤ 31 := by unfold padZ; omega
  obtain ⟨n, hnn⟩ : ∃ n : Nat, n = l.length + 2 + padZ l.length := ⟨_, rfl⟩
  have hfin := pad_splice l n hnn
  have hnl : (splice (List.replicate n (Value.int .u8 0)) 0 (l.map u8v)).length = n := by rw [length_splice _ _ _ (by simp; omega)]; simp
  have H := Lib.hid hnn
  have hlo : l.length + 2 ≤ n ∧ n ≤ l.length + 33 := by omega
  have Hf := Lib.hid hfin
  have Hn := Lib.hid hnl
  have hcase : ((((l.length : Int) % 32 == 31) = true ∧ ((l.length : Int) / 32 + 1) * 32 + 32 = (n : Int)) ∨ (((l.length : Int) % 32 == 31) = false ∧ ((l.length : Int) / 32 + 1) * 32 = (n : Int))) := by
    unfold padZ at hnn
    by_cases ht : (l.length : Int) % 32 = 31
    · exact .inl ⟨by simpa using ht, by omega⟩
    · exact .inr ⟨by simpa using ht, by omega⟩
  clear hnn hfin hnl
  go_enter Try.func88, Try.ntmps88
  rcases hcase with ⟨ht, hn2⟩ | ⟨ht, hn2⟩
  all_goals
    go_wp2_with (refine wpList_make1 rfl (.tmp 16) (.tmp 16) 22 rfl elU8 rfl .i64 .i64 _ _ n rfl rfl ?_ ?_ (Below.refl _ _) (Nat.le_refl _) ?_ ?_ ?_)
    · rfl
    · rfl
    · omega
    · unfold maxLen; omega
    intro w1 hblk hbel _ hB
    have hle : l.length ≤ n := by omega
    have hfit : 0 + l.length ≤ (List.replicate n (Value.int .u8 0)).length := by simp; omega
    go_wp2_with (refine wpList_copyTo rfl (.tmp 18) (.tmp 19) 22 22 rfl elU8 w.heap.size 0 n n rfl (.slice a l.length c) l rfl (h.below hbel) hle _ hblk hfit w.heap.size w hbel (Nat.le_refl _) ?_)
    intro w2 hblk2 hbel2
    clear hle hfit
    rw [flat_b8] at hblk2; obtain ⟨x1, hk1⟩ := hblk2.has l.length (by rw [Hn.out]; omega); have hk2 := hblk2.free l.length; have hblk3 := hblk2.set l.length (.int .u8 1); obtain ⟨x3, hk3⟩ := hblk3.has (n - 1) (by rw [List.length_set, Hn.out]; omega); have hk4 := hblk3.free (n - 1)
    go_wp2
    go_ret
    have hblk4 := hblk3.set (n - 1) (.int .u8 128)
    rw [Hf.out, ← flat_b8] at hblk4
    refine ⟨_, rfl, (hblk4.own (B := w.heap.size) n (fun _ => rfl) ?_ (Nat.le_refl _) (by unfold maxLen; omega)), (hbel2.setCell (Nat.le_refl _) _).setCell (Nat.le_refl _) _⟩
    have := H.out
    simp [padL]; omega
theorem spad_any (a : Option Addr) (c : Nat) (l : List UInt8) (w : World) (h : Bytes w (.slice a l.length c) l) (hl : l.length + 64 ≤ 140737488355328) :
    Calls Try.prog 88 #[.slice a l.length c] w fun e w' => ∃ v, e = .returned v ∧ Bytes w' v (padL l) ∧ Below w.heap.size w w' :=
  (spad_own a c l w h hl).mono fun e w' ⟨v, h1, h2, h3⟩ => ⟨v, h1, h2.row, h3⟩
end Go.Proofs.Ytohenjgegkgncaa
