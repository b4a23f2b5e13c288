/- nib.Halves, Join and the reference's NHalves, NJoin. -/
import Derived.Test.YtfedjbodcebdnaaTabs
import Derived.Test.YtfedjbodcebdnaaQuiet
set_option linter.unusedSimpArgs false
set_option linter.unusedVariables false
namespace Go.Proofs.Ytfedjbodcebdnaa
open Go.RowKit
/-- two halves of each byte -/
def halfB (x : UInt8) : List UInt8 := [x / 16, x % 16]
def halvesL (l : List UInt8) : List UInt8 := l.flatMap halfB
def joinL : List UInt8 → List UInt8
  | x :: y :: l => (x * 16 + y) :: joinL l
  | _ => []
def wrongB (l : List UInt8) : Bool := l.any fun x => decide (15 < x.toNat)
def joinOk (l : List UInt8) : Bool := l.length % 2 == 0 && !wrongB l
theorem halves_len (l : List UInt8) : (halvesL l).length = 2 * l.length := by
  induction l with
  | nil => rfl
  | cons x l ih => simp [halvesL, halfB] at ih ⊢; omega
theorem halves_snoc (l : List UInt8) (x : UInt8) : halvesL (l ++ [x]) = halvesL l ++ [x / 16, x % 16] := by simp [halvesL, halfB]
theorem bits_u8_15 (x : UInt8) : bits .and .u8 (x.toNat : Int) 15 = ((x % 16).toNat : Int) := by
  have h := x.toNat_lt
  have := u8_and_nat x.toNat 15 (by omega) (by omega)
  rw [show ((15 : Nat) : Int) = 15 from rfl] at this
  rw [this, UInt8.toNat_mod, nat_mask4]; rfl
theorem div_u8_16 (x : UInt8) : (x.toNat : Int) / 16 = ((x / 16).toNat : Int) := by
  rw [UInt8.toNat_div]; rfl
theorem mod_u8_16 (x : UInt8) : (x.toNat : Int) % 16 = ((x % 16).toNat : Int) := by
  rw [UInt8.toNat_mod]; rfl
theorem half_cells (x : UInt8) : [Value.int .u8 ((x.toNat : Int) / 16), Value.int .u8 ((x.toNat : Int) % 16)] = [x / 16, x % 16].flatMap b8 := by
  rw [div_u8_16, mod_u8_16]; rfl
theorem snoc_at (l : List UInt8) (k : Nat) (h : k < l.length) : l.take (k + 1) = l.take k ++ [l[k]] := by rw [List.take_succ_eq_append_getElem h]

set_option maxHeartbeats 400000 in
set_option maxRecDepth 100000 in
theorem halves_any (a : Option Addr) (c : Nat) (l : List UInt8) (w : World) (h : Bytes w (.slice a l.length c) l) (hl : 2 * l.length ≤ 140737488355328) :
    Calls Try.prog 74 #[.slice a l.length c] w fun e w' => ∃ v, e = .returned v ∧ OwnOf b8 1 5 w' w.heap.size v (halvesL l) ∧ Below w.heap.size w w' := by
  go_enter Try.func74, Try.ntmps74
  go_wp2
  go_loopw [3, 8] (fun v i wr => ∃ k : Nat, k ≤ l.length ∧ i = .int .i64 k ∧ OwnOf b8 1 5 wr w.heap.size v (halvesL (l.take k)) ∧ Below w.heap.size w wr ∧ w.heap.size ≤ wr.heap.size) (fun _ i _ => l.length - (intOf i).toNat)
  case atStart => exact ⟨0, Nat.zero_le _, rfl, OwnOf.nil _ _ _ _ _, Below.refl _ _, Nat.le_refl _⟩
  case round =>
    obtain ⟨k, hk, rfl, hown, hbel, hB⟩ := hrel
    by_cases hlt : k < l.length
    · obtain ⟨b, off, rfl, hc⟩ := Bytes.at (h.below hbel) k hlt
      have hx := u8_lt l[k]
      have htl : (l.take k).length ≤ l.length := List.length_take_le' _ _
      have hn := halves_len (l.take k)
      have Hn := Lib.hid hn
      clear hn
      go_wp2_with (at_builtin; refine wpList_app rfl (.tmp 12) (.tmp 17) 34 rfl elU8 rfl (hown.alloc _) rfl (RowOf.made b8 1 _ [l[k] / 16, l[k] % 16] _ _ 2 (half_cells _) rfl rfl (by decide)) (hbel.alloc hB _) (by simp; omega) (by rw [Hn.out]; simp; omega) (by rw [Hn.out]; simp [maxLen]; omega) ?_; intro v4 w4 hv4 hg4 _ hB4)
      rw [← halves_snoc, ← snoc_at l k hlt] at hv4
      go_roundw
      case rel => exact ⟨k + 1, by omega, by go_num, hv4, hg4, hB4⟩
      case measure => simp [intOf]; try omega
    · obtain rfl : k = l.length := by omega
      rw [List.take_of_length_le (Nat.le_refl _)] at hown
      go_wp2
      go_ret
      exact ⟨_, rfl, hown, hbel⟩

theorem halves_at (l : List UInt8) : ∀ (i : Nat) (h : i < 2 * l.length), (halvesL l)[i]'(by rw [halves_len]; exact h) = if i % 2 = 1 then l[i / 2] % 16 else l[i / 2] / 16 := by
  induction l with
  | nil => intro i h; simp at h
  | cons x l ih =>
    intro i h
    have e : halvesL (x :: l) = x / 16 :: x % 16 :: halvesL l := by simp [halvesL, halfB]
    simp only [e]
    match i, h with
    | 0, _ => rfl
    | 1, _ => rfl
    | i + 2, h =>
      have h2 : i < 2 * l.length := by simp at h; omega
      simp only [List.getElem_cons_succ]
      rw [ih i h2]
      have e1 : (i + 2) % 2 = i % 2 := by omega
      have e2 : (i + 2) / 2 = i / 2 + 1 := by omega
      simp only [e1, e2, List.getElem_cons_succ]
set_option maxHeartbeats 400000 in
set_option maxRecDepth 100000 in
theorem nhalves_any (a : Option Addr) (c : Nat) (l : List UInt8) (w : World) (h : Bytes w (.slice a l.length c) l) (hl : 2 * l.length ≤ 140737488355328) :
    Calls Try.prog 75 #[.slice a l.length c] w fun e w' => ∃ v, e = .returned v ∧ OwnOf b8 1 5 w' w.heap.size v (halvesL l) ∧ Below w.heap.size w w' := by
  obtain ⟨T, hT⟩ : ∃ T, T = (halvesL l).map u8v := ⟨_, rfl⟩
  have hTl : T.length = 2 * l.length := by rw [hT, List.length_map, halves_len]
  obtain ⟨n, hn⟩ : ∃ n, n = 2 * l.length := ⟨_, rfl⟩
  have hmul : (2 : Int) * (l.length : Int) = (n : Int) := by omega
  have hnb : n ≤ 140737488355328 := by omega
  have hTat : ∀ (i : Nat) (x : UInt8), l[i / 2]? = some x → T[i]? = some (u8v (if i % 2 = 1 then x % 16 else x / 16)) := by
    intro i x hx
    obtain ⟨h1, rfl⟩ := List.getElem?_eq_some_iff.1 hx
    subst hT
    rw [List.getElem?_map, List.getElem?_eq_getElem (by rw [halves_len]; omega), halves_at l i (by omega)]
    rfl
  have hTn : T.length = n := by omega
  have Hn := Lib.hid hn
  have HT := Lib.hid hT
  have HTn := Lib.hid hTn
  have HTat := Lib.hid hTat
  clear hTat hT hTl hTn hn
  go_enter Try.func75, Try.ntmps75
  go_wp2_with (refine wpList_make1 rfl (.tmp 7) (.tmp 7) 34 rfl elU8 rfl .i64 .i64 _ _ n rfl rfl ?_ ?_ (Below.refl _ _) (Nat.le_refl _) ?_ ?_ ?_)
  · rfl
  · rfl
  · omega
  · unfold maxLen; omega
  intro w1 hblk hbel _ hB
  go_wp2
  go_loopw [11] (fun i wr => ∃ k : Nat, k ≤ n ∧ i = .int .i64 k ∧ Blk 5 wr w.heap.size (fillL T (.int .u8 0) k) ∧ Below w.heap.size w wr) (fun i _ => n - (intOf i).toNat)
  case atStart => exact ⟨0, Nat.zero_le _, rfl, by rw [fill_zero, HTn.out]; exact hblk, hbel⟩
  case round =>
    clear hblk hbel hB
    obtain ⟨k, hk, rfl, hblk, hbel⟩ := hrel
    by_cases hlt : k < n
    · have hk2 : k / 2 < l.length := by have := Hn.out; omega
      obtain ⟨b, off, rfl, hbl, hc⟩ := h.later hbel (k / 2) hk2
      obtain ⟨x, hx⟩ : ∃ x, x = l[k / 2] := ⟨_, rfl⟩
      rw [← hx] at hc
      have Hx := Lib.hid hx
      clear hx
      have hq : (k : Int) / 2 < (l.length : Int) := by omega
      have hxb := u8_lt x
      obtain ⟨y1, hy1⟩ := hblk.has k (by rw [fill_len _ _ _ (by rw [HTn.out]; omega), HTn.out]; exact hlt)
      have hf1 := hblk.free k
      have hc2 := cell_aside (q := ⟨w.heap.size, k, none⟩) (u := .int .u8 ((x.toNat : Int) / 16)) hc (by simp; omega)
      have hblk2 := hblk.set k (.int .u8 ((x.toNat : Int) / 16))
      have hf2 := hblk2.free k
      have hblk3 := hblk2.set k (.int .u8 ((x.toNat : Int) % 16))
      have hset := fill_set' T (.int .u8 0) k _ (HTat.out k x (by rw [List.getElem?_eq_getElem hk2, Hx.out]))
      have Hset := Lib.hid hset
      clear hset
      by_cases hodd : k % 2 = 1
      · have ht : ((k : Int) % 2 == 1) = true := by rw [beq_iff_eq]; omega
        go_wp2
        go_roundw
        case rel =>
          have hs := Hset.out
          rw [if_pos hodd] at hs
          rw [List.set_set, mod_u8_16, show Value.int .u8 ((x % 16).toNat : Int) = u8v (x % 16) from rfl, hs] at hblk3
          exact ⟨k + 1, by omega, by go_num, by rw [mod_u8_16] ; exact hblk3, (hbel.setCell (Nat.le_refl _) _).setCell (Nat.le_refl _) _⟩
        case measure => simp [intOf]; try omega
      · have ht : ((k : Int) % 2 == 1) = false := by rw [beq_eq_false_iff_ne]; omega
        go_wp2
        go_roundw
        case rel =>
          have hs := Hset.out
          rw [if_neg hodd] at hs
          rw [div_u8_16, show Value.int .u8 ((x / 16).toNat : Int) = u8v (x / 16) from rfl, hs] at hblk2
          exact ⟨k + 1, by omega, by go_num, by rw [div_u8_16] ; exact hblk2, hbel.setCell (Nat.le_refl _) _⟩
        case measure => simp [intOf]; try omega
    · obtain rfl : k = n := by omega
      have e : fillL T (.int .u8 0) k = (halvesL l).flatMap b8 := by
        have := fill_end T (.int .u8 0)
        rw [HTn.out] at this
        rw [this, HT.out, flat_b8]
      rw [e] at hblk
      have hown := hblk.own (B := w.heap.size) k (fun _ => rfl) (by rw [halves_len]; exact Hn.out.symm) (Nat.le_refl _) (by unfold maxLen; omega)
      clear e
      go_wp2
      go_ret
      exact ⟨_, rfl, hown, hbel⟩
end Go.Proofs.Ytfedjbodcebdnaa
