/- hex.halves: a range over a string. -/
import Derived.Test.YtkgfijdodbkkgaaDoorHex3
import Derived.WalkSmall
import Derived.Lib.OthersKept
set_option linter.unusedSimpArgs false
set_option linter.unusedVariables false
namespace Go.Proofs.YtkgfijdodbkkgaaDoor
open Go.RowKit
theorem decode_high (s : ByteArray) (pos : Nat) (h : pos < s.size) (hx : 128 ≤ (s[pos]'h).toNat) : 128 ≤ (Utf8.decode s pos).1 ∧ (Utf8.decode s pos).1 < 2147483648 := by
  have e : s.get! (pos + 0) = s[pos]'h := by
    show s.get! pos = _
    simp [ByteArray.get!, getElem!_pos, h]
    rfl
  have b1 := (s.get! (pos + 1)).toNat_lt
  have b2 := (s.get! (pos + 2)).toNat_lt
  have b3 := (s.get! (pos + 3)).toNat_lt
  have b0 := (s[pos]'h).toNat_lt
  simp only [Utf8.decode, e, Utf8.runeError]
  rw [if_neg (by omega)]
  split
  · split
    · rename_i h1; constructor
      · exact h1
      · show _ < _; omega
    · exact ⟨by show 128 ≤ 65533; omega, by show 65533 < 2147483648; omega⟩
  · split
    · split
      · rename_i h1
        simp only [ge_iff_le, Bool.and_eq_true, decide_eq_true_eq] at h1
        exact ⟨by show 128 ≤ _; omega, by show _ < _; omega⟩
      · exact ⟨by show 128 ≤ 65533; omega, by show 65533 < 2147483648; omega⟩
    · split
      · split
        · rename_i h1
          simp only [ge_iff_le, Bool.and_eq_true, decide_eq_true_eq] at h1
          exact ⟨by show 128 ≤ _; omega, by show _ < _; omega⟩
        · exact ⟨by show 128 ≤ 65533; omega, by show 65533 < 2147483648; omega⟩
      · exact ⟨by show 128 ≤ 65533; omega, by show 65533 < 2147483648; omega⟩
/-- is the byte at place i fine? -/
def fineP (i : Nat) (x : UInt8) : Prop := if i = 0 then x = 48 else if i = 1 then x = 120 else (dg x).toNat < 16
instance (i : Nat) (x : UInt8) : Decidable (fineP i x) := by unfold fineP; infer_instance
def okH (L : List UInt8) : Bool := decide (2 ≤ L.length ∧ ∀ i (h : i < L.length), fineP i L[i])
def halfR (L : List UInt8) : List UInt8 := if okH L = true then (L.drop 2).map dg else []
theorem okH_not {L : List UInt8} (i : Nat) (h : i < L.length) (hn : ¬ fineP i L[i]) : okH L = false := by
  unfold okH; rw [decide_eq_false_iff_not]; exact fun hh => hn (hh.2 i h)
theorem okH_short {L : List UInt8} (h : L.length < 2) : okH L = false := by
  unfold okH; rw [decide_eq_false_iff_not]; exact fun hh => by omega
theorem okH_yes {L : List UInt8} (h : 2 ≤ L.length) (hf : ∀ i (h : i < L.length), fineP i L[i]) : okH L = true := by
  unfold okH; rw [decide_eq_true_eq]; exact ⟨h, hf⟩
theorem halfR_no {L : List UInt8} (h : okH L = false) : halfR L = [] := by unfold halfR; rw [h]; rfl
theorem halfR_yes {L : List UInt8} (h : okH L = true) : halfR L = (L.drop 2).map dg := by unfold halfR; rw [h]; rfl
set_option maxHeartbeats 800000 in
set_option maxRecDepth 100000 in
theorem hhalves_any (s : ByteArray) (hs : s.size ≤ 140737488351232) (w : World) :
    Calls Tryd.prog 28 #[.string s] w fun e w' => ∃ v, e = .returned (.tuple #[v, .bool (okH s.data.toList)]) ∧ OwnOf b8 1 5 w' w.heap.size v (halfR s.data.toList) ∧ Below w.heap.size w w' := by
  obtain ⟨L, hL⟩ : ∃ L, L = s.data.toList := ⟨_, rfl⟩
  have hlen : L.length = s.size := by rw [hL]; simp
  have hget : ∀ i (h : i < s.size), s[i]'h = L[i]'(by rw [hlen]; exact h) := by intro i h; subst hL; rfl
  rw [← hL]
  have h0 : (w.iter s 0).heap[w.heap.size]? = some (.stringIter s 0) := World.iter_heap w s 0
  have hbel0 : Below w.heap.size w (w.iter s 0) := (Below.refl _ _).alloc (Nat.le_refl _) _
  have hsz0 : w.heap.size + 1 ≤ (w.iter s 0).heap.size := by simp [World.iter]
  clear hL
  go_enter Tryd.func28, Tryd.ntmps28
  go_wp2
  go_loopw [4, 5, 6, 7] (fun v _ _ _ wr => ∃ k : Nat, k ≤ s.size ∧ wr.heap[w.heap.size]? = some (.stringIter s k) ∧ OwnOf b8 1 5 wr (w.heap.size + 1) v (((L.take k).drop 2).map dg) ∧ (∀ i (h : i < L.length), i < k → fineP i L[i]) ∧ Below w.heap.size w wr ∧ w.heap.size + 1 ≤ wr.heap.size) (fun _ _ _ _ wr => s.size - wr.iterPos w.heap.size)
  case atStart => exact ⟨0, Nat.zero_le _, h0, OwnOf.nil _ _ _ _ _, fun i h hi => by omega, hbel0, hsz0⟩
  case round =>
    clear h0 hbel0 hsz0
    obtain ⟨k, hk, hit, hown, hfine, hbel, hB⟩ := hrel
    by_cases hlt : k < s.size
    · have hki : (k : Int) < (s.size : Int) := by omega
      obtain ⟨r, hr⟩ : ∃ r, r = (Utf8.decode s k).1 := ⟨_, rfl⟩
      obtain ⟨m, hm⟩ : ∃ m, m = k + (Utf8.decode s k).2 := ⟨_, rfl⟩
      have hn := fun ty => Lib.run_next_any_at (P := Tryd.prog) wr w.heap.size s k ty hit hlt
      rw [← hr, ← hm] at hn
      obtain ⟨x, hx⟩ : ∃ x, x = L[k]'(by rw [hlen]; exact hlt) := ⟨_, rfl⟩
      have hxs := hget k hlt
      rw [← hx] at hxs
      by_cases hasc : x.toNat < 128
      · have hd := decode_ascii s k hlt (by rw [hxs]; exact hasc)
        rw [hd, hxs] at hr hm
        simp only at hr hm
        subst hr hm
        have hit2 := Lib.iterAt_heap wr w.heap.size s k (k + 1) hit
        have hown2 : OwnOf b8 1 5 (wr.iterAt w.heap.size s (k + 1)) (w.heap.size + 1) _ _ := ownsRow_iterAt hown (by omega) s (k + 1)
        have hbel2 := Lib.below_iterAt hbel (Nat.le_refl _) s (k + 1)
        have hB2 : w.heap.size + 1 ≤ (wr.iterAt w.heap.size s (k + 1)).heap.size := by rw [Lib.iterAt_size]; exact hB
        have hx8 := u8_lt x
        by_cases hk2 : k < 2
        · obtain ⟨q, hq⟩ : ∃ q : UInt8, q = if k = 0 then 48 else 120 := ⟨_, rfl⟩
          have hq120 : q.toNat ≤ 120 := by
            rw [hq]; split
            · decide
            · decide
          have hfq : fineP k x ↔ x = q := by
            rw [hq]; unfold fineP
            rcases (show k = 0 ∨ k = 1 from by omega) with rfl | rfl <;> simp
          have dk : (⟨#[48, 120]⟩ : ByteArray)[k]'(by show k < 2; exact hk2) = q := by
            rw [hq]
            rcases (show k = 0 ∨ k = 1 from by omega) with rfl | rfl <;> rfl
          have hki2 : (k : Int) < 2 := by omega
          clear hq
          by_cases hxq : x = q
          · have hf2 : ∀ i (h : i < L.length), i < k + 1 → fineP i L[i] := by
              intro i h hi
              rcases Nat.lt_or_ge i k with h1 | h1
              · exact hfine i h h1
              · obtain rfl : i = k := by omega
                rw [← hx]; exact hfq.2 hxq
            have hls : ((L.take (k + 1)).drop 2).map dg = ((L.take k).drop 2).map dg := by
              rw [List.drop_eq_nil_of_le (by rw [List.length_take]; omega), List.drop_eq_nil_of_le (by rw [List.length_take]; omega)]
            have hne : ((x.toNat : Int) != (q.toNat : Int)) = false := by rw [hxq]; simp
            have hgt : decide ((120 : Int) < (x.toNat : Int)) = false := by rw [decide_eq_false_iff_not, hxq]; omega
            have Hf := Lib.hid hf2
            have Hls := Lib.hid hls
            clear hf2 hls hfine hfq hxq hx hxs hd
            go_wp2
            go_roundw
            case rel => exact ⟨k + 1, by omega, hit2, by rw [Hls.out]; exact hown2, Hf.out, hbel2, hB2⟩
            case measure => rw [iterPos_of hit, iterPos_of hit2]; omega
          · have hno := okH_not (L := L) k (by rw [hlen]; exact hlt) (by rw [← hx]; exact fun h => hxq (hfq.1 h))
            have hR := halfR_no hno
            have hne : ((x.toNat : Int) != (q.toNat : Int)) = true := by rw [bne_iff_ne]; intro e; apply hxq; exact UInt8.toNat_inj.1 (by omega)
            have Hy := Lib.hid hno
            have HR := Lib.hid hR
            clear hno hR hfine hfq hxq hx hxs hd
            go_wp2
            go_ret2
            exact ⟨_, by rw [Hy.out]; rfl, by rw [HR.out]; exact OwnOf.nil _ _ _ _ _, hbel2⟩
        · have hki2 : ¬ ((k : Int) < 2) := by omega
          have hdk2 : decide ((k : Int) < 2) = false := by rw [decide_eq_false_iff_not]; exact hki2
          have hdg := dg_nat x
          have hfq : fineP k x ↔ (dg x).toNat < 16 := by
            unfold fineP; rw [if_neg (by omega), if_neg (by omega)]
          by_cases hg : (dg x).toNat < 16
          · have hf2 : ∀ i (h : i < L.length), i < k + 1 → fineP i L[i] := by
              intro i h hi
              rcases Nat.lt_or_ge i k with h1 | h1
              · exact hfine i h h1
              · obtain rfl : i = k := by omega
                rw [← hx]; exact hfq.2 hg
            have hls : ((L.take (k + 1)).drop 2).map dg = ((L.take k).drop 2).map dg ++ [dg x] := by
              rw [List.take_succ_eq_append_getElem (by omega), List.drop_append_of_le_length (by rw [List.length_take]; omega), List.map_append, ← hx]; rfl
            have hln : (((L.take k).drop 2).map dg).length ≤ s.size := by rw [List.length_map, List.length_drop, List.length_take]; omega
            have hd15 : decide ((15 : Int) < (dgN x.toNat : Int)) = false := by rw [decide_eq_false_iff_not]; omega
            have hdn : (dgN x.toNat : Int) = ((dg x).toNat : Int) := by omega
            obtain ⟨y, hy⟩ : ∃ y, y = dg x := ⟨_, rfl⟩
            rw [← hy] at hls hdn hdg hg
            have hgi : decide ((15 : Int) < (y.toNat : Int)) = false := by rw [decide_eq_false_iff_not]; omega
            obtain ⟨O, hO⟩ : ∃ O, O = ((L.take k).drop 2).map dg := ⟨_, rfl⟩
            rw [← hO] at hls hln hown2
            have Hf := Lib.hid hf2
            have Hls := Lib.hid hls
            have Hd := Lib.hid hdn
            clear hf2 hls hfine hfq hx hxs hd hy hO hown hdn hdg hd15
            go_wp2_with (first
              | (go_at_call 38; refine (digit_any x.toNat (by omega) _).mono ?_; rintro e w' ⟨rfl, rfl⟩; rw [Hd.out])
              | (at_builtin; (refine wpList_app rfl (.tmp 29) (.tmp 31) 22 rfl elU8 rfl (hown2.alloc _) rfl (RowOf.made b8 1 _ [y] _ _ 1 rfl rfl rfl (by decide)) (Below.alloc (Below.refl (w.heap.size + 1) _) hB2 _) (by simp; omega) (by simp; omega) (by simp [maxLen]; omega) ?_; intro v4 w4 hv4 hg4 _ hB4)))
            have hit4 := (hg4.block w.heap.size (by omega)).trans hit2
            go_roundw
            case rel => exact ⟨k + 1, by omega, hit4, by rw [Hls.out]; exact hv4, Hf.out, hbel2.trans (hg4.mono (by omega)), hB4⟩
            case measure => rw [iterPos_of hit, iterPos_of hit4]; omega
          · have hno := okH_not (L := L) k (by rw [hlen]; exact hlt) (by rw [← hx]; exact fun h => hg (hfq.1 h))
            have hR := halfR_no hno
            have hd15 : decide ((15 : Int) < (dgN x.toNat : Int)) = true := by rw [decide_eq_true_eq]; omega
            have Hy := Lib.hid hno
            have HR := Lib.hid hR
            clear hno hR hfine hfq hg hx hxs hd hdg
            go_wp2_with (first
              | (go_at_call 38; refine (digit_any x.toNat (by omega) _).mono ?_; rintro e w' ⟨rfl, rfl⟩))
            go_ret2
            exact ⟨_, by rw [Hy.out]; rfl, by rw [HR.out]; exact OwnOf.nil _ _ _ _ _, hbel2⟩
      · have hhi := decode_high s k hlt (by rw [hxs]; omega)
        rw [← hr] at hhi
        have hbel2 := Lib.below_iterAt hbel (Nat.le_refl _) s m
        have hno := okH_not (L := L) k (by rw [hlen]; exact hlt) (by
          rw [← hx]; unfold fineP
          split
          · intro e; rw [e] at hasc; exact hasc (by decide)
          · split
            · intro e; rw [e] at hasc; exact hasc (by decide)
            · rw [dg_nat]; unfold dgN; rw [if_neg (by omega), if_neg (by omega)]; omega)
        have hR := halfR_no hno
        have Hy := Lib.hid hno
        have HR := Lib.hid hR
        clear hno hR hfine hx hxs hown
        by_cases hk2 : k < 2
        · obtain ⟨q, hq⟩ : ∃ q : UInt8, q = if k = 0 then 48 else 120 := ⟨_, rfl⟩
          have dk : (⟨#[48, 120]⟩ : ByteArray)[k]'(by show k < 2; exact hk2) = q := by
            rw [hq]
            rcases (show k = 0 ∨ k = 1 from by omega) with rfl | rfl <;> rfl
          have hki2 : (k : Int) < 2 := by omega
          have hgt : decide ((120 : Int) < (r : Int)) = true := by rw [decide_eq_true_eq]; omega
          clear hq hr hm
          obtain ⟨b, hb⟩ : ∃ b, b = IntKind.u8.wrap (r : Int) := ⟨_, rfl⟩
          have hb' := hb.symm
          clear hb
          by_cases hbq : b = (q.toNat : Int)
          · have hne : (b != (q.toNat : Int)) = false := by rw [hbq]; simp
            clear hbq
            go_wp2
            go_ret2
            exact ⟨_, by rw [Hy.out]; rfl, by rw [HR.out]; exact OwnOf.nil _ _ _ _ _, hbel2⟩
          · have hne : (b != (q.toNat : Int)) = true := by rw [bne_iff_ne]; exact hbq
            clear hbq
            go_wp2
            go_ret2
            exact ⟨_, by rw [Hy.out]; rfl, by rw [HR.out]; exact OwnOf.nil _ _ _ _ _, hbel2⟩
        · have hki2 : ¬ ((k : Int) < 2) := by omega
          have hdk2 : decide ((k : Int) < 2) = false := by rw [decide_eq_false_iff_not]; exact hki2
          have hdn : dgN r = 16 := by unfold dgN; rw [if_neg (by omega), if_neg (by omega)]
          have Hd := Lib.hid hdn
          clear hdn hr hm
          go_wp2_with (first
            | (go_at_call 38; refine (digit_any r hhi.2 _).mono ?_; rintro e w' ⟨rfl, rfl⟩; rw [Hd.out]))
          go_ret2
          exact ⟨_, by rw [Hy.out]; rfl, by rw [HR.out]; exact OwnOf.nil _ _ _ _ _, hbel2⟩
    · obtain rfl : k = s.size := by omega
      have hn := fun ty => Lib.run_next_end_at (P := Tryd.prog) wr w.heap.size s s.size ty hit hlt
      by_cases h2 : 2 ≤ s.size
      · have hd : decide ((2 : Int) ≤ (s.size : Int)) = true := by rw [decide_eq_true_eq]; omega
        have hyes := okH_yes (L := L) (by omega) (fun i h => hfine i h (by omega))
        have hR := halfR_yes hyes
        rw [List.take_of_length_le (by omega)] at hown
        have Hy := Lib.hid hyes
        have HR := Lib.hid hR
        clear hyes hR hfine
        go_wp2
        go_ret2
        exact ⟨_, by rw [Hy.out]; rfl, by rw [HR.out]; exact World.ownsRow.mono hown (by omega), hbel⟩
      · have hd : decide ((2 : Int) ≤ (s.size : Int)) = false := by rw [decide_eq_false_iff_not]; omega
        have hno := okH_short (L := L) (by omega)
        have hR := halfR_no hno
        have hnil : ((L.take s.size).drop 2).map dg = [] := by rw [List.drop_eq_nil_of_le (by rw [List.length_take]; omega)]; rfl
        rw [hnil] at hown
        have Hy := Lib.hid hno
        have HR := Lib.hid hR
        clear hno hR hfine hnil
        go_wp2
        go_ret2
        exact ⟨_, by rw [Hy.out]; rfl, by rw [HR.out]; exact World.ownsRow.mono hown (by omega), hbel⟩
end Go.Proofs.YtkgfijdodbkkgaaDoor
