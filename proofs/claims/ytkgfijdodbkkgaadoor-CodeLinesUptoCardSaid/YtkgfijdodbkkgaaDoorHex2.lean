/- The reference's XPrint. -/
import Derived.Test.YtkgfijdodbkkgaaDoorHex1
set_option linter.unusedSimpArgs false
set_option linter.unusedVariables false
namespace Go.Proofs.YtkgfijdodbkkgaaDoor
open Go.RowKit
theorem encode_small (x : UInt8) (h : x.toNat < 128) : Utf8.encode (x.toNat : Int) = ⟨#[x]⟩ := by
  have key : ∀ n : Fin 128, Utf8.encode ((n.val : Nat) : Int) = ⟨#[UInt8.ofNat n.val]⟩ := by decide
  have := key ⟨x.toNat, h⟩
  simpa using this
theorem hexd_lo (t : UInt8) (h : t.toNat < 10) : (48 : Int) + (t.toNat : Int) = ((hexd t).toNat : Int) ∧ (hexd t).toNat < 128 := by
  unfold hexd; rw [if_pos h, UInt8.toNat_add, show (48 : UInt8).toNat = 48 from rfl]; omega
theorem hexd_hi (t : UInt8) (h : ¬ t.toNat < 10) (h16 : t.toNat < 16) : (97 : Int) + (t.toNat : Int) - 10 = ((hexd t).toNat : Int) ∧ (hexd t).toNat < 128 := by
  unfold hexd; rw [if_neg h, UInt8.toNat_add, show (87 : UInt8).toNat = 87 from rfl]; omega
theorem str_snoc (l : List UInt8) (x : UInt8) : Value.string (⟨l.toArray⟩ ++ ⟨#[x]⟩ : ByteArray) = str (l ++ [x]) := by
  unfold str; congr 1
set_option maxHeartbeats 400000 in
set_option maxRecDepth 100000 in
theorem xprint_any (a : Option Addr) (c : Nat) (l : List UInt8) (w : World) (h : Bytes w (.slice a l.length c) l) (hl : 2 * l.length + 2 ≤ 140737488355328) :
    Calls Tryd.prog 16 #[.slice a l.length c] w fun e w' => e = .returned (str (printL l)) ∧ Below w.heap.size w w' := by
  go_enter Tryd.func16, Tryd.ntmps16
  go_wp2
  go_loopw [3, 5, 7, 10] (fun v _ _ i wr => ∃ k : Nat, k ≤ l.length ∧ i = .int .i64 (k : Int) ∧ v = str (printL (l.take k)) ∧ Below w.heap.size w wr ∧ w.heap.size ≤ wr.heap.size) (fun _ _ _ i _ => l.length - (intOf i).toNat)
  case atStart => exact ⟨0, Nat.zero_le _, rfl, rfl, Below.refl _ _, Nat.le_refl _⟩
  case round =>
    obtain ⟨k, hk, rfl, rfl, hbel, hB⟩ := hrel
    by_cases hlt : k < l.length
    · obtain ⟨b, off, rfl, hbl, hc⟩ := h.later hbel k hlt
      have hsn : printL (l.take (k + 1)) = printL (l.take k) ++ [hexd (l[k] / 16), hexd (l[k] % 16)] := by rw [snoc_at l k hlt, printL_snoc]
      obtain ⟨x, hx⟩ : ∃ x, x = l[k] := ⟨_, rfl⟩
      rw [← hx] at hc hsn
      have hx8 := u8_lt x
      have hpl : (printL (l.take k)).length = 2 * k + 2 := by
        have := hexL_len (l.take k)
        rw [List.length_take] at this
        simp [printL]; omega
      obtain ⟨y, hy⟩ : ∃ y, y = x / 16 := ⟨_, rfl⟩
      obtain ⟨z, hz⟩ : ∃ z, z = x % 16 := ⟨_, rfl⟩
      have hy16 : y.toNat < 16 := by rw [hy, UInt8.toNat_div, show (16 : UInt8).toNat = 16 from rfl]; omega
      have hz16 : z.toNat < 16 := by rw [hz, UInt8.toNat_mod, show (16 : UInt8).toNat = 16 from rfl]; omega
      have ey : (x.toNat : Int) / 16 = (y.toNat : Int) := by rw [hy, div_u8_16]
      have ez : (x.toNat : Int) % 16 = (z.toNat : Int) := by rw [hz, mod_u8_16]
      rw [← hy, ← hz] at hsn
      obtain ⟨P0, hP⟩ : ∃ P0, P0 = printL (l.take k) := ⟨_, rfl⟩
      rw [← hP] at hsn hpl ⊢
      have hyz : Bytes (wr.alloc (.cells #[.int .u8 (y.toNat : Int), .int .u8 (z.toNat : Int)] 5)) (.slice (some ⟨wr.heap.size, 0, none⟩) 2 2) [y, z] := RowOf.made b8 1 _ [y, z] _ _ 2 rfl rfl rfl (by decide)
      have Hpl := Lib.hid hpl
      have Hsn := Lib.hid hsn
      clear hpl hsn hy hz hx hP
      go_wp2
      obtain ⟨w2, hw2⟩ : ∃ w2, w2 = wr.alloc (.cells #[.int .u8 (y.toNat : Int), .int .u8 (z.toNat : Int)] 5) := ⟨_, rfl⟩
      rw [← hw2] at hyz ⊢
      have hbel2 : Below w.heap.size w w2 := by rw [hw2]; exact hbel.alloc hB _
      have hB2 : w.heap.size ≤ w2.heap.size := hbel2.size
      clear hw2
      go_loopw [3, 7, 20] (fun v _ i wi => ∃ j : Nat, j ≤ 2 ∧ i = .int .i64 (j : Int) ∧ v = str (P0 ++ [hexd y, hexd z].take j) ∧ wi = w2) (fun _ _ i _ => 2 - (intOf i).toNat)
      case atStart => exact ⟨0, by omega, rfl, by simp [str], rfl⟩
      case round =>
        obtain ⟨j, hj, rfl, rfl, rfl⟩ := hrel
        by_cases hj2 : j < 2
        · obtain ⟨t, ht⟩ : ∃ t, t = ([y, z] : List UInt8)[j]'(by simpa using hj2) := ⟨_, rfl⟩
          obtain ⟨b3, off3, e3, hc3⟩ := hyz.at j (by simpa using hj2)
          simp only [Option.some.injEq, Addr.mk.injEq, and_true] at e3
          obtain ⟨rfl, rfl⟩ := e3
          rw [← ht, Nat.zero_add] at hc3
          have ht16 : t.toNat < 16 := by
            rw [ht]
            rcases (show j = 0 ∨ j = 1 from by omega) with rfl | rfl
            · exact hy16
            · exact hz16
          have hsj : [hexd y, hexd z].take (j + 1) = [hexd y, hexd z].take j ++ [hexd t] := by
            rw [ht]
            rcases (show j = 0 ∨ j = 1 from by omega) with rfl | rfl <;> rfl
          have hPj : (P0 ++ [hexd y, hexd z].take j).length ≤ 2 * k + 4 := by rw [List.length_append, Hpl.out, List.length_take]; simp; omega
          obtain ⟨P1, hP1⟩ : ∃ P1, P1 = P0 ++ [hexd y, hexd z].take j := ⟨_, rfl⟩
          have hnext : str (P0 ++ [hexd y, hexd z].take (j + 1)) = str (P1 ++ [hexd t]) := by rw [hsj, hP1, List.append_assoc]
          rw [← hP1] at hPj ⊢
          have hji : (j : Int) < 2 := by omega
          have Hn := Lib.hid hnext
          clear hnext hsj hP1 ht
          by_cases h10 : t.toNat < 10
          · have hh := hexd_lo t h10
            have henc := encode_small (hexd t) hh.2
            have e1 := hh.1
            have d10 : decide ((t.toNat : Int) < 10) = true := by rw [decide_eq_true_eq]; omega
            clear hh
            go_wp2
            go_roundw
            case rel => exact ⟨j + 1, by omega, by go_num, by rw [Hn.out]; exact str_snoc _ _, trivial⟩
            case measure => simp [intOf]; omega
          · have hh := hexd_hi t h10 ht16
            have henc := encode_small (hexd t) hh.2
            have e1 := hh.1
            have d10 : decide ((t.toNat : Int) < 10) = false := by rw [decide_eq_false_iff_not]; omega
            have d87 : 10 ≤ t.toNat := by omega
            clear hh
            go_wp2
            go_roundw
            case rel => exact ⟨j + 1, by omega, by go_num, by rw [Hn.out]; exact str_snoc _ _, trivial⟩
            case measure => simp [intOf]; omega
        · obtain rfl : j = 2 := by omega
          go_wp2
          go_roundw
          case rel => exact ⟨k + 1, by omega, by go_num, by rw [Hsn.out]; rfl, hbel2, hB2⟩
          case measure => simp [intOf]; omega
    · obtain rfl : k = l.length := by omega
      rw [List.take_of_length_le (Nat.le_refl _)]
      go_wp2
      go_ret
      exact ⟨rfl, hbel⟩
end Go.Proofs.YtkgfijdodbkkgaaDoor
