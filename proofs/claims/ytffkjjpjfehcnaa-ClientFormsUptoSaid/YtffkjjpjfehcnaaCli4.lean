/- client.numbers. -/
import Derived.Test.YtffkjjpjfehcnaaHdr6
import Derived.Test.YtffkjjpjfehcnaaSeat2
import Derived.Test.YtffkjjpjfehcnaaPackA
set_option linter.unusedSimpArgs false
set_option linter.unusedVariables false
namespace Go.Proofs.Ytffkjjpjfehcnaa
open Go.RowKit
theorem elN : El0 Try.prog 36 24 (.int .u64 0) 1 8 u64c := ⟨by kernel_rfl, by kernel_rfl, rfl, by omega, fun _ => rfl⟩
set_option maxHeartbeats 2000000 in
set_option maxRecDepth 100000 in
theorem cnums_any (l : Bool) (ta : Option Addr) (tn tc : Nat) (t : List UInt8) (ka : Option Addr) (kn kc : Nat) (ks : List Itm) (hkn : ks.length = kn) (hk8 : kn ≤ 1048576) (w : World) (h : IsItm w (.mk l (.slice ta tn tc) t (.slice ka kn kc) ks)) : Calls Try.prog 90 #[.agg #[.bool l, .slice ta tn tc, .slice ka kn kc]] w fun e w' => ∃ v, e = .returned v ∧ OwnOf u64c 1 24 w' w.heap.size v ((ks.map itt).map nfP) ∧ Below w.heap.size w w' := by
  have hrow := h.inv.2.1
  have hkids := h.inv.2.2
  have Hkn := Lib.hid hkn
  have Hkids := Lib.hid hkids
  have hbel0 : Below w.heap.size w (w.alloc (.cells #[.bool l, .slice ta tn tc, .slice ka kn kc] 128)) := (Below.refl _ _).alloc (Nat.le_refl _) _
  clear h hkn hkids
  go_enter Try.func90, Try.ntmps90
  go_wp2_with fail
  try simp only [Act.put]
  go_loopw [3, 11] (fun lv ix wr => ∃ i : Nat, i ≤ kn ∧ ix = .int .i64 (i : Int) ∧ Below w.heap.size w wr ∧ OwnOf u64c 1 24 wr w.heap.size lv (((ks.map itt).take i).map nfP)) (fun _ ix _ => kn - (intOf ix).toNat)
  case atStart => exact ⟨0, by omega, rfl, hbel0, OwnOf.nil u64c 1 _ _ _⟩
  case round =>
    clear hbel0
    obtain ⟨i, hin, rfl, hb, hO⟩ := hrel
    have hpl : (((ks.map itt).take i).map nfP).length = i := by
      simp only [List.length_map, List.length_take, Hkn.out]; omega
    obtain ⟨la, lc, rfl, _⟩ := hO.form' i hpl
    have Hpl := Lib.hid hpl
    clear hpl
    by_cases hlt : i < kn
    · have hii : (i : Int) < (kn : Int) := by omega
      have hl1 : i < ks.length := by rw [Hkn.out]; exact hlt
      obtain ⟨b2, off2, rfl, hr⟩ := RowOf.range icells_len (hrow.below hb) i hl1
      have hI0 := Hkids.out _ (List.getElem_mem hl1)
      have hnext : (ks.map itt).take (i + 1) = (ks.map itt).take i ++ [itt ks[i]] := by
        rw [List.take_succ_eq_append_getElem (by rw [List.length_map]; exact hl1), List.getElem_map]
      obtain ⟨kid, hkid⟩ : ∃ x, x = ks[i] := ⟨_, rfl⟩
      rw [← hkid] at hr hI0 hnext
      obtain ⟨l2, tv2, t2, kv2, ks2⟩ := kid
      obtain ⟨ta2, tc2, rfl, _, _⟩ := hI0.inv.1.form
      obtain ⟨ka2, kc2, rfl, _, _⟩ := hI0.inv.2.1.form
      have hb2 : Bytes w (.slice ta2 t2.length tc2) t2 := hI0.inv.1
      obtain ⟨kn2, hkn2⟩ : ∃ kn2, kn2 = ks2.length := ⟨_, rfl⟩
      rw [← hkn2] at hr
      change wr.rangeAt b2 (off2 + i * 3) [.bool l2, .slice ta2 t2.length tc2, .slice ka2 kn2 kc2] at hr
      change (ks.map itt).take (i + 1) = (ks.map itt).take i ++ [t2] at hnext
      have Hnext := Lib.hid hnext
      have bA : Below wr.heap.size wr (wr.alloc (.cells #[.bool l2, .slice ta2 t2.length tc2, .slice ka2 kn2 kc2] 128)) := (Below.refl _ _).alloc (Nat.le_refl _) _
      have O2 := hO.kept bA
      have hbA := Below.then hb bA
      have hbt := RowOf.below (f := b8) (size := 1) hb2 hbA
      have cn := fun u (hu : Bytes u (.slice ta2 t2.length tc2) t2) => tonum_any ta2 tc2 t2 u hu
      obtain ⟨N, hN⟩ : ∃ N, N = numV t2 := ⟨_, rfl⟩
      have hnf : nfP t2 = lim N 0 := by rw [hN]; rfl
      rw [← hN] at cn
      have Cn := Lib.hid cn
      have Hnf := Lib.hid hnf
      obtain ⟨tn2, htn2⟩ : ∃ tn2, tn2 = t2.length := ⟨_, rfl⟩
      clear hkid hI0 hkn2 hnext hl1 cn hnf hN hb2
      go_wp2_with (first
        | (refine wpList_load_mid (op := ⟨some 14, _, _, _, _, _⟩) (by rfl) 128 (.tmp 13) (by rfl) b2 (off2 + i * 3) (by rfl) [.bool l2, .slice ta2 t2.length tc2, .slice ka2 kn2 kc2] _ hr Try.underlying128 rfl (by kernel_rfl) ?_)
        | (go_at_call 75; (with_reducible refine (Cn.out _ hbt).mono ?_); rintro e w5 ⟨rfl, b5⟩; have O5 := O2.kept b5; have hb5 := Below.then hbA b5; unfold wv)
        | ((with_reducible show wpList _ _ _ (⟨none, Op.store _ _ (Operand.tmp 19), _, _, _, _⟩ :: _) _ _); refine wpList_storeA (o := ⟨none, _, _, _, _, _⟩) (by rfl) 48 (.tmp 6) (.tmp 19) (by rfl) w5.heap.size (wcs N) (by rfl) (by rfl) aggWord (Blk.new w5 48 z4) (wcs_len N) (by rfl) (wcs_one N) ((Below.refl w5.heap.size w5).alloc (Nat.le_refl _) (.cells z4.toArray 48)) (Nat.le_refl _) ?_; intro w6 h6 b6 _; have O6 := O5.kept b6; have hb6 := Below.then hb5 b6; have n0 : w6.cell? ⟨w5.heap.size, 0, none⟩ = some (.int .u64 (lim N 0 : Int)) := h6.wat 0 (by omega))
        | (refine wpList_buildW (o := ⟨some 24, _, _, _, _, _⟩) (by rfl) 36 1 [(0, .tmp 23)] (by rfl) elN [lim N 0] [.int .u64 (lim N 0 : Int)] (by rfl) (by rfl) (by rfl) (by omega) (by omega) ?_; intro w7 _ hr7 b7; have O7 := O6.kept b7; have hb7 := Below.then hb6 b7; have hlt7 : w.heap.size ≤ w7.heap.size := hb7.size)
        | (refine wpList_appB (o := ⟨some 25, _, _, _, _, _⟩) (by rfl) (.tmp 21) (.tmp 24) 36 (by rfl) elN (by intro u hu; simp [u64c] at hu; subst hu; rfl) (by rfl) O7 (by rfl) hr7 hlt7 (by rw [Hpl.out]; simp; omega) (by rw [Hpl.out]; unfold maxLen; simp; omega) ?_; intro v8 w8 hO8 gg8 _; obtain ⟨la8, lc8, rfl, _⟩ := hO8.form' (i + 1) (by rw [List.length_append, Hpl.out]; rfl); have hb8 := hb7.grown gg8 hb7.size (fun x hx => O7.lt x hx)))
      go_roundw
      case rel => exact ⟨i + 1, by omega, by go_num, hb8, by rw [Hnext.out, List.map_append, List.map_cons, List.map_nil, Hnf.out]; exact hO8⟩
      case measure => simp [intOf]; omega
    · obtain rfl : kn = i := by omega
      rw [List.take_of_length_le (by rw [List.length_map, Hkn.out]; exact Nat.le_refl _)] at hO
      go_wp2_with fail
      go_ret
      exact ⟨_, rfl, hO, hb⟩
end Go.Proofs.Ytffkjjpjfehcnaa
