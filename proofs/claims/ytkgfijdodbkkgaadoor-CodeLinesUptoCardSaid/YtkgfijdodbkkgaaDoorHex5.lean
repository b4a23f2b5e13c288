/- hex.Parse. -/
import Derived.Test.YtkgfijdodbkkgaaDoorHex4
import Derived.Test.YtkgfijdodbkkgaaDoorNibA
set_option linter.unusedSimpArgs false
set_option linter.unusedVariables false
namespace Go.Proofs.YtkgfijdodbkkgaaDoor
open Go.RowKit
def parseOk (L : List UInt8) : Bool := okH L && (L.length % 2 == 0)
def parseR (L : List UInt8) : List UInt8 := if parseOk L = true then joinL ((L.drop 2).map dg) else []
def parseE (L : List UInt8) : Int := if parseOk L = true then 0 else 1
theorem parse_yes {L : List UInt8} (h : parseOk L = true) : parseR L = joinL ((L.drop 2).map dg) ∧ parseE L = 0 := by unfold parseR parseE; simp [h]
theorem parse_no {L : List UInt8} (h : parseOk L = false) : parseR L = [] ∧ parseE L = 1 := by unfold parseR parseE; simp [h]
theorem okH_len {L : List UInt8} (h : okH L = true) : 2 ≤ L.length := by
  unfold okH at h; rw [decide_eq_true_eq] at h; exact h.1
theorem okH_dg {L : List UInt8} (h : okH L = true) (j : Nat) (hj : j < ((L.drop 2).map dg).length) : (((L.drop 2).map dg)[j]).toNat ≤ 15 := by
  unfold okH at h; rw [decide_eq_true_eq] at h
  simp only [List.length_map, List.length_drop] at hj
  have := h.2 (2 + j) (by omega)
  unfold fineP at this
  rw [if_neg (by omega), if_neg (by omega)] at this
  simp only [List.getElem_map, List.getElem_drop]
  omega
set_option maxHeartbeats 400000 in
set_option maxRecDepth 100000 in
theorem parse_any (s : ByteArray) (hs : s.size ≤ 140737488351232) (w : World) :
    Calls Tryd.prog 19 #[.string s] w fun e w' => ∃ v, e = .returned (.tuple #[v, .int .i64 (parseE s.data.toList)]) ∧ OwnOf b8 1 5 w' w.heap.size v (parseR s.data.toList) ∧ Below w.heap.size w w' := by
  have hcall := fun w1 => hhalves_any s hs w1
  have hlen : s.data.toList.length = s.size := by simp
  generalize s.data.toList = L at hcall hlen ⊢
  have Hcall := Lib.hid hcall
  clear hcall
  obtain ⟨D, hD⟩ : ∃ D, D = halfR L := ⟨_, rfl⟩
  obtain ⟨n, hn⟩ : ∃ n, n = D.length := ⟨_, rfl⟩
  have Hn := Lib.hid hn
  have HD := Lib.hid hD
  cases hok : okH L with
  | false =>
    have hno := parse_no (L := L) (by unfold parseOk; rw [hok]; rfl)
    have Hno := Lib.hid hno
    have Hok := Lib.hid hok
    clear hno hok hn hD
    go_enter Tryd.func19, Tryd.ntmps19
    go_wp2_with (go_at_call 28; refine (Hcall.out _).mono ?_; rw [Hok.out, ← HD.out]; rintro e w1 ⟨v, rfl, hv, b1⟩; obtain ⟨a1, c1, rfl, _⟩ := hv.form' n Hn.out.symm)
    go_ret2
    exact ⟨_, by rw [Hno.out.2]; rfl, by rw [Hno.out.1]; exact OwnOf.nil _ _ _ _ _, b1⟩
  | true =>
    have hR := halfR_yes hok
    have h2 := okH_len hok
    have hnl : n = L.length - 2 := by rw [hn, hD, hR, List.length_map, List.length_drop]
    have hdg : ∀ j (hj : j < D.length), (D[j]).toNat ≤ 15 := by rw [hD, hR]; exact okH_dg hok
    by_cases hodd : n % 2 = 1
    · have hno := parse_no (L := L) (by unfold parseOk; rw [hok, Bool.true_and, beq_eq_false_iff_ne]; omega)
      have ht : ((n : Int) % 2 == 1) = true := by rw [beq_iff_eq]; omega
      have Hno := Lib.hid hno
      have Hok := Lib.hid hok
      clear hno hok hn hD hR hnl hdg
      go_enter Tryd.func19, Tryd.ntmps19
      go_wp2_with (go_at_call 28; refine (Hcall.out _).mono ?_; rw [Hok.out, ← HD.out]; rintro e w1 ⟨v, rfl, hv, b1⟩; obtain ⟨a1, c1, rfl, _⟩ := hv.form' n Hn.out.symm)
      go_ret2
      exact ⟨_, by rw [Hno.out.2]; rfl, by rw [Hno.out.1]; exact OwnOf.nil _ _ _ _ _, b1⟩
    · have hyes := parse_yes (L := L) (by unfold parseOk; rw [hok, Bool.true_and, beq_iff_eq]; omega)
      rw [← hR, ← hD] at hyes
      have ht : ((n : Int) % 2 == 1) = false := by rw [beq_eq_false_iff_ne]; omega
      have hns : n ≤ 140737488351232 := by omega
      have Hyes := Lib.hid hyes
      have Hok := Lib.hid hok
      have Hdg := Lib.hid hdg
      clear hyes hok hn hD hR hnl hdg
      go_enter Tryd.func19, Tryd.ntmps19
      go_wp2_with (go_at_call 28; refine (Hcall.out _).mono ?_; rw [Hok.out, ← HD.out]; rintro e w1 ⟨v, rfl, hv, b1⟩; obtain ⟨a1, c1, rfl, _⟩ := hv.form' n Hn.out.symm)
      have hD1 : Bytes w1 (.slice a1 n c1) D := hv.row
      have hB1 := b1.size
      go_loopw [6, 7] (fun v i wr => ∃ j : Nat, 2 * j ≤ n ∧ i = .int .i64 ((2 * j : Nat) : Int) ∧ OwnOf b8 1 5 wr w1.heap.size v (joinL (D.take (2 * j))) ∧ Below w1.heap.size w1 wr ∧ w1.heap.size ≤ wr.heap.size) (fun _ i _ => n - (intOf i).toNat)
      case atStart => exact ⟨0, by omega, rfl, OwnOf.nil _ _ _ _ _, Below.refl _ _, Nat.le_refl _⟩
      case round =>
        obtain ⟨j, hj, rfl, hown, hbel, hB⟩ := hrel
        by_cases hlt : 2 * j < n
        · obtain ⟨i0, hi0⟩ : ∃ i0, i0 = 2 * j := ⟨_, rfl⟩
          have hjt := join_take D j (by have := Hn.out; omega)
          obtain ⟨b, off, rfl, hbl, hc0⟩ := hD1.later hbel (2 * j) (by have := Hn.out; omega)
          obtain ⟨_, _, e, _, hc1⟩ := hD1.later hbel (2 * j + 1) (by have := Hn.out; omega)
          simp only [Option.some.injEq, Addr.mk.injEq, and_true] at e
          obtain ⟨rfl, rfl⟩ := e
          obtain ⟨x, hx⟩ : ∃ x, x = D[2 * j]'(by have := Hn.out; omega) := ⟨_, rfl⟩
          obtain ⟨y, hy⟩ : ∃ y, y = D[2 * j + 1]'(by have := Hn.out; omega) := ⟨_, rfl⟩
          have hx15 : x.toNat ≤ 15 := by rw [hx]; exact Hdg.out _ _
          have hy15 : y.toNat ≤ 15 := by rw [hy]; exact Hdg.out _ _
          rw [← hx, ← hy] at hjt
          rw [← hx] at hc0
          rw [← hy] at hc1
          have hjb := join_bits x y hx15 hy15
          have hwx : IntKind.u8.wrap ((x.toNat : Int) * 16) = (x.toNat : Int) * 16 := by rw [IntKind.wrap_u8']; omega
          obtain ⟨z, hz⟩ : ∃ z, z = x * 16 + y := ⟨_, rfl⟩
          rw [← hz] at hjb hjt
          have hjl := joinL_le (D.take (2 * j))
          rw [List.length_take] at hjl
          obtain ⟨O, hO⟩ : ∃ O, O = joinL (D.take (2 * j)) := ⟨_, rfl⟩
          rw [← hO] at hown hjl hjt
          have hOl : O.length ≤ n := by have := Hn.out; omega
          rw [← hi0] at hc0 hc1 hlt ⊢
          obtain ⟨i1, hi1⟩ : ∃ i1, i1 = i0 + 1 := ⟨_, rfl⟩
          rw [← hi1] at hc1
          have e1 : IntKind.i64.wrap ((i0 : Int) + 1) = (i1 : Int) := by rw [IntWalk.i64_in _ (by omega)]; omega
          have e1' : (i0 : Int) + 1 = (i1 : Int) := by omega
          have e2 : IntKind.i64.wrap (i1 : Int) = (i1 : Int) := IntWalk.i64_in _ (by omega)
          have g0 : (i0 : Int) < (n : Int) := by omega
          have g1 : (i1 : Int) < (n : Int) := by omega
          have g1' : i1 < n := by omega
          have hnext : (i0 : Int) + 2 = ((2 * (j + 1) : Nat) : Int) := by omega
          have h2j : 2 * (j + 1) ≤ n := by omega
          have Hjt := Lib.hid hjt
          have Hz := Lib.hid hz
          have Hi0 := Lib.hid hi0
          have Hnext := Lib.hid hnext
          clear hjt hz hO hx hy hi0 hi1 hnext hjl hx15 hy15 hj
          have k0 := fun u : Ext wr => u.cell hc0
          have k1 := fun u : Ext wr => u.cell hc1
          go_wp2
          refine wp_region_typed wr 13 (by kernel_rfl) (by kernel_rfl) (Below.refl _ _) ?_; simp only [List.take_succ_cons, List.take_zero, List.take_nil]
          iterate 12 (refine wpX_step (by rfl) (fun K hK => ?_); go_simp; first | (refine hK _ ?_; clear hK K) | (apply Exists.intro; refine ⟨fun _ => ?_, hK _ ?_⟩; fail; clear hK K))
          refine wpX_rel 39 (fun v w2 => ∃ b, v = .slice (some ⟨b, 0, none⟩) 1 1 ∧ Bytes w2 v [z]) rfl (of_decide_eq_true rfl) (fun v w2 w3 ⟨b, hv, h1⟩ h2 => ⟨b, hv, RowOf.kept h1 h2⟩) (fun w2 hw2 => ?_) ?_
          · change forallRel w2 [] _ _
            simp only [forallRel]
            refine ⟨rfl, ?_⟩
            go_simp
            exact ⟨(Below.refl _ _).alloc (Nat.le_refl _) _, RowOf.made b8 1 _ [z] _ _ 1 rfl rfl rfl (by decide)⟩
          refine wpX_nil ?_
          intro w2 hw2 v39 h39
          change wpList _ _ _ [_, _] _ _
          obtain ⟨g, rfl, hm⟩ := h39
          have hbel2 := hbel.trans (hw2.mono hB)
          have hB2 := Nat.le_trans hB hw2.size
          have hown2 := hown.kept hw2
          go_wp2_with (at_builtin; (refine wpList_app rfl (.tmp 27) (.tmp 39) 22 rfl elU8 rfl hown2 rfl hm hbel2 hB2 (by simp; omega) (by simp [maxLen]; omega) ?_; intro v4 w4 hv4 hg4 _ hB4))
          go_roundw
          case rel => exact ⟨j + 1, h2j, val_int (by first | exact Hnext.out | rw [IntWalk.i64_in _ (by omega)]; exact Hnext.out), by rw [show 2 * (j + 1) = 2 * j + 2 from rfl, Hjt.out]; exact hv4, hg4, hB4⟩
          case measure => simp [intOf]; omega
        · obtain rfl : n = 2 * j := by omega
          have hfin : D.take (2 * j) = D := List.take_of_length_le (by have := Hn.out; omega)
          rw [hfin] at hown
          have hdk : decide (((2 * j : Nat) : Int) < ((2 * j : Nat) : Int)) = false := by rw [decide_eq_false_iff_not]; omega
          clear hfin
          go_wp2
          go_ret2
          exact ⟨_, by rw [Hyes.out.2]; rfl, by rw [Hyes.out.1]; exact World.ownsRow.mono hown hB1, b1.trans (hbel.mono hB1)⟩
end Go.Proofs.YtkgfijdodbkkgaaDoor
