/- The walk of the law SeatsSets. -/
import Derived.Test.YtohenjgegkgncaaSeat1
import Derived.Test.YtohenjgegkgncaaSeat3
import Derived.Test.YtohenjgegkgncaaSeat4
import Derived.Test.YtohenjgegkgncaaEq
set_option linter.unusedSimpArgs false
set_option linter.unusedVariables false
namespace Go.Proofs.Ytohenjgegkgncaa
open Go.RowKit
theorem run_eq_hash (l : List UInt8) (hl : l.length = 32) (w1 : World) : (binOp .eql 46 (.agg (l.map u8v).toArray) (.agg (l.map u8v).toArray)).run Try.prog w1 = .ok (.bool true) w1 := by
  have h2 : (l.map fun x => (x.toNat : Int)).map (Value.int .u8) = l.map u8v := by rw [List.map_map]; rfl
  have := run_eqA (P := Try.prog) w1 Try.underlying46 Try.underlying5 (by kernel_rfl) (l.map fun x => (x.toNat : Int)) (l.map fun x => (x.toNat : Int)) (by rw [List.length_map, hl]) (by rw [List.length_map, hl])
  rw [h2, beq_self_eq_true] at this
  exact this
theorem guard_hash (l : List UInt8) (o1 o2 : Operand) (w1 : World) : (eqGuard .eql 46 o1 o2 (.agg (l.map u8v).toArray) (.agg (l.map u8v).toArray)).run Try.prog w1 = .ok () w1 := by
  exact run_eqGuard_agg (P := Try.prog) (w := w1) .eql 46 o1 o2 _ _ (by kernel_rfl)
theorem quorum_both (x n : Int) (hx : 0 ≤ x ∧ x ≤ 18446744073709551615) : ∃ q : Bool, (∀ w, Calls Try.prog 34 #[.int .u64 x, .int .i64 n] w fun e w' => e = .returned (.bool q) ∧ w = w') ∧ ∀ w, Calls Try.prog 35 #[.int .u64 x, .int .i64 n] w fun e w' => e = .returned (.bool q) ∧ w = w' := by
  by_cases hn : n < 1 ∨ 16 < n
  · exact ⟨false, fun w => quorum_bad x n hn w, fun w => vquorum_bad x n hn w⟩
  · obtain ⟨M, rfl⟩ : ∃ M : Nat, x = M := ⟨x.toNat, by omega⟩
    obtain ⟨k, rfl⟩ : ∃ k : Nat, n = k := ⟨n.toNat, by omega⟩
    exact ⟨quoB M k, fun w => quorum_any M k (by omega) (by omega) (by omega) w, fun w => vquorum_any M k (by omega) (by omega) (by omega) w⟩
set_option maxHeartbeats 1000000 in
set_option maxRecDepth 100000 in
theorem seatsSets_walk (a : Option Addr) (c : Nat) (l : List Nat) (x n : Int) (hx : (Lit.int .u64 x).wf = true) (w : World) (h : RowOf u64c 1 w (.slice a l.length c) l) (hl : ∀ y ∈ l, y < 18446744073709551616) (hs : l.length ≤ 1048576) :
    Calls Try.prog 7 #[.slice a l.length c, .int .u64 x, .int .i64 n] w fun e w' => e = .returned (.bool true) ∧ Below w.heap.size w w' := by
  have hb : 0 ≤ x ∧ x ≤ 18446744073709551615 := by simpa [Lit.wf, IntKind.min, IntKind.max, IntKind.signed, IntKind.bits] using hx
  obtain ⟨q, q1, q2⟩ := quorum_both x n hb
  have c1 := fun u hu => right_any a l.length c l rfl hs u hu
  have c2 := fun u hu => vright_any a l.length c l rfl hs u hu
  have c3 := fun u hu => seatSum_any a l.length c l rfl hs hl u hu
  have c4 := fun u hu => vtext_any a l.length c l rfl hs hl u hu
  have c5 := fun (a' : Option Addr) (c' : Nat) u hu => ssum_any a' (seatB l).length c' (seatB l) rfl u hu
  have hlen : (seatB l).length + 64 ≤ 140737488355328 := by
    have : ∀ (ps : List (Value × List UInt8)), ps.map (·.2) = l.map numB → (seatB l).length + 64 ≤ 140737488355328 := fun ps hp => by
      have h1 := len_encI (1 + bulkL (txts ps)) (lst (.slice none 0 0) (txts ps)) (by rw [bulk_lst]; omega) (by have := bulk_nums ps l hp hl; omega)
      have h2 := bulk_nums ps l hp hl
      have e : encI (lst (.slice none 0 0) (txts ps)) = seatB l := by rw [encI_lst_txts, hp]; rfl
      rw [e, bulk_lst] at h1
      omega
    exact this (l.map fun y => (.slice none 0 0, numB y)) (by rw [List.map_map]; rfl)
  have e1 := run_eq_hash (sumB (seatB l)) (by unfold sumB; rw [outB_len])
  have g1 := guard_hash (sumB (seatB l))
  obtain ⟨R, hR⟩ : ∃ R, R = rightB l := ⟨_, rfl⟩
  obtain ⟨Bs, hBs⟩ : ∃ Bs, Bs = seatB l := ⟨_, rfl⟩
  obtain ⟨L, hL⟩ : ∃ L, L = l.length := ⟨_, rfl⟩
  simp only [← hR, ← hBs, ← hL] at c1 c2 c3 c4 c5 h hlen e1 g1 ⊢
  generalize (Value.agg ((sumB Bs).map u8v).toArray) = X at *
  have C1 := Lib.hid c1
  have C2 := Lib.hid c2
  have C3 := Lib.hid c3
  have C4 := Lib.hid c4
  have C5 := Lib.hid c5
  have Q1 := Lib.hid q1
  have Q2 := Lib.hid q2
  have hrr : (R == R) = true := by simp
  have hqq : (q == q) = true := by simp
  clear c1 c2 c3 c4 c5 q1 q2 hR hBs hL hl hx
  go_enter Try.func7, Try.ntmps7
  go_wp2_with (first
    | (go_at_call 29; (with_reducible refine (C1.out _ h).mono ?_); rintro e w1 ⟨rfl, b1⟩)
    | (go_at_call 30; (with_reducible refine (C2.out _ (h.below b1)).mono ?_); rintro e w2 ⟨rfl, b2⟩; have b12 := Below.then b1 b2)
    | (go_at_call 31; (with_reducible refine (C3.out _ (h.below b12)).mono ?_); rintro e w3 ⟨rfl, b3⟩; have b13 := Below.then b12 b3)
    | (go_at_call 33; (with_reducible refine (C4.out _ (h.below b13)).mono ?_); rintro e w4 ⟨v4, rfl, r4, b4⟩; have b14 := Below.then b13 b4; obtain ⟨a4, c4, rfl, _, _⟩ := r4.form)
    | (go_at_call 32; (with_reducible refine (C5.out _ _ _ r4 hlen).mono ?_); rintro e w5 ⟨rfl, b5⟩; have b15 := Below.then b14 b5)
    | (go_at_call 34; (with_reducible refine (Q1.out _).mono ?_); rintro e w6 ⟨rfl, rfl⟩)
    | (go_at_call 35; (with_reducible refine (Q2.out _).mono ?_); rintro e w7 ⟨rfl, rfl⟩))
  go_ret
  exact ⟨rfl, b15⟩
end Go.Proofs.Ytohenjgegkgncaa
