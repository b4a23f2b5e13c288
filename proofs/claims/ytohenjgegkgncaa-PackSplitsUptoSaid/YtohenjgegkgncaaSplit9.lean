/- (*reader).item; pack.Split's deferred closure. -/
import Derived.Test.YtohenjgegkgncaaSplit8
import Derived.Recover
set_option linter.unusedSimpArgs false
set_option linter.unusedVariables false
namespace Go.Proofs.Ytohenjgegkgncaa
open Go.RowKit
theorem item_any : ∀ (n : Nat) (b : List UInt8), b.length ≤ n → b.length ≤ 1048576 → ∀ (a : Option Addr) (L c g : Nat) (w : World), b.length = L → Blk 113 w g [.slice a L c] → Bytes w (.slice a L c) b → Calls Try.prog 72 #[.pointer (some ⟨g, 0, none⟩)] w (ItemPost (par n b) (.slice a L c) b g w)
  | 0, [], _, _, a, L, c, g, w, hL, hB, h => by
    have := item_low 0 a L c [] hL (by unfold maxLen; simp at hL; omega) (by simp) g w hB h
    simpa [par] using this
  | n + 1, [], _, _, a, L, c, g, w, hL, hB, h => item_low n a L c [] hL (by unfold maxLen; simp at hL; omega) (by simp) g w hB h
  | 0, x :: r, h0, _, _, _, _, _, _, _, _, _ => by simp at h0
  | n + 1, x :: r, h0, h1, a, L, c, g, w, hL, hB, h => by
    by_cases h128 : x.toNat < 128
    · exact item_low n a L c (x :: r) hL (by unfold maxLen; omega) (fun y s e => by cases e; exact h128) g w hB h
    · by_cases h192 : x.toNat < 192
      · exact item_text n a L c x r hL (by omega) (by omega) h192 g w hB h
      · exact item_list n (item_any n) a L c x r hL (by omega) (by omega) (by omega) g w hB h
theorem run_ta (w : World) : (Instr.typeAssert (.iface 110 (.agg #[])) 20 110 true).run Try.prog w = .ok (.tuple #[.agg #[], .bool true]) w := by
  unfold Instr.typeAssert
  simp only [Sem.run_bind, run_underlying Try.underlying110, Result.andThen_ok]
  rfl
set_option maxHeartbeats 1000000 in
set_option maxRecDepth 100000 in
theorem catch_mis (g2 g3 g4 : Nat) (x : List Value) (y z : Value) (w : World) (h2 : Blk 25 w g2 x) (hx : x.length = 3) (h3 : Blk 3 w g3 [y]) (h4 : Blk 26 w g4 [z]) (h23 : g2 ≠ g3) (h24 : g2 ≠ g4) (h34 : g3 ≠ g4)
    (B : Nat) (w0 : World) (hbel : Below B w0 w) (b2 : B ≤ g2) (b3 : B ≤ g3) (b4 : B ≤ g4) :
    CallsD Try.prog 71 #[.pointer (some ⟨g2, 0, none⟩), .pointer (some ⟨g3, 0, none⟩), .pointer (some ⟨g4, 0, none⟩)] (.panicking mis) w fun e u' w' =>
      e = .returned (.tuple #[]) ∧ u' = .panicking [{ v := .iface 110 (.agg #[]), recovered := true }] ∧ Blk 25 w' g2 [.bool false, .slice none 0 0, .slice none 0 0] ∧ Blk 3 w' g3 [.int .i64 0] ∧ Blk 26 w' g4 [.int .i64 1] ∧ Below B w0 w' := by
  refine callsD_of_wpS Try.func71 rfl fun c₀ cs hu => ?_
  simp only [Try.ntmps71, List.size_toArray, List.length_cons, List.length_nil, Nat.reduceAdd, Nat.reduceSub, Array.replicate_succ, Array.replicate_zero, List.push_toArray, List.append_toArray, List.nil_append, List.cons_append]
  apply wpS_seq
  apply wpS_region
  unfold mis at hu
  simp [wpOpsS, go_sem, recoverD, hu, Exit.thenS]
  refine wpS_of_wp ?_
  have h2' := h2.alloc (.cells #[] 110)
  have h3' := h3.alloc (.cells #[] 110)
  have h4' := h4.alloc (.cells #[] 110)
  have hbel' := hbel.alloc (by have := hbel.size; have := h2.lt; omega) (.cells #[] 110)
  have hta := run_ta
  go_wp2_with ((with_reducible show wpList _ _ _ (⟨none, Op.store _ _ (Operand.tmp 17), _, _, _, _⟩ :: _) _ _); refine wpList_storeA (o := ⟨none, _, _, _, _, _⟩) (by rfl) 25 (.tmp 0) (.tmp 17) (by rfl) g2 [.bool false, .slice none 0 0, .slice none 0 0] (by rfl) (by rfl) aggItem h2' (by rfl) hx (by intro u hu; simp at hu; rcases hu with rfl | rfl <;> rfl) hbel' b2 ?_; intro w5 hh5 hbel5 hg5; have h35 := h3'.grown hg5 (by simpa using h23); have h45 := h4'.grown hg5 (by simpa using h24); have hc3 : w5.cell? ⟨g3, 0, none⟩ = some y := h35.cell 0; have hf3 := h35.free 0; have h46 := h45.other ⟨g3, 0, none⟩ (by simpa using h34) (.int .i64 0); have hc4 : (w5.setCell ⟨g3, 0, none⟩ (.int .i64 0)).cell? ⟨g4, 0, none⟩ = some z := h46.cell 0; have hf4 := h46.free 0)
  refine ⟨rfl, _, rfl, _, results_none rfl _ _ _, rfl, rfl, ?_, ?_, ?_, ?_⟩
  · exact (hh5.other ⟨g3, 0, none⟩ (by simpa using Ne.symm h23) _).other ⟨g4, 0, none⟩ (by simpa using Ne.symm h24) _
  · exact (h35.set 0 (.int .i64 0)).other ⟨g4, 0, none⟩ (by simpa using Ne.symm h34) _
  · exact h46.set 0 (.int .i64 1)
  · exact (hbel5.setCell b3 _).setCell b4 _
set_option maxHeartbeats 1000000 in
set_option maxRecDepth 100000 in
theorem catch_idle (g2 g3 g4 : Nat) (w : World) :
    CallsD Try.prog 71 #[.pointer (some ⟨g2, 0, none⟩), .pointer (some ⟨g3, 0, none⟩), .pointer (some ⟨g4, 0, none⟩)] .returning w fun e u' w' => e = .returned (.tuple #[]) ∧ u' = .returning ∧ w = w' := by
  refine callsD_of_wpS Try.func71 rfl fun c₀ cs hu => ?_
  simp only [Try.ntmps71, List.size_toArray, List.length_cons, List.length_nil, Nat.reduceAdd, Nat.reduceSub, Array.replicate_succ, Array.replicate_zero, List.push_toArray, List.append_toArray, List.nil_append, List.cons_append]
  apply wpS_seq
  apply wpS_region
  simp [wpOpsS, go_sem, recoverD, hu, Exit.thenS]
  refine wpS_of_wp ?_
  go_wp2_with fail
  exact ⟨rfl, _, rfl, _, results_none rfl _ _ _, rfl, hu, rfl⟩
end Go.Proofs.Ytohenjgegkgncaa
