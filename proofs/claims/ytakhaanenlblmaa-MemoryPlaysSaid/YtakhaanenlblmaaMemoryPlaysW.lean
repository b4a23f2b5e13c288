/- The walk of the law MemoryPlays. -/
import Derived.Test.YtakhaanenlblmaaMem15
import Derived.Test.YtakhaanenlblmaaMem16
set_option linter.unusedSimpArgs false
set_option linter.unusedVariables false
namespace Go.Proofs.Ytakhaanenlblmaa
open Go.RowKit
set_option maxHeartbeats 1000000 in
set_option maxRecDepth 100000 in
theorem memoryPlays_walk (x : Int) (hx : (Lit.int .i64 x).wf = true) (a : Option Addr) (n c : Nat) (ops : List Mop) (hn : ops.length = n) (w : World) (h : RowOf mopc 18 w (.slice a n c) ops) (hk : ∀ o ∈ ops, o.Ok) (hi : ∀ o ∈ ops, Bytes w o.dv o.D) (hb : n * 48 ≤ 140737488355328) :
    Calls Try.prog 4 #[.int .i64 x, .slice a n c] w fun e w' => e = .returned (.bool true) ∧ Below w.heap.size w w' := by
  have c1 := play_any a n c ops hn w h hk hi hb
  have c2 := fun u (hu : Below w.heap.size w u) => kplay_any a n c ops hn u (h.below hu) hk (fun o ho => (hi o ho).below hu) hb
  have c3 := fun u => mcost_any x hx u
  have c4 := fun u => kcost_any x hx u
  have hme := playM_man ops [] (by simp) rfl
  have hml := playM_len ops []
  rw [hn] at hml
  obtain ⟨L, hL⟩ : ∃ L, L = (playM [] ops).2 := ⟨_, rfl⟩
  obtain ⟨B, hB⟩ : ∃ B, B = (playM [] ops).1 := ⟨_, rfl⟩
  rw [← hL] at hme hml
  simp only [← hL, ← hB] at c1 c2
  obtain ⟨X, hX⟩ : ∃ X, X = costI x := ⟨_, rfl⟩
  rw [← hX] at c3 c4
  have C1 := Lib.hid c1
  have C2 := Lib.hid c2
  have C3 := Lib.hid c3
  have C4 := Lib.hid c4
  have Hme := Lib.hid hme
  have Hml := Lib.hid hml
  have hbe : ∀ x : Int, (x == x) = true := fun x => beq_self_eq_true x
  clear c1 c2 c3 c4 hX hL hB hme hml h hk hi hn
  go_enter Try.func4, Try.ntmps4
  go_wp2_with (first
    | (go_at_call 15; (with_reducible refine C1.out.mono ?_); rintro e w2 ⟨v1, v2, rfl, r1, r2, b2⟩; obtain ⟨a1, k1, rfl, _⟩ := r1.form' n Hml.out; obtain ⟨a2, k2, rfl, _, _⟩ := r2.form)
    | (go_at_call 16; (with_reducible refine (C2.out _ b2).mono ?_); rintro e w3 ⟨v3, v4, rfl, r3, r4, b3⟩; obtain ⟨a3, k3, rfl, _⟩ := r3.form' n Hml.out; obtain ⟨a4, k4, rfl, _, _⟩ := r4.form; have bb3 := Below.then b2 b3)
    | (go_at_call 17; (with_reducible refine (C3.out _).mono ?_); rintro e w4 ⟨rfl, b4⟩; have bb4 := Below.then bb3 b4)
    | (go_at_call 18; (with_reducible refine (C4.out _).mono ?_); rintro e w5 ⟨rfl, b5⟩; have bb5 := Below.then bb4 b5; have cq := sequalMan a1 a3 n k1 k3 L Hml.out Hme.out w5 (((r1.kept b3).kept b4).kept b5) ((r3.kept b4).kept b5))
    | (go_at_call 19; (with_reducible refine cq.mono ?_); rintro e w6 ⟨rfl, b6⟩; have bb6 := Below.then bb5 b6; have s1 := run_str (P := Try.prog) (src := 22) (dst := 9) elU8.ht (by kernel_rfl) (by kernel_rfl) ((((r2.kept b3).kept b4).kept b5).kept b6); have s2 := run_str (P := Try.prog) (src := 22) (dst := 9) elU8.ht (by kernel_rfl) (by kernel_rfl) (((r4.kept b4).kept b5).kept b6)))
  go_ret
  exact ⟨rfl, bb6⟩
end Go.Proofs.Ytakhaanenlblmaa
