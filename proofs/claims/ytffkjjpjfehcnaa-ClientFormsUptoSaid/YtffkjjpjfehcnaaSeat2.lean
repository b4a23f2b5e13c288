/- seats.Right and the reference's. -/
import Derived.Test.YtffkjjpjfehcnaaBase
import Derived.Test.YtffkjjpjfehcnaaTabs
set_option linter.unusedSimpArgs false
set_option linter.unusedVariables false
namespace Go.Proofs.Ytffkjjpjfehcnaa
open Go.RowKit
/-- a number as an element's cell -/
def u64c (x : Nat) : List Value := [.int .u64 (x : Int)]
def gv (l : List Nat) (i : Nat) : Nat := l[i]?.getD 0
def Adj (l : List Nat) : Prop := ∀ k, k + 1 < l.length → gv l k < gv l (k + 1)
def AllLt (l : List Nat) : Prop := ∀ i j, j < i → i < l.length → gv l j < gv l i
theorem adj_all (l : List Nat) : Adj l ↔ AllLt l := by
  constructor
  · intro h i
    induction i with
    | zero => intro j hj; omega
    | succ i ih =>
      intro j hj hi
      have h1 := h i hi
      rcases Nat.lt_or_ge j i with h2 | h2
      · exact Nat.lt_trans (ih j h2 (by omega)) h1
      · obtain rfl : j = i := by omega
        exact h1
  · intro h k hk
    exact h (k + 1) k (by omega) hk
open Classical in
/-- can there be such seats? -/
noncomputable def rightB (l : List Nat) : Bool := decide (Adj l) && (decide (0 < l.length) && decide (l.length ≤ 16))
theorem rightB_no {l : List Nat} (h : ¬ Adj l) : rightB l = false := by unfold rightB; simp [h]
theorem rightB_yes {l : List Nat} (h : Adj l) : rightB l = (decide (0 < l.length) && decide (l.length ≤ 16)) := by unfold rightB; simp [h]
theorem u64_at {w : World} {a : Option Addr} {n c : Nat} {l : List Nat} (h : RowOf u64c 1 w (.slice a n c) l) (k : Nat) (hk : k < l.length) :
    ∃ b off, a = some ⟨b, off, none⟩ ∧ w.cell? ⟨b, off + k, none⟩ = some (.int .u64 (gv l k : Int)) := by
  obtain ⟨b, off, ha, hc⟩ := RowOf.cells (f := u64c) (size := 1) (fun _ => rfl) h k hk
  exact ⟨b, off, ha, by simpa [u64c, gv, List.getElem?_eq_getElem hk] using hc 0 _ rfl⟩
set_option maxHeartbeats 1000000 in
set_option maxRecDepth 100000 in
theorem right_any (a : Option Addr) (n c : Nat) (l : List Nat) (hn : l.length = n) (hs : n ≤ 1048576) (w : World) (h : RowOf u64c 1 w (.slice a n c) l) : Calls Try.prog 100 #[.slice a n c] w fun e w' => e = .returned (.bool (rightB l)) ∧ Below w.heap.size w w' := by
  have Hn := Lib.hid hn
  obtain ⟨R, hR⟩ : ∃ R, R = rightB l := ⟨_, rfl⟩
  rw [← hR]
  have HR := Lib.hid hR
  clear hn hR
  go_enter Try.func100, Try.ntmps100
  go_wp2
  go_loopw [3] (fun ix wr => ∃ k : Nat, 1 ≤ k ∧ (k ≤ n ∨ k = 1) ∧ ix = .int .i64 (k : Int) ∧ Below w.heap.size w wr ∧ Hid (∀ j, j + 1 < k → gv l j < gv l (j + 1))) (fun ix _ => n - (intOf ix).toNat)
  case atStart => exact ⟨1, by omega, .inr rfl, rfl, Below.refl _ _, Lib.hid (fun j hj => by omega)⟩
  case round =>
    obtain ⟨k, hk1, hkn, rfl, hbel, Hall⟩ := hrel
    by_cases hlt : k < n
    · have hki : (k : Int) < (n : Int) := by omega
      obtain ⟨k0, hk0⟩ : ∃ k0, k = k0 + 1 := ⟨k - 1, by omega⟩
      have hw : IntKind.i64.wrap ((k : Int) - 1) = (k0 : Int) := by rw [IntWalk.i64_in _ (by omega)]; omega
      have hw' : (k : Int) - 1 = (k0 : Int) := by omega
      have hw0 : IntKind.i64.wrap (k0 : Int) = (k0 : Int) := IntWalk.i64_in _ (by omega)
      obtain ⟨b, off, rfl, hc1⟩ := u64_at (h.below hbel) k0 (by rw [Hn.out]; omega)
      obtain ⟨b', off', e', hc2⟩ := u64_at (h.below hbel) k (by rw [Hn.out]; omega)
      simp only [Option.some.injEq, Addr.mk.injEq, and_true] at e'
      obtain ⟨rfl, rfl⟩ := e'
      obtain ⟨x, hx⟩ : ∃ x, x = gv l k0 := ⟨_, rfl⟩
      obtain ⟨y, hy⟩ : ∃ y, y = gv l k := ⟨_, rfl⟩
      rw [← hx] at hc1
      rw [← hy] at hc2
      have h0i : (k0 : Int) < (n : Int) := by omega
      have h0n : k0 < n := by omega
      have f1 := fun u : Ext wr => u.cell hc1
      have f2 := fun u : Ext wr => u.cell hc2
      have Hx := Lib.hid hx
      have Hy := Lib.hid hy
      have Hk0 := Lib.hid hk0
      clear hx hy hc1 hc2 hk0
      go_wp2
      refine wp_region_typed wr 9 (by kernel_rfl) (by kernel_rfl) (Below.refl _ _) ?_; simp only [List.take_succ_cons, List.take_zero, List.take_nil]
      iterate 9 (refine wpX_step (by rfl) (fun K hK => ?_); go_simp; first | (refine hK _ ?_; clear hK K) | (apply Exists.intro; refine ⟨fun _ => ?_, hK _ ?_⟩; fail; clear hK K))
      refine wpX_nil ?_
      intro u2 hb2
      have hbel2 := Below.then hbel hb2
      change wpList _ _ _ [_] _ _
      clear f1 f2
      by_cases hlt2 : x < y
      · have hd : decide ((y : Int) ≤ (x : Int)) = false := by rw [decide_eq_false_iff_not]; omega
        have hd' : decide (y ≤ x) = false := by rw [decide_eq_false_iff_not]; omega
        have hall2 : ∀ j, j + 1 < k + 1 → gv l j < gv l (j + 1) := fun j hj => by
          rcases Nat.lt_or_ge (j + 1) k with h1 | h1
          · exact Hall.out j h1
          · have e1 : j = k0 := by have := Hk0.out; omega
            rw [e1, ← Hk0.out, ← Hx.out, ← Hy.out]; exact hlt2
        have Hall2 := Lib.hid hall2
        clear hall2 hlt2
        go_wp2
        go_roundw
        case rel => exact ⟨k + 1, by omega, .inl (by omega), by go_num, hbel2, Hall2⟩
        case measure => simp [intOf]; omega
      · have hd : decide ((y : Int) ≤ (x : Int)) = true := by rw [decide_eq_true_eq]; omega
        have hd' : decide (y ≤ x) = true := by rw [decide_eq_true_eq]; omega
        have hRf : R = false := by
          rw [HR.out]
          refine rightB_no (fun h => hlt2 ?_)
          have := h k0 (by have := Hk0.out; have := Hn.out; omega)
          rw [← Hk0.out, ← Hx.out, ← Hy.out] at this; exact this
        subst hRf
        clear hlt2
        go_wp2
        go_ret
        exact ⟨rfl, hbel2⟩
    · have hRt : R = (decide (0 < n) && decide (n ≤ 16)) := by
        rw [HR.out, rightB_yes (fun j hj => Hall.out j (by have := Hn.out; omega)), Hn.out]
      have Hlt := Lib.hid hlt
      clear hlt
      have hki : ¬ (k : Int) < (n : Int) := by have := Hlt.out; omega
      by_cases h0 : 0 < n
      · have g1 : (0 : Int) < (n : Int) := by omega
        have g1d : decide ((0 : Int) < (n : Int)) = true := decide_eq_true g1
        have g1n : decide (0 < n) = true := decide_eq_true h0
        have hd : decide ((n : Int) ≤ 16) = R := by
          rw [hRt, g1n, Bool.true_and]
          by_cases h : n ≤ 16
          · rw [decide_eq_true h, decide_eq_true (by omega)]
          · rw [decide_eq_false h, decide_eq_false (by omega)]
        clear hRt
        go_wp2
        go_ret
        exact ⟨rfl, hbel⟩
      · obtain rfl : n = 0 := by omega
        have hRf : R = false := by rw [hRt]; rfl
        subst hRf
        clear hRt
        go_wp2
        go_ret
        exact ⟨rfl, hbel⟩
end Go.Proofs.Ytffkjjpjfehcnaa
