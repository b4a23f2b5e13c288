/- seats.Right and the reference's. -/
import Derived.Test.YtffkjjpjfehcnaaDoorBase
import Derived.Test.YtffkjjpjfehcnaaDoorTabs
set_option linter.unusedSimpArgs false
set_option linter.unusedVariables false
namespace Go.Proofs.YtffkjjpjfehcnaaDoor
open Go.RowKit
/-- a number as an element's cell -/
def u64c (x : Nat) : List Value := [.int .u64 (x : Int)]
def gv (l : List Nat) (i : Nat) : Nat := l[i]?.getD 0
def Adj (l : List Nat) : Prop := ∀ k, k + 1 < l.length → gv l k < gv l (k + 1)
def AllLt (l : List Nat) : Prop := ∀ i j, j < i → i < l.length → gv l j < gv l i
theorem adj_all (l : List Nat) : Adj l ↔ AllLt l := by
  constructor
  · intro h i
    induction i with
    | zero => intro j hj; omega
    | succ i ih =>
      intro j hj hi
      have h1 := h i hi
      rcases Nat.lt_or_ge j i with h2 | h2
      · exact Nat.lt_trans (ih j h2 (by omega)) h1
      · obtain rfl : j = i := by omega
        exact h1
  · intro h k hk
    exact h (k + 1) k (by omega) hk
open Classical in
/-- can there be such seats? -/
noncomputable def rightB (l : List Nat) : Bool := decide (Adj l) && (decide (0 < l.length) && decide (l.length ≤ 16))
theorem rightB_no {l : List Nat} (h : ¬ Adj l) : rightB l = false := by unfold rightB; simp [h]
theorem rightB_yes {l : List Nat} (h : Adj l) : rightB l = (decide (0 < l.length) && decide (l.length ≤ 16)) := by unfold rightB; simp [h]
theorem u64_at {w : World} {a : Option Addr} {n c : Nat} {l : List Nat} (h : RowOf u64c 1 w (.slice a n c) l) (k : Nat) (hk : k < l.length) :
    ∃ b off, a = some ⟨b, off, none⟩ ∧ w.cell? ⟨b, off + k, none⟩ = some (.int .u64 (gv l k : Int)) := by
  obtain ⟨b, off, ha, hc⟩ := RowOf.cells (f := u64c) (size := 1) (fun _ => rfl) h k hk
  exact ⟨b, off, ha, by simpa [u64c, gv, List.getElem?_eq_getElem hk] using hc 0 _ rfl⟩
end Go.Proofs.YtffkjjpjfehcnaaDoor
