/- (*reader).take, (*reader).length. -/
import Derived.Test.YtohenjgegkgncaaSplit2
set_option linter.unusedSimpArgs false
set_option linter.unusedVariables false
namespace Go.Proofs.Ytohenjgegkgncaa
open Go.RowKit
/-- the panic of what can't be read -/
def mis : List PanicEntry := [{ v := .iface 110 (.agg #[]), recovered := false }]
set_option maxHeartbeats 400000 in
set_option maxRecDepth 100000 in
theorem take_ok (a : Option Addr) (c L n : Nat) (l : List UInt8) (hL : l.length = L) (hLm : L ≤ maxLen) (hn : n ≤ L) (g : Nat) (w : World) (hB : Blk 113 w g [.slice a L c]) (h : Bytes w (.slice a L c) l) :
    Calls Try.prog 123 #[.pointer (some ⟨g, 0, none⟩), .int .u64 (n : Int)] w fun e w' => ∃ a1 c1 a2 c2, e = .returned (.slice a1 n c1) ∧ SubB (.slice a L c) l (.slice a1 n c1) (l.take n) ∧ SubB (.slice a L c) l (.slice a2 (L - n) c2) (l.drop n) ∧
      Blk 113 w' g [.slice a2 (L - n) c2] ∧ w.grownBy w' (some g) := by
  unfold maxLen at hLm
  have h' := h
  rw [← hL] at h' hn
  obtain ⟨a1, c1, q1, r1⟩ := sub_to h' n hn (n : Int) rfl
  obtain ⟨a2, c2, q2, r2⟩ := sub_from h' n hn (n : Int) rfl
  rw [hL] at q1 r1 q2 r2 hn
  have wl : IntKind.u64.wrap (L : Int) = (L : Int) := IntWalk.u64_in _ (by omega)
  have d1 : decide ((L : Int) < (n : Int)) = false := by rw [decide_eq_false_iff_not]; omega
  have d2 : decide (L < n) = false := by rw [decide_eq_false_iff_not]; omega
  have hc0 : w.cell? ⟨g, 0, none⟩ = some (.slice a L c) := hB.cell 0
  have hf0 := hB.free 0
  have hB2 := hB.set 0 (.slice a2 (L - n) c2)
  have hg2 := grown_cell (w := w) (g := g) 0 (.slice a2 (L - n) c2)
  have R1 := Lib.hid r1
  have R2 := Lib.hid r2
  have HB2 := Lib.hid hB2
  have HG2 := Lib.hid hg2
  clear hL h h' r1 r2 hB hB2 hg2
  go_enter Try.func123, Try.ntmps123
  go_wp2
  go_ret
  exact ⟨a1, c1, a2, c2, rfl, R1.out, R2.out, HB2.out, HG2.out⟩
set_option maxHeartbeats 400000 in
set_option maxRecDepth 100000 in
theorem take_bad (a : Option Addr) (c L n : Nat) (hLm : L ≤ maxLen) (hn : L < n) (g : Nat) (w : World) (hB : Blk 113 w g [.slice a L c]) :
    Calls Try.prog 123 #[.pointer (some ⟨g, 0, none⟩), .int .u64 (n : Int)] w fun e w' => e = .panicked mis ∧ w = w' := by
  unfold maxLen at hLm
  have wl : IntKind.u64.wrap (L : Int) = (L : Int) := IntWalk.u64_in _ (by omega)
  have d1 : decide ((L : Int) < (n : Int)) = true := by rw [decide_eq_true_eq]; omega
  have d2 : decide (L < n) = true := by rw [decide_eq_true_eq]; omega
  have hc0 : w.cell? ⟨g, 0, none⟩ = some (.slice a L c) := hB.cell 0
  go_enter Try.func123, Try.ntmps123
  go_wp2
  exact ⟨rfl, rfl, rfl⟩
end Go.Proofs.Ytohenjgegkgncaa
