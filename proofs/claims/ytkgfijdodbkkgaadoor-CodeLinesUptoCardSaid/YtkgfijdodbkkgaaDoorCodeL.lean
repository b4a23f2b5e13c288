/- (CodeLines) The library's tables as the program's text lays them: a world that holds them. -/
import Derived.Test.YtkgfijdodbkkgaaDoorCodeLinesW
import Derived.Test.YtkgfijdodbkkgaaDoorTie
import Derived.Test.YtkgfijdodbkkgaaDoorCards
import Derived.LaidLaws
import Derived.LaidHandle
import Derived.ChangeShapes
import Derived.Lib.LaidU8
set_option linter.unusedSimpArgs false
set_option linter.unusedVariables false
namespace Go.Proofs.YtkgfijdodbkkgaaDoor.codeLinesP
open Go.ChangeShapes Go.RowKit
def litCellsN : Nat → DataW Unit → List Value
  | 0, _ => []
  | n + 1, .agg l => l.flatMap (litCellsN n)
  | _ + 1, .lit (.int k z) => [.int k z]
  | _ + 1, _ => []
def litCells (d : DataW Unit) : List Value := litCellsN 4 d
/-- the settled world with two blocks more, the listed variables holding what their initialisers lay -/
noncomputable def laidWorld (os : Os) : World :=
  let N := (World.settled Tryd.prog os).heap.size
  let w0 := World.holding Tryd.prog os ⟨#[.cells (Lib.whiteT.map fun (z : Nat) => Value.int .u16 (z : Int)).toArray 73, .cells #[.slice (some ⟨N, 0, none⟩) 7 7, .slice none 0 0, .int .i64 2] 70], #[], []⟩
  let put (h : Array Obj) (g : Nat) (cs : Array Value) : Array Obj := h.modify g fun
    | .cells _ t frozen => .cells cs t frozen
    | o => o
  let h1 := put w0.heap 0 (litCells Rows.laid_strings_asciiSpace).toArray
  let h2 := put h1 5 (litCells Rows.laid_internal_strconv_uint64pow10).toArray
  let h3 := put h2 6 (litCells Rows.laid_math_bits_deBruijn32tab).toArray
  let h4 := put h3 7 (litCells Rows.laid_math_bits_deBruijn64tab).toArray
  let h5 := put h4 1 #[.pointer (some ⟨N + 1, 0, none⟩)]
  let h6 := put h5 4 (litCells Rows.laid_unicode_utf8_acceptRanges).toArray
  let h7 := put h6 3 (litCells Rows.laid_unicode_utf8_first).toArray
  { w0 with heap := h7 }
def rowsOf (rs : List (Nat × Nat)) : List MemPlace := rs.flatMap fun r => MemPlace.row ⟨r.1, 0, none⟩ r.2
theorem row_block (a : Addr) (n : Nat) (p : MemPlace) (h : p ∈ MemPlace.row a n) : ∃ o, p = .cell a.block o := by
  unfold MemPlace.row at h
  obtain ⟨i, _, rfl⟩ := List.mem_map.1 h
  exact ⟨_, rfl⟩
theorem rows_nodup : ∀ rs : List (Nat × Nat), (rs.map (·.1)).Nodup → (rowsOf rs).Nodup
  | [], _ => List.nodup_nil
  | r :: rs, h => by
    rw [List.map_cons, List.nodup_cons] at h
    unfold rowsOf
    rw [List.flatMap_cons, List.nodup_append]
    refine ⟨?_, rows_nodup rs h.2, ?_⟩
    · unfold MemPlace.row
      rw [List.Nodup, List.pairwise_map]
      refine List.Pairwise.imp ?_ List.nodup_range
      intro i j hij e
      injection e with _ e
      exact hij (by omega)
    · intro x hx y hy e
      subst e
      obtain ⟨o, ho⟩ := row_block _ _ _ hx
      obtain ⟨r', hr', hx'⟩ := List.mem_flatMap.1 hy
      obtain ⟨o', ho'⟩ := row_block _ _ _ hx'
      rw [ho] at ho'
      injection ho' with e1 _
      exact h.1 (by have : r.1 = r'.1 := e1; rw [this]; exact List.mem_map_of_mem hr')
noncomputable def laidN : Nat := (World.settled Tryd.prog default).heap.size
noncomputable def laidRows : List (Nat × Nat) := [(6, 32), (7, 64), (5, 20), (4, 32), (1, 1), (laidN + 1, 3), (laidN, 21), (0, 256), (3, 256)]
set_option maxRecDepth 100000 in
theorem laid_run (os : Os) (args : Array Value) : DataW.laidRun Tryd.prog ((laidWorld os).forCall (fun _ _ => 0) ⟨#[], args, []⟩).memory 12 (Rows.codeLinesUptoRow.laid.map (·.1)) = some (Rows.codeLinesUptoRow.laid, rowsOf laidRows) := by kernel_rfl
theorem laid_nodup : (laidRows.map (·.1)).Nodup := of_decide_eq_true (by kernel_rfl)
theorem laid_rows (os : Os) (args : Array Value) : laidRowsB Tryd.prog ((laidWorld os).forCall (fun _ _ => 0) ⟨#[], args, []⟩).memory (rowsOf laidRows) = true := by kernel_rfl
theorem laid_met (os : Os) (args : Array Value) : laidMetH Tryd.prog Rows.codeLinesUptoRow.laid ((laidWorld os).forCall (fun _ _ => 0) ⟨#[], args, []⟩).memory :=
  laidMetH_of_parts (laidMet_of_run 12 (laid_run os args) (decide_eq_true (rows_nodup _ laid_nodup)) (laid_rows os args)) (by kernel_rfl)
end Go.Proofs.YtkgfijdodbkkgaaDoor.codeLinesP
