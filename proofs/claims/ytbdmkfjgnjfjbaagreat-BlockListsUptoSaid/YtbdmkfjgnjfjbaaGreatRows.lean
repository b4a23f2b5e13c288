/-
  No cell of these rows narrows 'for every input' (looked for: loops, veiled, ifaces, maps, wideKeys, modest, calm, conditions, laid).
  DERIVED. THE GIVEN ROWS OF THIS SEAT. 5 by the template 'for every input the law returns true; each argument reads behind the call as it read before'; 0 by the template 'total and deterministic' (their statements: YtbdmkfjgnjfjbaaGreatTotals.lean).
  GIVEN WITH THE SEED: the statements are not yours to turn. If you find one false, say at which input.
  Laid BY PROGRAM, IN A SANDBOX (cutbox-rows.mjs): the forced cells as the released guide's own fill.sh prints them over the translation 840eafa3c63c4329… (all of the seat's roots in one cut). By AI agents, Wed Nov 11 2026. No macro, syntax, notation, axiom, sorry.
-/
import Derived.Test.YtbdmkfjgnjfjbaaGreatChecked
import GoSem.Claim
import GoSem.ClaimJoined
import GoSem.ClaimMapViews
import Derived.JoinedTies
import Derived.KernelRfl
namespace Go.Proofs.YtbdmkfjgnjfjbaaGreat
/- THE CELL 'sum', in the pinned program and in every row, IS THE sha256 OF THE DUMP (.gsa) THAT YtbdmkfjgnjfjbaaGreatProg.lean LOADS. Nothing in Lean hashes anything: it is a label: what it is worth is what the hold of that sum in a sandbox is worth. -/
noncomputable def Tryz.pinned : Pinned := { name := "ytbdmkfjgnjfjbaagreat", sum := "840eafa3c63c43294cceb525dfaa9cf699e2e81a03a6f04e3ffb79ff187a40bb", checked := Tryz.checked }
namespace Rows
def none {H : Type} : Left H := { results := [], args := [] }

/-- 'lampbearerlaw.WorldLeaves': WHATEVER THE INPUT: true; the input reads as it did. -/
def worldLeavesSpec : ChangeSpec := { name := "worldLeaves", fn := fun _ => fun
  | [d1, d2, d3] => { results := [.lit (.bool true)], args := [d1, d2, d3] }
  | _ => none }
def worldLeavesRow : OpenClaim := { program := "ytbdmkfjgnjfjbaagreat", sum := "840eafa3c63c43294cceb525dfaa9cf699e2e81a03a6f04e3ffb79ff187a40bb", func := "lampbearer/lampbearerlaw.WorldLeaves", spec := "worldLeaves", inPlace := ["internal/bytealg.abigen_runtime_cmpstring"], unfollowed := true, recurses := true, apart := false }
def WorldLeavesSaid : Prop := worldLeavesRow.holds Tryz.pinned (OpenSpec.ofChange worldLeavesSpec)

/-- ITS FALSE NEIGHBOUR: 'it returns false'. Refute it at one input. -/
def worldLeavesWrong : ChangeSpec := { name := "worldLeaves", fn := fun _ => fun
  | [d1, d2, d3] => { results := [.lit (.bool false)], args := [d1, d2, d3] }
  | _ => none }
def WorldLeavesWrongFalsely : Prop := worldLeavesRow.holds Tryz.pinned (OpenSpec.ofChange worldLeavesWrong)

/-- 'lampbearerlaw.WorldStates': WHATEVER THE INPUT: true; the input reads as it did. -/
def worldStatesSpec : ChangeSpec := { name := "worldStates", fn := fun _ => fun
  | [d1, d2, d3] => { results := [.lit (.bool true)], args := [d1, d2, d3] }
  | _ => none }
def worldStatesRow : OpenClaim := { program := "ytbdmkfjgnjfjbaagreat", sum := "840eafa3c63c43294cceb525dfaa9cf699e2e81a03a6f04e3ffb79ff187a40bb", func := "lampbearer/lampbearerlaw.WorldStates", spec := "worldStates", inPlace := ["internal/bytealg.Compare", "internal/bytealg.abigen_runtime_cmpstring"], unfollowed := true, recurses := true, apart := false }
def WorldStatesSaid : Prop := worldStatesRow.holds Tryz.pinned (OpenSpec.ofChange worldStatesSpec)

/-- ITS FALSE NEIGHBOUR: 'it returns false'. Refute it at one input. -/
def worldStatesWrong : ChangeSpec := { name := "worldStates", fn := fun _ => fun
  | [d1, d2, d3] => { results := [.lit (.bool false)], args := [d1, d2, d3] }
  | _ => none }
def WorldStatesWrongFalsely : Prop := worldStatesRow.holds Tryz.pinned (OpenSpec.ofChange worldStatesWrong)

/-- 'lampbearerlaw.LazyServes': WHATEVER THE INPUT: true; the input reads as it did. -/
def lazyServesSpec : ChangeSpec := { name := "lazyServes", fn := fun _ => fun
  | [d1, d2] => { results := [.lit (.bool true)], args := [d1, d2] }
  | _ => none }
def lazyServesRow : OpenClaim := { program := "ytbdmkfjgnjfjbaagreat", sum := "840eafa3c63c43294cceb525dfaa9cf699e2e81a03a6f04e3ffb79ff187a40bb", func := "lampbearer/lampbearerlaw.LazyServes", spec := "lazyServes", inPlace := ["internal/bytealg.Compare", "internal/bytealg.abigen_runtime_cmpstring"], unfollowed := true, recurses := true, apart := false }
def LazyServesSaid : Prop := lazyServesRow.holds Tryz.pinned (OpenSpec.ofChange lazyServesSpec)

/-- ITS FALSE NEIGHBOUR: 'it returns false'. Refute it at one input. -/
def lazyServesWrong : ChangeSpec := { name := "lazyServes", fn := fun _ => fun
  | [d1, d2] => { results := [.lit (.bool false)], args := [d1, d2] }
  | _ => none }
def LazyServesWrongFalsely : Prop := lazyServesRow.holds Tryz.pinned (OpenSpec.ofChange lazyServesWrong)

/-- 'lampbearerlaw.BlockLists': WHATEVER THE INPUT: true; the input reads as it did. -/
def blockListsSpec : ChangeSpec := { name := "blockLists", fn := fun _ => fun
  | [d1, d2, d3, d4] => { results := [.lit (.bool true)], args := [d1, d2, d3, d4] }
  | _ => none }
def blockListsRow : OpenClaim := { program := "ytbdmkfjgnjfjbaagreat", sum := "840eafa3c63c43294cceb525dfaa9cf699e2e81a03a6f04e3ffb79ff187a40bb", func := "lampbearer/lampbearerlaw.BlockLists", spec := "blockLists", inPlace := ["internal/bytealg.abigen_runtime_cmpstring"], unfollowed := true, recurses := true, apart := false }
def BlockListsSaid : Prop := blockListsRow.holds Tryz.pinned (OpenSpec.ofChange blockListsSpec)

/-- ITS FALSE NEIGHBOUR: 'it returns false'. Refute it at one input. -/
def blockListsWrong : ChangeSpec := { name := "blockLists", fn := fun _ => fun
  | [d1, d2, d3, d4] => { results := [.lit (.bool false)], args := [d1, d2, d3, d4] }
  | _ => none }
def BlockListsWrongFalsely : Prop := blockListsRow.holds Tryz.pinned (OpenSpec.ofChange blockListsWrong)

/-- 'lampbearerlaw.WorldChecks': WHATEVER THE INPUT: true; the input reads as it did. -/
def worldChecksSpec : ChangeSpec := { name := "worldChecks", fn := fun _ => fun
  | [d1, d2, d3, d4] => { results := [.lit (.bool true)], args := [d1, d2, d3, d4] }
  | _ => none }
def worldChecksRow : OpenClaim := { program := "ytbdmkfjgnjfjbaagreat", sum := "840eafa3c63c43294cceb525dfaa9cf699e2e81a03a6f04e3ffb79ff187a40bb", func := "lampbearer/lampbearerlaw.WorldChecks", spec := "worldChecks", inPlace := ["internal/bytealg.abigen_runtime_cmpstring"], unfollowed := true, recurses := true, apart := false }
def WorldChecksSaid : Prop := worldChecksRow.holds Tryz.pinned (OpenSpec.ofChange worldChecksSpec)

/-- ITS FALSE NEIGHBOUR: 'it returns false'. Refute it at one input. -/
def worldChecksWrong : ChangeSpec := { name := "worldChecks", fn := fun _ => fun
  | [d1, d2, d3, d4] => { results := [.lit (.bool false)], args := [d1, d2, d3, d4] }
  | _ => none }
def WorldChecksWrongFalsely : Prop := worldChecksRow.holds Tryz.pinned (OpenSpec.ofChange worldChecksWrong)

/- THE SECOND FORM. 'bulk': how many values and letters a reading holds, each counted each time it is reached (what is shared counts as often as it is met; a slice's spare places count too). A statement '..UptoSaid' is the law's where the arguments, and the package variables that the reading takes, are together of bulk at most 1048576: NARROWER than '..Said'. Prove '..Said' where nothing that the law and all that it calls make is longer than what came in: it says more and counts as full. Else prove '..UptoSaid'. A law counts once. -/
mutual
def uptoBulk {H : Type} : DataW H → Nat
  | .lit (.string bytes) => bytes.length + 1
  | .lit _ => 1
  | .nil => 1
  | .ptr d => uptoBulk d + 1
  | .slice elems spare => uptoBulkAll elems + uptoBulkAll spare + 1
  | .agg parts => uptoBulkAll parts + 1
  | .iface _ d => uptoBulk d + 1
  | .map entries => uptoBulkEntries entries + 1
  | .held _ => 1
def uptoBulkAll {H : Type} : List (DataW H) → Nat
  | [] => 0
  | d :: r => uptoBulk d + uptoBulkAll r
def uptoBulkEntries {H : Type} : List (Lit × DataW H) → Nat
  | [] => 0
  | x :: r => uptoBulkEntry x + uptoBulkEntries r
def uptoBulkEntry {H : Type} : Lit × DataW H → Nat
  | (.string bytes, d) => bytes.length + uptoBulk d + 1
  | (_, d) => uptoBulk d + 1
 end
def uptoSmall : (H : Type) → List (DataW H) → Bool := fun _ ds => decide (uptoBulkAll ds ≤ 1048576)
def OpenSpec.upto (s : _root_.Go.ChangeSpec) : _root_.Go.OpenSpec := { _root_.Go.OpenSpec.ofChange s with cond := some uptoSmall }

/-- 'lampbearerlaw.WorldLeaves', WHERE WHAT IT READS IS OF BULK AT MOST 1048576: true; the input reads as it did. -/
def worldLeavesUptoRow : OpenClaim := { program := "ytbdmkfjgnjfjbaagreat", sum := "840eafa3c63c43294cceb525dfaa9cf699e2e81a03a6f04e3ffb79ff187a40bb", func := "lampbearer/lampbearerlaw.WorldLeaves", spec := "worldLeaves", inPlace := ["internal/bytealg.abigen_runtime_cmpstring"], unfollowed := true, recurses := true, apart := false, narrowed := true }
def WorldLeavesUptoSaid : Prop := worldLeavesUptoRow.holds Tryz.pinned (OpenSpec.upto worldLeavesSpec)

/-- 'lampbearerlaw.WorldStates', WHERE WHAT IT READS IS OF BULK AT MOST 1048576: true; the input reads as it did. -/
def worldStatesUptoRow : OpenClaim := { program := "ytbdmkfjgnjfjbaagreat", sum := "840eafa3c63c43294cceb525dfaa9cf699e2e81a03a6f04e3ffb79ff187a40bb", func := "lampbearer/lampbearerlaw.WorldStates", spec := "worldStates", inPlace := ["internal/bytealg.Compare", "internal/bytealg.abigen_runtime_cmpstring"], unfollowed := true, recurses := true, apart := false, narrowed := true }
def WorldStatesUptoSaid : Prop := worldStatesUptoRow.holds Tryz.pinned (OpenSpec.upto worldStatesSpec)

/-- 'lampbearerlaw.LazyServes', WHERE WHAT IT READS IS OF BULK AT MOST 1048576: true; the input reads as it did. -/
def lazyServesUptoRow : OpenClaim := { program := "ytbdmkfjgnjfjbaagreat", sum := "840eafa3c63c43294cceb525dfaa9cf699e2e81a03a6f04e3ffb79ff187a40bb", func := "lampbearer/lampbearerlaw.LazyServes", spec := "lazyServes", inPlace := ["internal/bytealg.Compare", "internal/bytealg.abigen_runtime_cmpstring"], unfollowed := true, recurses := true, apart := false, narrowed := true }
def LazyServesUptoSaid : Prop := lazyServesUptoRow.holds Tryz.pinned (OpenSpec.upto lazyServesSpec)

/-- 'lampbearerlaw.BlockLists', WHERE WHAT IT READS IS OF BULK AT MOST 1048576: true; the input reads as it did. -/
def blockListsUptoRow : OpenClaim := { program := "ytbdmkfjgnjfjbaagreat", sum := "840eafa3c63c43294cceb525dfaa9cf699e2e81a03a6f04e3ffb79ff187a40bb", func := "lampbearer/lampbearerlaw.BlockLists", spec := "blockLists", inPlace := ["internal/bytealg.abigen_runtime_cmpstring"], unfollowed := true, recurses := true, apart := false, narrowed := true }
def BlockListsUptoSaid : Prop := blockListsUptoRow.holds Tryz.pinned (OpenSpec.upto blockListsSpec)

/-- 'lampbearerlaw.WorldChecks', WHERE WHAT IT READS IS OF BULK AT MOST 1048576: true; the input reads as it did. -/
def worldChecksUptoRow : OpenClaim := { program := "ytbdmkfjgnjfjbaagreat", sum := "840eafa3c63c43294cceb525dfaa9cf699e2e81a03a6f04e3ffb79ff187a40bb", func := "lampbearer/lampbearerlaw.WorldChecks", spec := "worldChecks", inPlace := ["internal/bytealg.abigen_runtime_cmpstring"], unfollowed := true, recurses := true, apart := false, narrowed := true }
def WorldChecksUptoSaid : Prop := worldChecksUptoRow.holds Tryz.pinned (OpenSpec.upto worldChecksSpec)

end Rows
end Go.Proofs.YtbdmkfjgnjfjbaaGreat
