/-
  NARROWER THAN 'FOR EVERY INPUT', by the rows' own cells (each row's printed sentence says how): TreePuts: loops · TreePairs: loops.
  DERIVED. THE GIVEN ROWS OF THIS SEAT. 4 by the template 'for every input the law returns true; each argument reads behind the call as it read before'; 0 by the template 'total and deterministic' (their statements: YtcgpjceopnfahaaTotals.lean).
  GIVEN WITH THE SEED: the statements are not yours to turn. If you find one false, say at which input.
  Laid BY PROGRAM, IN A SANDBOX (cutbox-rows.mjs): the forced cells as the released guide's own fill.sh prints them over the translation 82e1adff1fde221d… (all of the seat's roots in one cut). By AI agents, Wed Nov 11 2026. No macro, syntax, notation, axiom, sorry.
-/
import Derived.Test.YtcgpjceopnfahaaChecked
import GoSem.Claim
import GoSem.ClaimJoined
import GoSem.ClaimMapViews
import Derived.JoinedTies
import Derived.KernelRfl
namespace Go.Proofs.Ytcgpjceopnfahaa
/- THE CELL 'sum', in the pinned program and in every row, IS THE sha256 OF THE DUMP (.gsa) THAT YtcgpjceopnfahaaProg.lean LOADS. Nothing in Lean hashes anything: it is a label: what it is worth is what the hold of that sum in a sandbox is worth. -/
noncomputable def Try.pinned : Pinned := { name := "ytcgpjceopnfahaa", sum := "82e1adff1fde221d180afc8b920c049c01a13e7b6c23740cb79a75bba794faa2", checked := Try.checked }
namespace Rows
def none {H : Type} : Left H := { results := [], args := [] }

/-- 'lampbearerlaw.TreePuts': WHATEVER THE INPUT: true; the input reads as it did. -/
def treePutsSpec : ChangeSpec := { name := "treePuts", fn := fun _ => fun
  | [d1, d2, d3] => { results := [.lit (.bool true)], args := [d1, d2, d3] }
  | _ => none }
def treePutsRow : OpenClaim := { program := "ytcgpjceopnfahaa", sum := "82e1adff1fde221d180afc8b920c049c01a13e7b6c23740cb79a75bba794faa2", func := "lampbearer/lampbearerlaw.TreePuts", spec := "treePuts", inPlace := ["internal/bytealg.abigen_runtime_cmpstring"], unfollowed := true, recurses := true, loops := true, apart := false }
def TreePutsSaid : Prop := treePutsRow.holds Try.pinned (OpenSpec.ofChange treePutsSpec)

/-- ITS FALSE NEIGHBOUR: 'it returns false'. Refute it at one input. -/
def treePutsWrong : ChangeSpec := { name := "treePuts", fn := fun _ => fun
  | [d1, d2, d3] => { results := [.lit (.bool false)], args := [d1, d2, d3] }
  | _ => none }
def TreePutsWrongFalsely : Prop := treePutsRow.holds Try.pinned (OpenSpec.ofChange treePutsWrong)

/-- 'lampbearerlaw.TreeBuilds': WHATEVER THE INPUT: true; the input reads as it did. -/
def treeBuildsSpec : ChangeSpec := { name := "treeBuilds", fn := fun _ => fun
  | [d] => { results := [.lit (.bool true)], args := [d] }
  | _ => none }
def treeBuildsRow : OpenClaim := { program := "ytcgpjceopnfahaa", sum := "82e1adff1fde221d180afc8b920c049c01a13e7b6c23740cb79a75bba794faa2", func := "lampbearer/lampbearerlaw.TreeBuilds", spec := "treeBuilds", inPlace := ["internal/bytealg.abigen_runtime_cmpstring"], unfollowed := true, recurses := true, apart := false }
def TreeBuildsSaid : Prop := treeBuildsRow.holds Try.pinned (OpenSpec.ofChange treeBuildsSpec)

/-- ITS FALSE NEIGHBOUR: 'it returns false'. Refute it at one input. -/
def treeBuildsWrong : ChangeSpec := { name := "treeBuilds", fn := fun _ => fun
  | [d] => { results := [.lit (.bool false)], args := [d] }
  | _ => none }
def TreeBuildsWrongFalsely : Prop := treeBuildsRow.holds Try.pinned (OpenSpec.ofChange treeBuildsWrong)

/-- 'lampbearerlaw.TreePairs': WHATEVER THE INPUT: true; the input reads as it did. -/
def treePairsSpec : ChangeSpec := { name := "treePairs", fn := fun _ => fun
  | [d] => { results := [.lit (.bool true)], args := [d] }
  | _ => none }
def treePairsRow : OpenClaim := { program := "ytcgpjceopnfahaa", sum := "82e1adff1fde221d180afc8b920c049c01a13e7b6c23740cb79a75bba794faa2", func := "lampbearer/lampbearerlaw.TreePairs", spec := "treePairs", unfollowed := true, recurses := true, loops := true, apart := false }
def TreePairsSaid : Prop := treePairsRow.holds Try.pinned (OpenSpec.ofChange treePairsSpec)

/-- ITS FALSE NEIGHBOUR: 'it returns false'. Refute it at one input. -/
def treePairsWrong : ChangeSpec := { name := "treePairs", fn := fun _ => fun
  | [d] => { results := [.lit (.bool false)], args := [d] }
  | _ => none }
def TreePairsWrongFalsely : Prop := treePairsRow.holds Try.pinned (OpenSpec.ofChange treePairsWrong)

/-- 'lampbearerlaw.SiftFinds': WHATEVER THE INPUT: true; the input reads as it did. -/
def siftFindsSpec : ChangeSpec := { name := "siftFinds", fn := fun _ => fun
  | [d1, d2, d3] => { results := [.lit (.bool true)], args := [d1, d2, d3] }
  | _ => none }
def siftFindsRow : OpenClaim := { program := "ytcgpjceopnfahaa", sum := "82e1adff1fde221d180afc8b920c049c01a13e7b6c23740cb79a75bba794faa2", func := "lampbearer/lampbearerlaw.SiftFinds", spec := "siftFinds", unfollowed := true, recurses := true, apart := false }
def SiftFindsSaid : Prop := siftFindsRow.holds Try.pinned (OpenSpec.ofChange siftFindsSpec)

/-- ITS FALSE NEIGHBOUR: 'it returns false'. Refute it at one input. -/
def siftFindsWrong : ChangeSpec := { name := "siftFinds", fn := fun _ => fun
  | [d1, d2, d3] => { results := [.lit (.bool false)], args := [d1, d2, d3] }
  | _ => none }
def SiftFindsWrongFalsely : Prop := siftFindsRow.holds Try.pinned (OpenSpec.ofChange siftFindsWrong)

/- THE SECOND FORM. 'bulk': how many values and letters a reading holds, each counted each time it is reached (what is shared counts as often as it is met; a slice's spare places count too). A statement '..UptoSaid' is the law's where the arguments, and the package variables that the reading takes, are together of bulk at most 1048576: NARROWER than '..Said'. Prove '..Said' where nothing that the law and all that it calls make is longer than what came in: it says more and counts as full. Else prove '..UptoSaid'. A law counts once. -/
mutual
def uptoBulk {H : Type} : DataW H → Nat
  | .lit (.string bytes) => bytes.length + 1
  | .lit _ => 1
  | .nil => 1
  | .ptr d => uptoBulk d + 1
  | .slice elems spare => uptoBulkAll elems + uptoBulkAll spare + 1
  | .agg parts => uptoBulkAll parts + 1
  | .iface _ d => uptoBulk d + 1
  | .map entries => uptoBulkEntries entries + 1
  | .held _ => 1
def uptoBulkAll {H : Type} : List (DataW H) → Nat
  | [] => 0
  | d :: r => uptoBulk d + uptoBulkAll r
def uptoBulkEntries {H : Type} : List (Lit × DataW H) → Nat
  | [] => 0
  | x :: r => uptoBulkEntry x + uptoBulkEntries r
def uptoBulkEntry {H : Type} : Lit × DataW H → Nat
  | (.string bytes, d) => bytes.length + uptoBulk d + 1
  | (_, d) => uptoBulk d + 1
 end
def uptoSmall : (H : Type) → List (DataW H) → Bool := fun _ ds => decide (uptoBulkAll ds ≤ 1048576)
def OpenSpec.upto (s : _root_.Go.ChangeSpec) : _root_.Go.OpenSpec := { _root_.Go.OpenSpec.ofChange s with cond := some uptoSmall }

/-- 'lampbearerlaw.TreePuts', WHERE WHAT IT READS IS OF BULK AT MOST 1048576: true; the input reads as it did. -/
def treePutsUptoRow : OpenClaim := { program := "ytcgpjceopnfahaa", sum := "82e1adff1fde221d180afc8b920c049c01a13e7b6c23740cb79a75bba794faa2", func := "lampbearer/lampbearerlaw.TreePuts", spec := "treePuts", inPlace := ["internal/bytealg.abigen_runtime_cmpstring"], unfollowed := true, recurses := true, loops := true, apart := false, narrowed := true }
def TreePutsUptoSaid : Prop := treePutsUptoRow.holds Try.pinned (OpenSpec.upto treePutsSpec)

/-- 'lampbearerlaw.TreeBuilds', WHERE WHAT IT READS IS OF BULK AT MOST 1048576: true; the input reads as it did. -/
def treeBuildsUptoRow : OpenClaim := { program := "ytcgpjceopnfahaa", sum := "82e1adff1fde221d180afc8b920c049c01a13e7b6c23740cb79a75bba794faa2", func := "lampbearer/lampbearerlaw.TreeBuilds", spec := "treeBuilds", inPlace := ["internal/bytealg.abigen_runtime_cmpstring"], unfollowed := true, recurses := true, apart := false, narrowed := true }
def TreeBuildsUptoSaid : Prop := treeBuildsUptoRow.holds Try.pinned (OpenSpec.upto treeBuildsSpec)

/-- 'lampbearerlaw.TreePairs', WHERE WHAT IT READS IS OF BULK AT MOST 1048576: true; the input reads as it did. -/
def treePairsUptoRow : OpenClaim := { program := "ytcgpjceopnfahaa", sum := "82e1adff1fde221d180afc8b920c049c01a13e7b6c23740cb79a75bba794faa2", func := "lampbearer/lampbearerlaw.TreePairs", spec := "treePairs", unfollowed := true, recurses := true, loops := true, apart := false, narrowed := true }
def TreePairsUptoSaid : Prop := treePairsUptoRow.holds Try.pinned (OpenSpec.upto treePairsSpec)

/-- 'lampbearerlaw.SiftFinds', WHERE WHAT IT READS IS OF BULK AT MOST 1048576: true; the input reads as it did. -/
def siftFindsUptoRow : OpenClaim := { program := "ytcgpjceopnfahaa", sum := "82e1adff1fde221d180afc8b920c049c01a13e7b6c23740cb79a75bba794faa2", func := "lampbearer/lampbearerlaw.SiftFinds", spec := "siftFinds", unfollowed := true, recurses := true, apart := false, narrowed := true }
def SiftFindsUptoSaid : Prop := siftFindsUptoRow.holds Try.pinned (OpenSpec.upto siftFindsSpec)

end Rows
end Go.Proofs.Ytcgpjceopnfahaa
