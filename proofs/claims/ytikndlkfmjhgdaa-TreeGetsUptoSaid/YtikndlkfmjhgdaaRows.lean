/-
  NARROWER THAN 'FOR EVERY INPUT', by the rows' own cells (each row's printed sentence says how): TreePairs: loops · RootWhole: loops · TreeRights: loops · TreeGets: loops.
  DERIVED. THE GIVEN ROWS OF THIS SEAT. 10 by the template 'for every input the law returns true; each argument reads behind the call as it read before'; 0 by the template 'total and deterministic' (their statements: YtikndlkfmjhgdaaTotals.lean).
  GIVEN WITH THE SEED: the statements are not yours to turn. If you find one false, say at which input.
  Laid BY PROGRAM, IN A SANDBOX (cutbox-rows.mjs): the forced cells as the released guide's own fill.sh prints them over the translation cdb8d749841783e0… (all of the seat's roots in one cut). By AI agents, Wed Nov 11 2026. No macro, syntax, notation, axiom, sorry.
-/
import Derived.Test.YtikndlkfmjhgdaaChecked
import GoSem.Claim
import GoSem.ClaimJoined
import GoSem.ClaimMapViews
import Derived.JoinedTies
import Derived.KernelRfl
namespace Go.Proofs.Ytikndlkfmjhgdaa
/- THE CELL 'sum', in the pinned program and in every row, IS THE sha256 OF THE DUMP (.gsa) THAT YtikndlkfmjhgdaaProg.lean LOADS. Nothing in Lean hashes anything: it is a label: what it is worth is what the hold of that sum in a sandbox is worth. -/
noncomputable def Try.pinned : Pinned := { name := "ytikndlkfmjhgdaa", sum := "cdb8d749841783e02e50c1127aaff65000334ce54ece082a741f5ae8d8fb3ce4", checked := Try.checked }
namespace Rows
def none {H : Type} : Left H := { results := [], args := [] }

/-- 'lampbearerlaw.ProofChecks': WHATEVER THE INPUT: true; the input reads as it did. -/
def proofChecksSpec : ChangeSpec := { name := "proofChecks", fn := fun _ => fun
  | [d1, d2, d3] => { results := [.lit (.bool true)], args := [d1, d2, d3] }
  | _ => none }
def proofChecksRow : OpenClaim := { program := "ytikndlkfmjhgdaa", sum := "cdb8d749841783e02e50c1127aaff65000334ce54ece082a741f5ae8d8fb3ce4", func := "lampbearer/lampbearerlaw.ProofChecks", spec := "proofChecks", unfollowed := true, recurses := true, plainKeys := false, apart := false }
def ProofChecksSaid : Prop := proofChecksRow.holds Try.pinned (OpenSpec.ofChange proofChecksSpec)

/-- ITS FALSE NEIGHBOUR: 'it returns false'. Refute it at one input. -/
def proofChecksWrong : ChangeSpec := { name := "proofChecks", fn := fun _ => fun
  | [d1, d2, d3] => { results := [.lit (.bool false)], args := [d1, d2, d3] }
  | _ => none }
def ProofChecksWrongFalsely : Prop := proofChecksRow.holds Try.pinned (OpenSpec.ofChange proofChecksWrong)

/-- 'lampbearerlaw.TreePairs': WHATEVER THE INPUT: true; the input reads as it did. -/
def treePairsSpec : ChangeSpec := { name := "treePairs", fn := fun _ => fun
  | [d] => { results := [.lit (.bool true)], args := [d] }
  | _ => none }
def treePairsRow : OpenClaim := { program := "ytikndlkfmjhgdaa", sum := "cdb8d749841783e02e50c1127aaff65000334ce54ece082a741f5ae8d8fb3ce4", func := "lampbearer/lampbearerlaw.TreePairs", spec := "treePairs", unfollowed := true, recurses := true, loops := true, plainKeys := false, apart := false }
def TreePairsSaid : Prop := treePairsRow.holds Try.pinned (OpenSpec.ofChange treePairsSpec)

/-- ITS FALSE NEIGHBOUR: 'it returns false'. Refute it at one input. -/
def treePairsWrong : ChangeSpec := { name := "treePairs", fn := fun _ => fun
  | [d] => { results := [.lit (.bool false)], args := [d] }
  | _ => none }
def TreePairsWrongFalsely : Prop := treePairsRow.holds Try.pinned (OpenSpec.ofChange treePairsWrong)

/-- 'lampbearerlaw.RootWhole': WHATEVER THE INPUT: true; the input reads as it did. -/
def rootWholeSpec : ChangeSpec := { name := "rootWhole", fn := fun _ => fun
  | [d] => { results := [.lit (.bool true)], args := [d] }
  | _ => none }
def rootWholeRow : OpenClaim := { program := "ytikndlkfmjhgdaa", sum := "cdb8d749841783e02e50c1127aaff65000334ce54ece082a741f5ae8d8fb3ce4", func := "lampbearer/lampbearerlaw.RootWhole", spec := "rootWhole", unfollowed := true, recurses := true, loops := true, plainKeys := false, apart := false }
def RootWholeSaid : Prop := rootWholeRow.holds Try.pinned (OpenSpec.ofChange rootWholeSpec)

/-- ITS FALSE NEIGHBOUR: 'it returns false'. Refute it at one input. -/
def rootWholeWrong : ChangeSpec := { name := "rootWhole", fn := fun _ => fun
  | [d] => { results := [.lit (.bool false)], args := [d] }
  | _ => none }
def RootWholeWrongFalsely : Prop := rootWholeRow.holds Try.pinned (OpenSpec.ofChange rootWholeWrong)

/-- 'lampbearerlaw.RootLoads': WHATEVER THE INPUT: true; the input reads as it did. -/
def rootLoadsSpec : ChangeSpec := { name := "rootLoads", fn := fun _ => fun
  | [d1, d2] => { results := [.lit (.bool true)], args := [d1, d2] }
  | _ => none }
def rootLoadsRow : OpenClaim := { program := "ytikndlkfmjhgdaa", sum := "cdb8d749841783e02e50c1127aaff65000334ce54ece082a741f5ae8d8fb3ce4", func := "lampbearer/lampbearerlaw.RootLoads", spec := "rootLoads", unfollowed := true, recurses := true, plainKeys := false, apart := false }
def RootLoadsSaid : Prop := rootLoadsRow.holds Try.pinned (OpenSpec.ofChange rootLoadsSpec)

/-- ITS FALSE NEIGHBOUR: 'it returns false'. Refute it at one input. -/
def rootLoadsWrong : ChangeSpec := { name := "rootLoads", fn := fun _ => fun
  | [d1, d2] => { results := [.lit (.bool false)], args := [d1, d2] }
  | _ => none }
def RootLoadsWrongFalsely : Prop := rootLoadsRow.holds Try.pinned (OpenSpec.ofChange rootLoadsWrong)

/-- 'lampbearerlaw.TreeRights': WHATEVER THE INPUT: true; the input reads as it did. -/
def treeRightsSpec : ChangeSpec := { name := "treeRights", fn := fun _ => fun
  | [d] => { results := [.lit (.bool true)], args := [d] }
  | _ => none }
def treeRightsRow : OpenClaim := { program := "ytikndlkfmjhgdaa", sum := "cdb8d749841783e02e50c1127aaff65000334ce54ece082a741f5ae8d8fb3ce4", func := "lampbearer/lampbearerlaw.TreeRights", spec := "treeRights", unfollowed := true, recurses := true, loops := true, plainKeys := false, apart := false }
def TreeRightsSaid : Prop := treeRightsRow.holds Try.pinned (OpenSpec.ofChange treeRightsSpec)

/-- ITS FALSE NEIGHBOUR: 'it returns false'. Refute it at one input. -/
def treeRightsWrong : ChangeSpec := { name := "treeRights", fn := fun _ => fun
  | [d] => { results := [.lit (.bool false)], args := [d] }
  | _ => none }
def TreeRightsWrongFalsely : Prop := treeRightsRow.holds Try.pinned (OpenSpec.ofChange treeRightsWrong)

/-- 'lampbearerlaw.TreeGets': WHATEVER THE INPUT: true; the input reads as it did. -/
def treeGetsSpec : ChangeSpec := { name := "treeGets", fn := fun _ => fun
  | [d1, d2] => { results := [.lit (.bool true)], args := [d1, d2] }
  | _ => none }
def treeGetsRow : OpenClaim := { program := "ytikndlkfmjhgdaa", sum := "cdb8d749841783e02e50c1127aaff65000334ce54ece082a741f5ae8d8fb3ce4", func := "lampbearer/lampbearerlaw.TreeGets", spec := "treeGets", unfollowed := true, recurses := true, loops := true, plainKeys := false, apart := false }
def TreeGetsSaid : Prop := treeGetsRow.holds Try.pinned (OpenSpec.ofChange treeGetsSpec)

/-- ITS FALSE NEIGHBOUR: 'it returns false'. Refute it at one input. -/
def treeGetsWrong : ChangeSpec := { name := "treeGets", fn := fun _ => fun
  | [d1, d2] => { results := [.lit (.bool false)], args := [d1, d2] }
  | _ => none }
def TreeGetsWrongFalsely : Prop := treeGetsRow.holds Try.pinned (OpenSpec.ofChange treeGetsWrong)

/-- 'lampbearerlaw.MemoryPlays': WHATEVER THE INPUT: true; the input reads as it did. -/
def memoryPlaysSpec : ChangeSpec := { name := "memoryPlays", fn := fun _ => fun
  | [d1, d2] => { results := [.lit (.bool true)], args := [d1, d2] }
  | _ => none }
def memoryPlaysRow : OpenClaim := { program := "ytikndlkfmjhgdaa", sum := "cdb8d749841783e02e50c1127aaff65000334ce54ece082a741f5ae8d8fb3ce4", func := "lampbearer/lampbearerlaw.MemoryPlays", spec := "memoryPlays", inPlace := ["math/bits.Sub64"], plainKeys := false, apart := false }
def MemoryPlaysSaid : Prop := memoryPlaysRow.holds Try.pinned (OpenSpec.ofChange memoryPlaysSpec)

/-- ITS FALSE NEIGHBOUR: 'it returns false'. Refute it at one input. -/
def memoryPlaysWrong : ChangeSpec := { name := "memoryPlays", fn := fun _ => fun
  | [d1, d2] => { results := [.lit (.bool false)], args := [d1, d2] }
  | _ => none }
def MemoryPlaysWrongFalsely : Prop := memoryPlaysRow.holds Try.pinned (OpenSpec.ofChange memoryPlaysWrong)

/-- 'lampbearerlaw.BlockForms': WHATEVER THE INPUT: true; the input reads as it did. -/
def blockFormsSpec : ChangeSpec := { name := "blockForms", fn := fun _ => fun
  | [d1, d2] => { results := [.lit (.bool true)], args := [d1, d2] }
  | _ => none }
def blockFormsRow : OpenClaim := { program := "ytikndlkfmjhgdaa", sum := "cdb8d749841783e02e50c1127aaff65000334ce54ece082a741f5ae8d8fb3ce4", func := "lampbearer/lampbearerlaw.BlockForms", spec := "blockForms", unfollowed := true, recurses := true, plainKeys := false, apart := false }
def BlockFormsSaid : Prop := blockFormsRow.holds Try.pinned (OpenSpec.ofChange blockFormsSpec)

/-- ITS FALSE NEIGHBOUR: 'it returns false'. Refute it at one input. -/
def blockFormsWrong : ChangeSpec := { name := "blockForms", fn := fun _ => fun
  | [d1, d2] => { results := [.lit (.bool false)], args := [d1, d2] }
  | _ => none }
def BlockFormsWrongFalsely : Prop := blockFormsRow.holds Try.pinned (OpenSpec.ofChange blockFormsWrong)

/-- 'lampbearerlaw.TxForms': WHATEVER THE INPUT: true; the input reads as it did. -/
def txFormsSpec : ChangeSpec := { name := "txForms", fn := fun _ => fun
  | [d1, d2, d3] => { results := [.lit (.bool true)], args := [d1, d2, d3] }
  | _ => none }
def txFormsRow : OpenClaim := { program := "ytikndlkfmjhgdaa", sum := "cdb8d749841783e02e50c1127aaff65000334ce54ece082a741f5ae8d8fb3ce4", func := "lampbearer/lampbearerlaw.TxForms", spec := "txForms", unfollowed := true, recurses := true, plainKeys := false, apart := false }
def TxFormsSaid : Prop := txFormsRow.holds Try.pinned (OpenSpec.ofChange txFormsSpec)

/-- ITS FALSE NEIGHBOUR: 'it returns false'. Refute it at one input. -/
def txFormsWrong : ChangeSpec := { name := "txForms", fn := fun _ => fun
  | [d1, d2, d3] => { results := [.lit (.bool false)], args := [d1, d2, d3] }
  | _ => none }
def TxFormsWrongFalsely : Prop := txFormsRow.holds Try.pinned (OpenSpec.ofChange txFormsWrong)

/-- 'lampbearerlaw.ClientForms': WHATEVER THE INPUT: true; the input reads as it did. -/
def clientFormsSpec : ChangeSpec := { name := "clientForms", fn := fun _ => fun
  | [d1, d2] => { results := [.lit (.bool true)], args := [d1, d2] }
  | _ => none }
def clientFormsRow : OpenClaim := { program := "ytikndlkfmjhgdaa", sum := "cdb8d749841783e02e50c1127aaff65000334ce54ece082a741f5ae8d8fb3ce4", func := "lampbearer/lampbearerlaw.ClientForms", spec := "clientForms", unfollowed := true, recurses := true, plainKeys := false, apart := false }
def ClientFormsSaid : Prop := clientFormsRow.holds Try.pinned (OpenSpec.ofChange clientFormsSpec)

/-- ITS FALSE NEIGHBOUR: 'it returns false'. Refute it at one input. -/
def clientFormsWrong : ChangeSpec := { name := "clientForms", fn := fun _ => fun
  | [d1, d2] => { results := [.lit (.bool false)], args := [d1, d2] }
  | _ => none }
def ClientFormsWrongFalsely : Prop := clientFormsRow.holds Try.pinned (OpenSpec.ofChange clientFormsWrong)

/- THE SECOND FORM. 'bulk': how many values and letters a reading holds, each counted each time it is reached (what is shared counts as often as it is met; a slice's spare places count too). A statement '..UptoSaid' is the law's where the arguments, and the package variables that the reading takes, are together of bulk at most 1048576: NARROWER than '..Said'. Prove '..Said' where nothing that the law and all that it calls make is longer than what came in: it says more and counts as full. Else prove '..UptoSaid'. A law counts once. -/
mutual
def uptoBulk {H : Type} : DataW H → Nat
  | .lit (.string bytes) => bytes.length + 1
  | .lit _ => 1
  | .nil => 1
  | .ptr d => uptoBulk d + 1
  | .slice elems spare => uptoBulkAll elems + uptoBulkAll spare + 1
  | .agg parts => uptoBulkAll parts + 1
  | .iface _ d => uptoBulk d + 1
  | .map entries => uptoBulkEntries entries + 1
  | .held _ => 1
def uptoBulkAll {H : Type} : List (DataW H) → Nat
  | [] => 0
  | d :: r => uptoBulk d + uptoBulkAll r
def uptoBulkEntries {H : Type} : List (Lit × DataW H) → Nat
  | [] => 0
  | x :: r => uptoBulkEntry x + uptoBulkEntries r
def uptoBulkEntry {H : Type} : Lit × DataW H → Nat
  | (.string bytes, d) => bytes.length + uptoBulk d + 1
  | (_, d) => uptoBulk d + 1
 end
def uptoSmall : (H : Type) → List (DataW H) → Bool := fun _ ds => decide (uptoBulkAll ds ≤ 1048576)
def OpenSpec.upto (s : _root_.Go.ChangeSpec) : _root_.Go.OpenSpec := { _root_.Go.OpenSpec.ofChange s with cond := some uptoSmall }

/-- 'lampbearerlaw.ProofChecks', WHERE WHAT IT READS IS OF BULK AT MOST 1048576: true; the input reads as it did. -/
def proofChecksUptoRow : OpenClaim := { program := "ytikndlkfmjhgdaa", sum := "cdb8d749841783e02e50c1127aaff65000334ce54ece082a741f5ae8d8fb3ce4", func := "lampbearer/lampbearerlaw.ProofChecks", spec := "proofChecks", unfollowed := true, recurses := true, plainKeys := false, apart := false, narrowed := true }
def ProofChecksUptoSaid : Prop := proofChecksUptoRow.holds Try.pinned (OpenSpec.upto proofChecksSpec)

/-- 'lampbearerlaw.TreePairs', WHERE WHAT IT READS IS OF BULK AT MOST 1048576: true; the input reads as it did. -/
def treePairsUptoRow : OpenClaim := { program := "ytikndlkfmjhgdaa", sum := "cdb8d749841783e02e50c1127aaff65000334ce54ece082a741f5ae8d8fb3ce4", func := "lampbearer/lampbearerlaw.TreePairs", spec := "treePairs", unfollowed := true, recurses := true, loops := true, plainKeys := false, apart := false, narrowed := true }
def TreePairsUptoSaid : Prop := treePairsUptoRow.holds Try.pinned (OpenSpec.upto treePairsSpec)

/-- 'lampbearerlaw.RootWhole', WHERE WHAT IT READS IS OF BULK AT MOST 1048576: true; the input reads as it did. -/
def rootWholeUptoRow : OpenClaim := { program := "ytikndlkfmjhgdaa", sum := "cdb8d749841783e02e50c1127aaff65000334ce54ece082a741f5ae8d8fb3ce4", func := "lampbearer/lampbearerlaw.RootWhole", spec := "rootWhole", unfollowed := true, recurses := true, loops := true, plainKeys := false, apart := false, narrowed := true }
def RootWholeUptoSaid : Prop := rootWholeUptoRow.holds Try.pinned (OpenSpec.upto rootWholeSpec)

/-- 'lampbearerlaw.RootLoads', WHERE WHAT IT READS IS OF BULK AT MOST 1048576: true; the input reads as it did. -/
def rootLoadsUptoRow : OpenClaim := { program := "ytikndlkfmjhgdaa", sum := "cdb8d749841783e02e50c1127aaff65000334ce54ece082a741f5ae8d8fb3ce4", func := "lampbearer/lampbearerlaw.RootLoads", spec := "rootLoads", unfollowed := true, recurses := true, plainKeys := false, apart := false, narrowed := true }
def RootLoadsUptoSaid : Prop := rootLoadsUptoRow.holds Try.pinned (OpenSpec.upto rootLoadsSpec)

/-- 'lampbearerlaw.TreeRights', WHERE WHAT IT READS IS OF BULK AT MOST 1048576: true; the input reads as it did. -/
def treeRightsUptoRow : OpenClaim := { program := "ytikndlkfmjhgdaa", sum := "cdb8d749841783e02e50c1127aaff65000334ce54ece082a741f5ae8d8fb3ce4", func := "lampbearer/lampbearerlaw.TreeRights", spec := "treeRights", unfollowed := true, recurses := true, loops := true, plainKeys := false, apart := false, narrowed := true }
def TreeRightsUptoSaid : Prop := treeRightsUptoRow.holds Try.pinned (OpenSpec.upto treeRightsSpec)

/-- 'lampbearerlaw.TreeGets', WHERE WHAT IT READS IS OF BULK AT MOST 1048576: true; the input reads as it did. -/
def treeGetsUptoRow : OpenClaim := { program := "ytikndlkfmjhgdaa", sum := "cdb8d749841783e02e50c1127aaff65000334ce54ece082a741f5ae8d8fb3ce4", func := "lampbearer/lampbearerlaw.TreeGets", spec := "treeGets", unfollowed := true, recurses := true, loops := true, plainKeys := false, apart := false, narrowed := true }
def TreeGetsUptoSaid : Prop := treeGetsUptoRow.holds Try.pinned (OpenSpec.upto treeGetsSpec)

/-- 'lampbearerlaw.MemoryPlays', WHERE WHAT IT READS IS OF BULK AT MOST 1048576: true; the input reads as it did. -/
def memoryPlaysUptoRow : OpenClaim := { program := "ytikndlkfmjhgdaa", sum := "cdb8d749841783e02e50c1127aaff65000334ce54ece082a741f5ae8d8fb3ce4", func := "lampbearer/lampbearerlaw.MemoryPlays", spec := "memoryPlays", inPlace := ["math/bits.Sub64"], plainKeys := false, apart := false, narrowed := true }
def MemoryPlaysUptoSaid : Prop := memoryPlaysUptoRow.holds Try.pinned (OpenSpec.upto memoryPlaysSpec)

/-- 'lampbearerlaw.BlockForms', WHERE WHAT IT READS IS OF BULK AT MOST 1048576: true; the input reads as it did. -/
def blockFormsUptoRow : OpenClaim := { program := "ytikndlkfmjhgdaa", sum := "cdb8d749841783e02e50c1127aaff65000334ce54ece082a741f5ae8d8fb3ce4", func := "lampbearer/lampbearerlaw.BlockForms", spec := "blockForms", unfollowed := true, recurses := true, plainKeys := false, apart := false, narrowed := true }
def BlockFormsUptoSaid : Prop := blockFormsUptoRow.holds Try.pinned (OpenSpec.upto blockFormsSpec)

/-- 'lampbearerlaw.TxForms', WHERE WHAT IT READS IS OF BULK AT MOST 1048576: true; the input reads as it did. -/
def txFormsUptoRow : OpenClaim := { program := "ytikndlkfmjhgdaa", sum := "cdb8d749841783e02e50c1127aaff65000334ce54ece082a741f5ae8d8fb3ce4", func := "lampbearer/lampbearerlaw.TxForms", spec := "txForms", unfollowed := true, recurses := true, plainKeys := false, apart := false, narrowed := true }
def TxFormsUptoSaid : Prop := txFormsUptoRow.holds Try.pinned (OpenSpec.upto txFormsSpec)

/-- 'lampbearerlaw.ClientForms', WHERE WHAT IT READS IS OF BULK AT MOST 1048576: true; the input reads as it did. -/
def clientFormsUptoRow : OpenClaim := { program := "ytikndlkfmjhgdaa", sum := "cdb8d749841783e02e50c1127aaff65000334ce54ece082a741f5ae8d8fb3ce4", func := "lampbearer/lampbearerlaw.ClientForms", spec := "clientForms", unfollowed := true, recurses := true, plainKeys := false, apart := false, narrowed := true }
def ClientFormsUptoSaid : Prop := clientFormsUptoRow.holds Try.pinned (OpenSpec.upto clientFormsSpec)

end Rows
end Go.Proofs.Ytikndlkfmjhgdaa
