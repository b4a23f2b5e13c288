/-
  NARROWER THAN 'FOR EVERY INPUT', by the rows' own cells (each row's printed sentence says how): TreePairs: loops.
  DERIVED. THE GIVEN ROWS OF THIS SEAT. 4 by the template 'for every input the law returns true; each argument reads behind the call as it read before'; 0 by the template 'total and deterministic' (their statements: YtljbbpcnoajfeaaTotals.lean).
  GIVEN WITH THE SEED: the statements are not yours to turn. If you find one false, say at which input.
  Laid BY PROGRAM, IN A SANDBOX (cutbox-rows.mjs): the forced cells as the released guide's own fill.sh prints them over the translation ce3534927bbf6bbd… (all of the seat's roots in one cut). By AI agents, Wed Nov 11 2026. No macro, syntax, notation, axiom, sorry.
-/
import Derived.Test.YtljbbpcnoajfeaaChecked
import GoSem.Claim
import GoSem.ClaimJoined
import GoSem.ClaimMapViews
import Derived.JoinedTies
import Derived.KernelRfl
namespace Go.Proofs.Ytljbbpcnoajfeaa
/- THE CELL 'sum', in the pinned program and in every row, IS THE sha256 OF THE DUMP (.gsa) THAT YtljbbpcnoajfeaaProg.lean LOADS. Nothing in Lean hashes anything: it is a label: what it is worth is what the hold of that sum in a sandbox is worth. -/
noncomputable def Try.pinned : Pinned := { name := "ytljbbpcnoajfeaa", sum := "ce3534927bbf6bbd83867e81e310fa385c42f61fec6095a9ad27d7554f1f4d3b", checked := Try.checked }
namespace Rows
def none {H : Type} : Left H := { results := [], args := [] }

/-- 'lampbearerlaw.TreePairs': WHATEVER THE INPUT: true; the input reads as it did. -/
def treePairsSpec : ChangeSpec := { name := "treePairs", fn := fun _ => fun
  | [d] => { results := [.lit (.bool true)], args := [d] }
  | _ => none }
def treePairsRow : OpenClaim := { program := "ytljbbpcnoajfeaa", sum := "ce3534927bbf6bbd83867e81e310fa385c42f61fec6095a9ad27d7554f1f4d3b", func := "lampbearer/lampbearerlaw.TreePairs", spec := "treePairs", unfollowed := true, recurses := true, loops := true, plainKeys := false, apart := false }
def TreePairsSaid : Prop := treePairsRow.holds Try.pinned (OpenSpec.ofChange treePairsSpec)

/-- ITS FALSE NEIGHBOUR: 'it returns false'. Refute it at one input. -/
def treePairsWrong : ChangeSpec := { name := "treePairs", fn := fun _ => fun
  | [d] => { results := [.lit (.bool false)], args := [d] }
  | _ => none }
def TreePairsWrongFalsely : Prop := treePairsRow.holds Try.pinned (OpenSpec.ofChange treePairsWrong)

/-- 'lampbearerlaw.SiftFinds': WHATEVER THE INPUT: true; the input reads as it did. -/
def siftFindsSpec : ChangeSpec := { name := "siftFinds", fn := fun _ => fun
  | [d1, d2, d3] => { results := [.lit (.bool true)], args := [d1, d2, d3] }
  | _ => none }
def siftFindsRow : OpenClaim := { program := "ytljbbpcnoajfeaa", sum := "ce3534927bbf6bbd83867e81e310fa385c42f61fec6095a9ad27d7554f1f4d3b", func := "lampbearer/lampbearerlaw.SiftFinds", spec := "siftFinds", unfollowed := true, recurses := true, plainKeys := false, apart := false }
def SiftFindsSaid : Prop := siftFindsRow.holds Try.pinned (OpenSpec.ofChange siftFindsSpec)

/-- ITS FALSE NEIGHBOUR: 'it returns false'. Refute it at one input. -/
def siftFindsWrong : ChangeSpec := { name := "siftFinds", fn := fun _ => fun
  | [d1, d2, d3] => { results := [.lit (.bool false)], args := [d1, d2, d3] }
  | _ => none }
def SiftFindsWrongFalsely : Prop := siftFindsRow.holds Try.pinned (OpenSpec.ofChange siftFindsWrong)

/-- 'lampbearerlaw.ChainLines': WHATEVER THE INPUT: true; the input reads as it did. -/
def chainLinesSpec : ChangeSpec := { name := "chainLines", fn := fun _ => fun
  | [d1, d2] => { results := [.lit (.bool true)], args := [d1, d2] }
  | _ => none }
def chainLinesRow : OpenClaim := { program := "ytljbbpcnoajfeaa", sum := "ce3534927bbf6bbd83867e81e310fa385c42f61fec6095a9ad27d7554f1f4d3b", func := "lampbearer/lampbearerlaw.ChainLines", spec := "chainLines", inPlace := ["internal/bytealg.Compare"], unfollowed := true, recurses := true, plainKeys := false, apart := false }
def ChainLinesSaid : Prop := chainLinesRow.holds Try.pinned (OpenSpec.ofChange chainLinesSpec)

/-- ITS FALSE NEIGHBOUR: 'it returns false'. Refute it at one input. -/
def chainLinesWrong : ChangeSpec := { name := "chainLines", fn := fun _ => fun
  | [d1, d2] => { results := [.lit (.bool false)], args := [d1, d2] }
  | _ => none }
def ChainLinesWrongFalsely : Prop := chainLinesRow.holds Try.pinned (OpenSpec.ofChange chainLinesWrong)

/-- 'lampbearerlaw.JournalPlays': WHATEVER THE INPUT: true; the input reads as it did. -/
def journalPlaysSpec : ChangeSpec := { name := "journalPlays", fn := fun _ => fun
  | [d] => { results := [.lit (.bool true)], args := [d] }
  | _ => none }
def journalPlaysRow : OpenClaim := { program := "ytljbbpcnoajfeaa", sum := "ce3534927bbf6bbd83867e81e310fa385c42f61fec6095a9ad27d7554f1f4d3b", func := "lampbearer/lampbearerlaw.JournalPlays", spec := "journalPlays", inPlace := ["maps.clone"], unfollowed := true, recurses := true, plainKeys := false, apart := false }
def JournalPlaysSaid : Prop := journalPlaysRow.holds Try.pinned (OpenSpec.ofChange journalPlaysSpec)

/-- ITS FALSE NEIGHBOUR: 'it returns false'. Refute it at one input. -/
def journalPlaysWrong : ChangeSpec := { name := "journalPlays", fn := fun _ => fun
  | [d] => { results := [.lit (.bool false)], args := [d] }
  | _ => none }
def JournalPlaysWrongFalsely : Prop := journalPlaysRow.holds Try.pinned (OpenSpec.ofChange journalPlaysWrong)

/- THE SECOND FORM. 'bulk': how many values and letters a reading holds, each counted each time it is reached (what is shared counts as often as it is met; a slice's spare places count too). A statement '..UptoSaid' is the law's where the arguments, and the package variables that the reading takes, are together of bulk at most 1048576: NARROWER than '..Said'. Prove '..Said' where nothing that the law and all that it calls make is longer than what came in: it says more and counts as full. Else prove '..UptoSaid'. A law counts once. -/
mutual
def uptoBulk {H : Type} : DataW H → Nat
  | .lit (.string bytes) => bytes.length + 1
  | .lit _ => 1
  | .nil => 1
  | .ptr d => uptoBulk d + 1
  | .slice elems spare => uptoBulkAll elems + uptoBulkAll spare + 1
  | .agg parts => uptoBulkAll parts + 1
  | .iface _ d => uptoBulk d + 1
  | .map entries => uptoBulkEntries entries + 1
  | .held _ => 1
def uptoBulkAll {H : Type} : List (DataW H) → Nat
  | [] => 0
  | d :: r => uptoBulk d + uptoBulkAll r
def uptoBulkEntries {H : Type} : List (Lit × DataW H) → Nat
  | [] => 0
  | x :: r => uptoBulkEntry x + uptoBulkEntries r
def uptoBulkEntry {H : Type} : Lit × DataW H → Nat
  | (.string bytes, d) => bytes.length + uptoBulk d + 1
  | (_, d) => uptoBulk d + 1
 end
def uptoSmall : (H : Type) → List (DataW H) → Bool := fun _ ds => decide (uptoBulkAll ds ≤ 1048576)
def OpenSpec.upto (s : _root_.Go.ChangeSpec) : _root_.Go.OpenSpec := { _root_.Go.OpenSpec.ofChange s with cond := some uptoSmall }

/-- 'lampbearerlaw.TreePairs', WHERE WHAT IT READS IS OF BULK AT MOST 1048576: true; the input reads as it did. -/
def treePairsUptoRow : OpenClaim := { program := "ytljbbpcnoajfeaa", sum := "ce3534927bbf6bbd83867e81e310fa385c42f61fec6095a9ad27d7554f1f4d3b", func := "lampbearer/lampbearerlaw.TreePairs", spec := "treePairs", unfollowed := true, recurses := true, loops := true, plainKeys := false, apart := false, narrowed := true }
def TreePairsUptoSaid : Prop := treePairsUptoRow.holds Try.pinned (OpenSpec.upto treePairsSpec)

/-- 'lampbearerlaw.SiftFinds', WHERE WHAT IT READS IS OF BULK AT MOST 1048576: true; the input reads as it did. -/
def siftFindsUptoRow : OpenClaim := { program := "ytljbbpcnoajfeaa", sum := "ce3534927bbf6bbd83867e81e310fa385c42f61fec6095a9ad27d7554f1f4d3b", func := "lampbearer/lampbearerlaw.SiftFinds", spec := "siftFinds", unfollowed := true, recurses := true, plainKeys := false, apart := false, narrowed := true }
def SiftFindsUptoSaid : Prop := siftFindsUptoRow.holds Try.pinned (OpenSpec.upto siftFindsSpec)

/-- 'lampbearerlaw.ChainLines', WHERE WHAT IT READS IS OF BULK AT MOST 1048576: true; the input reads as it did. -/
def chainLinesUptoRow : OpenClaim := { program := "ytljbbpcnoajfeaa", sum := "ce3534927bbf6bbd83867e81e310fa385c42f61fec6095a9ad27d7554f1f4d3b", func := "lampbearer/lampbearerlaw.ChainLines", spec := "chainLines", inPlace := ["internal/bytealg.Compare"], unfollowed := true, recurses := true, plainKeys := false, apart := false, narrowed := true }
def ChainLinesUptoSaid : Prop := chainLinesUptoRow.holds Try.pinned (OpenSpec.upto chainLinesSpec)

/-- 'lampbearerlaw.JournalPlays', WHERE WHAT IT READS IS OF BULK AT MOST 1048576: true; the input reads as it did. -/
def journalPlaysUptoRow : OpenClaim := { program := "ytljbbpcnoajfeaa", sum := "ce3534927bbf6bbd83867e81e310fa385c42f61fec6095a9ad27d7554f1f4d3b", func := "lampbearer/lampbearerlaw.JournalPlays", spec := "journalPlays", inPlace := ["maps.clone"], unfollowed := true, recurses := true, plainKeys := false, apart := false, narrowed := true }
def JournalPlaysUptoSaid : Prop := journalPlaysUptoRow.holds Try.pinned (OpenSpec.upto journalPlaysSpec)

end Rows
end Go.Proofs.Ytljbbpcnoajfeaa
