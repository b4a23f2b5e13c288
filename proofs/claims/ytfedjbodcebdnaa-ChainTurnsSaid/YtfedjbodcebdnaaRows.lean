/-
  NARROWER THAN 'FOR EVERY INPUT', by the rows' own cells (each row's printed sentence says how): PackEncodes: loops · TreeRights: loops · TreeGets: loops.
  DERIVED. THE GIVEN ROWS OF THIS SEAT. 11 by the template 'for every input the law returns true; each argument reads behind the call as it read before'; 0 by the template 'total and deterministic' (their statements: YtfedjbodcebdnaaTotals.lean).
  GIVEN WITH THE SEED: the statements are not yours to turn. If you find one false, say at which input.
  Laid BY PROGRAM, IN A SANDBOX (cutbox-rows.mjs): the forced cells as the released guide's own fill.sh prints them over the translation 5d691f873d5ea4d1… (all of the seat's roots in one cut). By AI agents, Wed Nov 11 2026. No macro, syntax, notation, axiom, sorry.
-/
import Derived.Test.YtfedjbodcebdnaaChecked
import GoSem.Claim
import GoSem.ClaimJoined
import GoSem.ClaimMapViews
import Derived.JoinedTies
import Derived.KernelRfl
namespace Go.Proofs.Ytfedjbodcebdnaa
/- THE CELL 'sum', in the pinned program and in every row, IS THE sha256 OF THE DUMP (.gsa) THAT YtfedjbodcebdnaaProg.lean LOADS. Nothing in Lean hashes anything: it is a label: what it is worth is what the hold of that sum in a sandbox is worth. -/
noncomputable def Try.pinned : Pinned := { name := "ytfedjbodcebdnaa", sum := "5d691f873d5ea4d190d31c5054425a6a66a6c1ddaab2a315f3cd86f296db7703", checked := Try.checked }
namespace Rows
def none {H : Type} : Left H := { results := [], args := [] }

/-- 'lampbearerlaw.ChainTurns': WHATEVER THE INPUT: true; the input reads as it did. -/
def chainTurnsSpec : ChangeSpec := { name := "chainTurns", fn := fun _ => fun
  | [d1, d2] => { results := [.lit (.bool true)], args := [d1, d2] }
  | _ => none }
def chainTurnsRow : OpenClaim := { program := "ytfedjbodcebdnaa", sum := "5d691f873d5ea4d190d31c5054425a6a66a6c1ddaab2a315f3cd86f296db7703", func := "lampbearer/lampbearerlaw.ChainTurns", spec := "chainTurns", apart := false }
def ChainTurnsSaid : Prop := chainTurnsRow.holds Try.pinned (OpenSpec.ofChange chainTurnsSpec)

/-- ITS FALSE NEIGHBOUR: 'it returns false'. Refute it at one input. -/
def chainTurnsWrong : ChangeSpec := { name := "chainTurns", fn := fun _ => fun
  | [d1, d2] => { results := [.lit (.bool false)], args := [d1, d2] }
  | _ => none }
def ChainTurnsWrongFalsely : Prop := chainTurnsRow.holds Try.pinned (OpenSpec.ofChange chainTurnsWrong)

/-- 'lampbearerlaw.PackEncodes': WHATEVER THE INPUT: true; the input reads as it did. -/
def packEncodesSpec : ChangeSpec := { name := "packEncodes", fn := fun _ => fun
  | [d] => { results := [.lit (.bool true)], args := [d] }
  | _ => none }
def packEncodesRow : OpenClaim := { program := "ytfedjbodcebdnaa", sum := "5d691f873d5ea4d190d31c5054425a6a66a6c1ddaab2a315f3cd86f296db7703", func := "lampbearer/lampbearerlaw.PackEncodes", spec := "packEncodes", recurses := true, loops := true, apart := false }
def PackEncodesSaid : Prop := packEncodesRow.holds Try.pinned (OpenSpec.ofChange packEncodesSpec)

/-- ITS FALSE NEIGHBOUR: 'it returns false'. Refute it at one input. -/
def packEncodesWrong : ChangeSpec := { name := "packEncodes", fn := fun _ => fun
  | [d] => { results := [.lit (.bool false)], args := [d] }
  | _ => none }
def PackEncodesWrongFalsely : Prop := packEncodesRow.holds Try.pinned (OpenSpec.ofChange packEncodesWrong)

/-- 'lampbearerlaw.TreeRights': WHATEVER THE INPUT: true; the input reads as it did. -/
def treeRightsSpec : ChangeSpec := { name := "treeRights", fn := fun _ => fun
  | [d] => { results := [.lit (.bool true)], args := [d] }
  | _ => none }
def treeRightsRow : OpenClaim := { program := "ytfedjbodcebdnaa", sum := "5d691f873d5ea4d190d31c5054425a6a66a6c1ddaab2a315f3cd86f296db7703", func := "lampbearer/lampbearerlaw.TreeRights", spec := "treeRights", unfollowed := true, recurses := true, loops := true, apart := false }
def TreeRightsSaid : Prop := treeRightsRow.holds Try.pinned (OpenSpec.ofChange treeRightsSpec)

/-- ITS FALSE NEIGHBOUR: 'it returns false'. Refute it at one input. -/
def treeRightsWrong : ChangeSpec := { name := "treeRights", fn := fun _ => fun
  | [d] => { results := [.lit (.bool false)], args := [d] }
  | _ => none }
def TreeRightsWrongFalsely : Prop := treeRightsRow.holds Try.pinned (OpenSpec.ofChange treeRightsWrong)

/-- 'lampbearerlaw.PackSplits': WHATEVER THE INPUT: true; the input reads as it did. -/
def packSplitsSpec : ChangeSpec := { name := "packSplits", fn := fun _ => fun
  | [d] => { results := [.lit (.bool true)], args := [d] }
  | _ => none }
def packSplitsRow : OpenClaim := { program := "ytfedjbodcebdnaa", sum := "5d691f873d5ea4d190d31c5054425a6a66a6c1ddaab2a315f3cd86f296db7703", func := "lampbearer/lampbearerlaw.PackSplits", spec := "packSplits", unfollowed := true, recurses := true, apart := false }
def PackSplitsSaid : Prop := packSplitsRow.holds Try.pinned (OpenSpec.ofChange packSplitsSpec)

/-- ITS FALSE NEIGHBOUR: 'it returns false'. Refute it at one input. -/
def packSplitsWrong : ChangeSpec := { name := "packSplits", fn := fun _ => fun
  | [d] => { results := [.lit (.bool false)], args := [d] }
  | _ => none }
def PackSplitsWrongFalsely : Prop := packSplitsRow.holds Try.pinned (OpenSpec.ofChange packSplitsWrong)

/-- 'lampbearerlaw.PackDecodes': WHATEVER THE INPUT: true; the input reads as it did. -/
def packDecodesSpec : ChangeSpec := { name := "packDecodes", fn := fun _ => fun
  | [d] => { results := [.lit (.bool true)], args := [d] }
  | _ => none }
def packDecodesRow : OpenClaim := { program := "ytfedjbodcebdnaa", sum := "5d691f873d5ea4d190d31c5054425a6a66a6c1ddaab2a315f3cd86f296db7703", func := "lampbearer/lampbearerlaw.PackDecodes", spec := "packDecodes", unfollowed := true, recurses := true, apart := false }
def PackDecodesSaid : Prop := packDecodesRow.holds Try.pinned (OpenSpec.ofChange packDecodesSpec)

/-- ITS FALSE NEIGHBOUR: 'it returns false'. Refute it at one input. -/
def packDecodesWrong : ChangeSpec := { name := "packDecodes", fn := fun _ => fun
  | [d] => { results := [.lit (.bool false)], args := [d] }
  | _ => none }
def PackDecodesWrongFalsely : Prop := packDecodesRow.holds Try.pinned (OpenSpec.ofChange packDecodesWrong)

/-- 'lampbearerlaw.SpongeEach': WHATEVER THE INPUT: true; the input reads as it did. -/
def spongeEachSpec : ChangeSpec := { name := "spongeEach", fn := fun _ => fun
  | [d] => { results := [.lit (.bool true)], args := [d] }
  | _ => none }
def spongeEachRow : OpenClaim := { program := "ytfedjbodcebdnaa", sum := "5d691f873d5ea4d190d31c5054425a6a66a6c1ddaab2a315f3cd86f296db7703", func := "lampbearer/lampbearerlaw.SpongeEach", spec := "spongeEach", unfollowed := true, recurses := true, apart := false }
def SpongeEachSaid : Prop := spongeEachRow.holds Try.pinned (OpenSpec.ofChange spongeEachSpec)

/-- ITS FALSE NEIGHBOUR: 'it returns false'. Refute it at one input. -/
def spongeEachWrong : ChangeSpec := { name := "spongeEach", fn := fun _ => fun
  | [d] => { results := [.lit (.bool false)], args := [d] }
  | _ => none }
def SpongeEachWrongFalsely : Prop := spongeEachRow.holds Try.pinned (OpenSpec.ofChange spongeEachWrong)

/-- 'lampbearerlaw.BloomFilters': WHATEVER THE INPUT: true; the input reads as it did. -/
def bloomFiltersSpec : ChangeSpec := { name := "bloomFilters", fn := fun _ => fun
  | [d1, d2, d3, d4] => { results := [.lit (.bool true)], args := [d1, d2, d3, d4] }
  | _ => none }
def bloomFiltersRow : OpenClaim := { program := "ytfedjbodcebdnaa", sum := "5d691f873d5ea4d190d31c5054425a6a66a6c1ddaab2a315f3cd86f296db7703", func := "lampbearer/lampbearerlaw.BloomFilters", spec := "bloomFilters", apart := false }
def BloomFiltersSaid : Prop := bloomFiltersRow.holds Try.pinned (OpenSpec.ofChange bloomFiltersSpec)

/-- ITS FALSE NEIGHBOUR: 'it returns false'. Refute it at one input. -/
def bloomFiltersWrong : ChangeSpec := { name := "bloomFilters", fn := fun _ => fun
  | [d1, d2, d3, d4] => { results := [.lit (.bool false)], args := [d1, d2, d3, d4] }
  | _ => none }
def BloomFiltersWrongFalsely : Prop := bloomFiltersRow.holds Try.pinned (OpenSpec.ofChange bloomFiltersWrong)

/-- 'lampbearerlaw.TreeGets': WHATEVER THE INPUT: true; the input reads as it did. -/
def treeGetsSpec : ChangeSpec := { name := "treeGets", fn := fun _ => fun
  | [d1, d2] => { results := [.lit (.bool true)], args := [d1, d2] }
  | _ => none }
def treeGetsRow : OpenClaim := { program := "ytfedjbodcebdnaa", sum := "5d691f873d5ea4d190d31c5054425a6a66a6c1ddaab2a315f3cd86f296db7703", func := "lampbearer/lampbearerlaw.TreeGets", spec := "treeGets", unfollowed := true, recurses := true, loops := true, apart := false }
def TreeGetsSaid : Prop := treeGetsRow.holds Try.pinned (OpenSpec.ofChange treeGetsSpec)

/-- ITS FALSE NEIGHBOUR: 'it returns false'. Refute it at one input. -/
def treeGetsWrong : ChangeSpec := { name := "treeGets", fn := fun _ => fun
  | [d1, d2] => { results := [.lit (.bool false)], args := [d1, d2] }
  | _ => none }
def TreeGetsWrongFalsely : Prop := treeGetsRow.holds Try.pinned (OpenSpec.ofChange treeGetsWrong)

/-- 'lampbearerlaw.VmAddresses': WHATEVER THE INPUT: true; the input reads as it did. -/
def vmAddressesSpec : ChangeSpec := { name := "vmAddresses", fn := fun _ => fun
  | [d1, d2, d3] => { results := [.lit (.bool true)], args := [d1, d2, d3] }
  | _ => none }
def vmAddressesRow : OpenClaim := { program := "ytfedjbodcebdnaa", sum := "5d691f873d5ea4d190d31c5054425a6a66a6c1ddaab2a315f3cd86f296db7703", func := "lampbearer/lampbearerlaw.VmAddresses", spec := "vmAddresses", recurses := true, apart := false }
def VmAddressesSaid : Prop := vmAddressesRow.holds Try.pinned (OpenSpec.ofChange vmAddressesSpec)

/-- ITS FALSE NEIGHBOUR: 'it returns false'. Refute it at one input. -/
def vmAddressesWrong : ChangeSpec := { name := "vmAddresses", fn := fun _ => fun
  | [d1, d2, d3] => { results := [.lit (.bool false)], args := [d1, d2, d3] }
  | _ => none }
def VmAddressesWrongFalsely : Prop := vmAddressesRow.holds Try.pinned (OpenSpec.ofChange vmAddressesWrong)

/-- 'lampbearerlaw.RootCodes': WHATEVER THE INPUT: true; the input reads as it did. -/
def rootCodesSpec : ChangeSpec := { name := "rootCodes", fn := fun _ => fun
  | [d] => { results := [.lit (.bool true)], args := [d] }
  | _ => none }
def rootCodesRow : OpenClaim := { program := "ytfedjbodcebdnaa", sum := "5d691f873d5ea4d190d31c5054425a6a66a6c1ddaab2a315f3cd86f296db7703", func := "lampbearer/lampbearerlaw.RootCodes", spec := "rootCodes", recurses := true, apart := false }
def RootCodesSaid : Prop := rootCodesRow.holds Try.pinned (OpenSpec.ofChange rootCodesSpec)

/-- ITS FALSE NEIGHBOUR: 'it returns false'. Refute it at one input. -/
def rootCodesWrong : ChangeSpec := { name := "rootCodes", fn := fun _ => fun
  | [d] => { results := [.lit (.bool false)], args := [d] }
  | _ => none }
def RootCodesWrongFalsely : Prop := rootCodesRow.holds Try.pinned (OpenSpec.ofChange rootCodesWrong)

/-- 'lampbearerlaw.MemoryPlays': WHATEVER THE INPUT: true; the input reads as it did. -/
def memoryPlaysSpec : ChangeSpec := { name := "memoryPlays", fn := fun _ => fun
  | [d1, d2] => { results := [.lit (.bool true)], args := [d1, d2] }
  | _ => none }
def memoryPlaysRow : OpenClaim := { program := "ytfedjbodcebdnaa", sum := "5d691f873d5ea4d190d31c5054425a6a66a6c1ddaab2a315f3cd86f296db7703", func := "lampbearer/lampbearerlaw.MemoryPlays", spec := "memoryPlays", inPlace := ["math/bits.Sub64"], apart := false }
def MemoryPlaysSaid : Prop := memoryPlaysRow.holds Try.pinned (OpenSpec.ofChange memoryPlaysSpec)

/-- ITS FALSE NEIGHBOUR: 'it returns false'. Refute it at one input. -/
def memoryPlaysWrong : ChangeSpec := { name := "memoryPlays", fn := fun _ => fun
  | [d1, d2] => { results := [.lit (.bool false)], args := [d1, d2] }
  | _ => none }
def MemoryPlaysWrongFalsely : Prop := memoryPlaysRow.holds Try.pinned (OpenSpec.ofChange memoryPlaysWrong)

/- THE SECOND FORM. 'bulk': how many values and letters a reading holds, each counted each time it is reached (what is shared counts as often as it is met; a slice's spare places count too). A statement '..UptoSaid' is the law's where the arguments, and the package variables that the reading takes, are together of bulk at most 1048576: NARROWER than '..Said'. Prove '..Said' where nothing that the law and all that it calls make is longer than what came in: it says more and counts as full. Else prove '..UptoSaid'. A law counts once. -/
mutual
def uptoBulk {H : Type} : DataW H → Nat
  | .lit (.string bytes) => bytes.length + 1
  | .lit _ => 1
  | .nil => 1
  | .ptr d => uptoBulk d + 1
  | .slice elems spare => uptoBulkAll elems + uptoBulkAll spare + 1
  | .agg parts => uptoBulkAll parts + 1
  | .iface _ d => uptoBulk d + 1
  | .map entries => uptoBulkEntries entries + 1
  | .held _ => 1
def uptoBulkAll {H : Type} : List (DataW H) → Nat
  | [] => 0
  | d :: r => uptoBulk d + uptoBulkAll r
def uptoBulkEntries {H : Type} : List (Lit × DataW H) → Nat
  | [] => 0
  | x :: r => uptoBulkEntry x + uptoBulkEntries r
def uptoBulkEntry {H : Type} : Lit × DataW H → Nat
  | (.string bytes, d) => bytes.length + uptoBulk d + 1
  | (_, d) => uptoBulk d + 1
 end
def uptoSmall : (H : Type) → List (DataW H) → Bool := fun _ ds => decide (uptoBulkAll ds ≤ 1048576)
def OpenSpec.upto (s : _root_.Go.ChangeSpec) : _root_.Go.OpenSpec := { _root_.Go.OpenSpec.ofChange s with cond := some uptoSmall }

/-- 'lampbearerlaw.ChainTurns', WHERE WHAT IT READS IS OF BULK AT MOST 1048576: true; the input reads as it did. -/
def chainTurnsUptoRow : OpenClaim := { program := "ytfedjbodcebdnaa", sum := "5d691f873d5ea4d190d31c5054425a6a66a6c1ddaab2a315f3cd86f296db7703", func := "lampbearer/lampbearerlaw.ChainTurns", spec := "chainTurns", apart := false, narrowed := true }
def ChainTurnsUptoSaid : Prop := chainTurnsUptoRow.holds Try.pinned (OpenSpec.upto chainTurnsSpec)

/-- 'lampbearerlaw.PackEncodes', WHERE WHAT IT READS IS OF BULK AT MOST 1048576: true; the input reads as it did. -/
def packEncodesUptoRow : OpenClaim := { program := "ytfedjbodcebdnaa", sum := "5d691f873d5ea4d190d31c5054425a6a66a6c1ddaab2a315f3cd86f296db7703", func := "lampbearer/lampbearerlaw.PackEncodes", spec := "packEncodes", recurses := true, loops := true, apart := false, narrowed := true }
def PackEncodesUptoSaid : Prop := packEncodesUptoRow.holds Try.pinned (OpenSpec.upto packEncodesSpec)

/-- 'lampbearerlaw.TreeRights', WHERE WHAT IT READS IS OF BULK AT MOST 1048576: true; the input reads as it did. -/
def treeRightsUptoRow : OpenClaim := { program := "ytfedjbodcebdnaa", sum := "5d691f873d5ea4d190d31c5054425a6a66a6c1ddaab2a315f3cd86f296db7703", func := "lampbearer/lampbearerlaw.TreeRights", spec := "treeRights", unfollowed := true, recurses := true, loops := true, apart := false, narrowed := true }
def TreeRightsUptoSaid : Prop := treeRightsUptoRow.holds Try.pinned (OpenSpec.upto treeRightsSpec)

/-- 'lampbearerlaw.PackSplits', WHERE WHAT IT READS IS OF BULK AT MOST 1048576: true; the input reads as it did. -/
def packSplitsUptoRow : OpenClaim := { program := "ytfedjbodcebdnaa", sum := "5d691f873d5ea4d190d31c5054425a6a66a6c1ddaab2a315f3cd86f296db7703", func := "lampbearer/lampbearerlaw.PackSplits", spec := "packSplits", unfollowed := true, recurses := true, apart := false, narrowed := true }
def PackSplitsUptoSaid : Prop := packSplitsUptoRow.holds Try.pinned (OpenSpec.upto packSplitsSpec)

/-- 'lampbearerlaw.PackDecodes', WHERE WHAT IT READS IS OF BULK AT MOST 1048576: true; the input reads as it did. -/
def packDecodesUptoRow : OpenClaim := { program := "ytfedjbodcebdnaa", sum := "5d691f873d5ea4d190d31c5054425a6a66a6c1ddaab2a315f3cd86f296db7703", func := "lampbearer/lampbearerlaw.PackDecodes", spec := "packDecodes", unfollowed := true, recurses := true, apart := false, narrowed := true }
def PackDecodesUptoSaid : Prop := packDecodesUptoRow.holds Try.pinned (OpenSpec.upto packDecodesSpec)

/-- 'lampbearerlaw.SpongeEach', WHERE WHAT IT READS IS OF BULK AT MOST 1048576: true; the input reads as it did. -/
def spongeEachUptoRow : OpenClaim := { program := "ytfedjbodcebdnaa", sum := "5d691f873d5ea4d190d31c5054425a6a66a6c1ddaab2a315f3cd86f296db7703", func := "lampbearer/lampbearerlaw.SpongeEach", spec := "spongeEach", unfollowed := true, recurses := true, apart := false, narrowed := true }
def SpongeEachUptoSaid : Prop := spongeEachUptoRow.holds Try.pinned (OpenSpec.upto spongeEachSpec)

/-- 'lampbearerlaw.BloomFilters', WHERE WHAT IT READS IS OF BULK AT MOST 1048576: true; the input reads as it did. -/
def bloomFiltersUptoRow : OpenClaim := { program := "ytfedjbodcebdnaa", sum := "5d691f873d5ea4d190d31c5054425a6a66a6c1ddaab2a315f3cd86f296db7703", func := "lampbearer/lampbearerlaw.BloomFilters", spec := "bloomFilters", apart := false, narrowed := true }
def BloomFiltersUptoSaid : Prop := bloomFiltersUptoRow.holds Try.pinned (OpenSpec.upto bloomFiltersSpec)

/-- 'lampbearerlaw.TreeGets', WHERE WHAT IT READS IS OF BULK AT MOST 1048576: true; the input reads as it did. -/
def treeGetsUptoRow : OpenClaim := { program := "ytfedjbodcebdnaa", sum := "5d691f873d5ea4d190d31c5054425a6a66a6c1ddaab2a315f3cd86f296db7703", func := "lampbearer/lampbearerlaw.TreeGets", spec := "treeGets", unfollowed := true, recurses := true, loops := true, apart := false, narrowed := true }
def TreeGetsUptoSaid : Prop := treeGetsUptoRow.holds Try.pinned (OpenSpec.upto treeGetsSpec)

/-- 'lampbearerlaw.VmAddresses', WHERE WHAT IT READS IS OF BULK AT MOST 1048576: true; the input reads as it did. -/
def vmAddressesUptoRow : OpenClaim := { program := "ytfedjbodcebdnaa", sum := "5d691f873d5ea4d190d31c5054425a6a66a6c1ddaab2a315f3cd86f296db7703", func := "lampbearer/lampbearerlaw.VmAddresses", spec := "vmAddresses", recurses := true, apart := false, narrowed := true }
def VmAddressesUptoSaid : Prop := vmAddressesUptoRow.holds Try.pinned (OpenSpec.upto vmAddressesSpec)

/-- 'lampbearerlaw.RootCodes', WHERE WHAT IT READS IS OF BULK AT MOST 1048576: true; the input reads as it did. -/
def rootCodesUptoRow : OpenClaim := { program := "ytfedjbodcebdnaa", sum := "5d691f873d5ea4d190d31c5054425a6a66a6c1ddaab2a315f3cd86f296db7703", func := "lampbearer/lampbearerlaw.RootCodes", spec := "rootCodes", recurses := true, apart := false, narrowed := true }
def RootCodesUptoSaid : Prop := rootCodesUptoRow.holds Try.pinned (OpenSpec.upto rootCodesSpec)

/-- 'lampbearerlaw.MemoryPlays', WHERE WHAT IT READS IS OF BULK AT MOST 1048576: true; the input reads as it did. -/
def memoryPlaysUptoRow : OpenClaim := { program := "ytfedjbodcebdnaa", sum := "5d691f873d5ea4d190d31c5054425a6a66a6c1ddaab2a315f3cd86f296db7703", func := "lampbearer/lampbearerlaw.MemoryPlays", spec := "memoryPlays", inPlace := ["math/bits.Sub64"], apart := false, narrowed := true }
def MemoryPlaysUptoSaid : Prop := memoryPlaysUptoRow.holds Try.pinned (OpenSpec.upto memoryPlaysSpec)

end Rows
end Go.Proofs.Ytfedjbodcebdnaa
