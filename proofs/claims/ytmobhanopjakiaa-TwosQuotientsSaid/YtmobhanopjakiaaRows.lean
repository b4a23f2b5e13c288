/-
  NARROWER THAN 'FOR EVERY INPUT', by the rows' own cells (each row's printed sentence says how): TreeGets: loops · TreePairs: loops.
  DERIVED. THE GIVEN ROWS OF THIS SEAT. 12 by the template 'for every input the law returns true; each argument reads behind the call as it read before'; 0 by the template 'total and deterministic' (their statements: YtmobhanopjakiaaTotals.lean).
  GIVEN WITH THE SEED: the statements are not yours to turn. If you find one false, say at which input.
  Laid BY PROGRAM, IN A SANDBOX (cutbox-rows.mjs): the forced cells as the released guide's own fill.sh prints them over the translation 0b5675d74bc2360a… (all of the seat's roots in one cut). By AI agents, Wed Nov 11 2026. No macro, syntax, notation, axiom, sorry.
-/
import Derived.Test.YtmobhanopjakiaaChecked
import GoSem.Claim
import GoSem.ClaimJoined
import GoSem.ClaimMapViews
import Derived.JoinedTies
import Derived.KernelRfl
namespace Go.Proofs.Ytmobhanopjakiaa
/- THE CELL 'sum', in the pinned program and in every row, IS THE sha256 OF THE DUMP (.gsa) THAT YtmobhanopjakiaaProg.lean LOADS. Nothing in Lean hashes anything: it is a label: what it is worth is what the hold of that sum in a sandbox is worth. -/
noncomputable def Try.pinned : Pinned := { name := "ytmobhanopjakiaa", sum := "0b5675d74bc2360a73af42d1bec7081da3c448716423e2dadae47129e586f026", checked := Try.checked }
namespace Rows
def none {H : Type} : Left H := { results := [], args := [] }

/-- 'lampbearerlaw.TwosQuotients': WHATEVER THE INPUT: true; the input reads as it did. -/
def twosQuotientsSpec : ChangeSpec := { name := "twosQuotients", fn := fun _ => fun
  | [d1, d2] => { results := [.lit (.bool true)], args := [d1, d2] }
  | _ => none }
def twosQuotientsRow : OpenClaim := { program := "ytmobhanopjakiaa", sum := "0b5675d74bc2360a73af42d1bec7081da3c448716423e2dadae47129e586f026", func := "lampbearer/lampbearerlaw.TwosQuotients", spec := "twosQuotients", inPlace := ["math/bits.Sub64"], recurses := true, apart := false }
def TwosQuotientsSaid : Prop := twosQuotientsRow.holds Try.pinned (OpenSpec.ofChange twosQuotientsSpec)

/-- ITS FALSE NEIGHBOUR: 'it returns false'. Refute it at one input. -/
def twosQuotientsWrong : ChangeSpec := { name := "twosQuotients", fn := fun _ => fun
  | [d1, d2] => { results := [.lit (.bool false)], args := [d1, d2] }
  | _ => none }
def TwosQuotientsWrongFalsely : Prop := twosQuotientsRow.holds Try.pinned (OpenSpec.ofChange twosQuotientsWrong)

/-- 'lampbearerlaw.WordRests': WHATEVER THE INPUT: true; the input reads as it did. -/
def wordRestsSpec : ChangeSpec := { name := "wordRests", fn := fun _ => fun
  | [d1, d2, d3] => { results := [.lit (.bool true)], args := [d1, d2, d3] }
  | _ => none }
def wordRestsRow : OpenClaim := { program := "ytmobhanopjakiaa", sum := "0b5675d74bc2360a73af42d1bec7081da3c448716423e2dadae47129e586f026", func := "lampbearer/lampbearerlaw.WordRests", spec := "wordRests", inPlace := ["math/bits.Add64", "math/bits.Sub64"], recurses := true, apart := false }
def WordRestsSaid : Prop := wordRestsRow.holds Try.pinned (OpenSpec.ofChange wordRestsSpec)

/-- ITS FALSE NEIGHBOUR: 'it returns false'. Refute it at one input. -/
def wordRestsWrong : ChangeSpec := { name := "wordRests", fn := fun _ => fun
  | [d1, d2, d3] => { results := [.lit (.bool false)], args := [d1, d2, d3] }
  | _ => none }
def WordRestsWrongFalsely : Prop := wordRestsRow.holds Try.pinned (OpenSpec.ofChange wordRestsWrong)

/-- 'lampbearerlaw.TwosBytes': WHATEVER THE INPUT: true; the input reads as it did. -/
def twosBytesSpec : ChangeSpec := { name := "twosBytes", fn := fun _ => fun
  | [d1, d2] => { results := [.lit (.bool true)], args := [d1, d2] }
  | _ => none }
def twosBytesRow : OpenClaim := { program := "ytmobhanopjakiaa", sum := "0b5675d74bc2360a73af42d1bec7081da3c448716423e2dadae47129e586f026", func := "lampbearer/lampbearerlaw.TwosBytes", spec := "twosBytes", inPlace := ["math/bits.Sub64"], unfollowed := true, recurses := true, apart := false }
def TwosBytesSaid : Prop := twosBytesRow.holds Try.pinned (OpenSpec.ofChange twosBytesSpec)

/-- ITS FALSE NEIGHBOUR: 'it returns false'. Refute it at one input. -/
def twosBytesWrong : ChangeSpec := { name := "twosBytes", fn := fun _ => fun
  | [d1, d2] => { results := [.lit (.bool false)], args := [d1, d2] }
  | _ => none }
def TwosBytesWrongFalsely : Prop := twosBytesRow.holds Try.pinned (OpenSpec.ofChange twosBytesWrong)

/-- 'lampbearerlaw.HexNumbers': WHATEVER THE INPUT: true; the input reads as it did. -/
def hexNumbersSpec : ChangeSpec := { name := "hexNumbers", fn := fun _ => fun
  | [d1, d2] => { results := [.lit (.bool true)], args := [d1, d2] }
  | _ => none }
def hexNumbersRow : OpenClaim := { program := "ytmobhanopjakiaa", sum := "0b5675d74bc2360a73af42d1bec7081da3c448716423e2dadae47129e586f026", func := "lampbearer/lampbearerlaw.HexNumbers", spec := "hexNumbers", inPlace := ["math/bits.Add64"], recurses := true, apart := false }
def HexNumbersSaid : Prop := hexNumbersRow.holds Try.pinned (OpenSpec.ofChange hexNumbersSpec)

/-- ITS FALSE NEIGHBOUR: 'it returns false'. Refute it at one input. -/
def hexNumbersWrong : ChangeSpec := { name := "hexNumbers", fn := fun _ => fun
  | [d1, d2] => { results := [.lit (.bool false)], args := [d1, d2] }
  | _ => none }
def HexNumbersWrongFalsely : Prop := hexNumbersRow.holds Try.pinned (OpenSpec.ofChange hexNumbersWrong)

/-- 'lampbearerlaw.SpongeEach': WHATEVER THE INPUT: true; the input reads as it did. -/
def spongeEachSpec : ChangeSpec := { name := "spongeEach", fn := fun _ => fun
  | [d] => { results := [.lit (.bool true)], args := [d] }
  | _ => none }
def spongeEachRow : OpenClaim := { program := "ytmobhanopjakiaa", sum := "0b5675d74bc2360a73af42d1bec7081da3c448716423e2dadae47129e586f026", func := "lampbearer/lampbearerlaw.SpongeEach", spec := "spongeEach", unfollowed := true, recurses := true, apart := false }
def SpongeEachSaid : Prop := spongeEachRow.holds Try.pinned (OpenSpec.ofChange spongeEachSpec)

/-- ITS FALSE NEIGHBOUR: 'it returns false'. Refute it at one input. -/
def spongeEachWrong : ChangeSpec := { name := "spongeEach", fn := fun _ => fun
  | [d] => { results := [.lit (.bool false)], args := [d] }
  | _ => none }
def SpongeEachWrongFalsely : Prop := spongeEachRow.holds Try.pinned (OpenSpec.ofChange spongeEachWrong)

/-- 'lampbearerlaw.BloomFilters': WHATEVER THE INPUT: true; the input reads as it did. -/
def bloomFiltersSpec : ChangeSpec := { name := "bloomFilters", fn := fun _ => fun
  | [d1, d2, d3, d4] => { results := [.lit (.bool true)], args := [d1, d2, d3, d4] }
  | _ => none }
def bloomFiltersRow : OpenClaim := { program := "ytmobhanopjakiaa", sum := "0b5675d74bc2360a73af42d1bec7081da3c448716423e2dadae47129e586f026", func := "lampbearer/lampbearerlaw.BloomFilters", spec := "bloomFilters", apart := false }
def BloomFiltersSaid : Prop := bloomFiltersRow.holds Try.pinned (OpenSpec.ofChange bloomFiltersSpec)

/-- ITS FALSE NEIGHBOUR: 'it returns false'. Refute it at one input. -/
def bloomFiltersWrong : ChangeSpec := { name := "bloomFilters", fn := fun _ => fun
  | [d1, d2, d3, d4] => { results := [.lit (.bool false)], args := [d1, d2, d3, d4] }
  | _ => none }
def BloomFiltersWrongFalsely : Prop := bloomFiltersRow.holds Try.pinned (OpenSpec.ofChange bloomFiltersWrong)

/-- 'lampbearerlaw.TreeGets': WHATEVER THE INPUT: true; the input reads as it did. -/
def treeGetsSpec : ChangeSpec := { name := "treeGets", fn := fun _ => fun
  | [d1, d2] => { results := [.lit (.bool true)], args := [d1, d2] }
  | _ => none }
def treeGetsRow : OpenClaim := { program := "ytmobhanopjakiaa", sum := "0b5675d74bc2360a73af42d1bec7081da3c448716423e2dadae47129e586f026", func := "lampbearer/lampbearerlaw.TreeGets", spec := "treeGets", unfollowed := true, recurses := true, loops := true, apart := false }
def TreeGetsSaid : Prop := treeGetsRow.holds Try.pinned (OpenSpec.ofChange treeGetsSpec)

/-- ITS FALSE NEIGHBOUR: 'it returns false'. Refute it at one input. -/
def treeGetsWrong : ChangeSpec := { name := "treeGets", fn := fun _ => fun
  | [d1, d2] => { results := [.lit (.bool false)], args := [d1, d2] }
  | _ => none }
def TreeGetsWrongFalsely : Prop := treeGetsRow.holds Try.pinned (OpenSpec.ofChange treeGetsWrong)

/-- 'lampbearerlaw.TreePairs': WHATEVER THE INPUT: true; the input reads as it did. -/
def treePairsSpec : ChangeSpec := { name := "treePairs", fn := fun _ => fun
  | [d] => { results := [.lit (.bool true)], args := [d] }
  | _ => none }
def treePairsRow : OpenClaim := { program := "ytmobhanopjakiaa", sum := "0b5675d74bc2360a73af42d1bec7081da3c448716423e2dadae47129e586f026", func := "lampbearer/lampbearerlaw.TreePairs", spec := "treePairs", unfollowed := true, recurses := true, loops := true, apart := false }
def TreePairsSaid : Prop := treePairsRow.holds Try.pinned (OpenSpec.ofChange treePairsSpec)

/-- ITS FALSE NEIGHBOUR: 'it returns false'. Refute it at one input. -/
def treePairsWrong : ChangeSpec := { name := "treePairs", fn := fun _ => fun
  | [d] => { results := [.lit (.bool false)], args := [d] }
  | _ => none }
def TreePairsWrongFalsely : Prop := treePairsRow.holds Try.pinned (OpenSpec.ofChange treePairsWrong)

/-- 'lampbearerlaw.PackDecodes': WHATEVER THE INPUT: true; the input reads as it did. -/
def packDecodesSpec : ChangeSpec := { name := "packDecodes", fn := fun _ => fun
  | [d] => { results := [.lit (.bool true)], args := [d] }
  | _ => none }
def packDecodesRow : OpenClaim := { program := "ytmobhanopjakiaa", sum := "0b5675d74bc2360a73af42d1bec7081da3c448716423e2dadae47129e586f026", func := "lampbearer/lampbearerlaw.PackDecodes", spec := "packDecodes", unfollowed := true, recurses := true, apart := false }
def PackDecodesSaid : Prop := packDecodesRow.holds Try.pinned (OpenSpec.ofChange packDecodesSpec)

/-- ITS FALSE NEIGHBOUR: 'it returns false'. Refute it at one input. -/
def packDecodesWrong : ChangeSpec := { name := "packDecodes", fn := fun _ => fun
  | [d] => { results := [.lit (.bool false)], args := [d] }
  | _ => none }
def PackDecodesWrongFalsely : Prop := packDecodesRow.holds Try.pinned (OpenSpec.ofChange packDecodesWrong)

/-- 'lampbearerlaw.SeatsSets': WHATEVER THE INPUT: true; the input reads as it did. -/
def seatsSetsSpec : ChangeSpec := { name := "seatsSets", fn := fun _ => fun
  | [d1, d2, d3] => { results := [.lit (.bool true)], args := [d1, d2, d3] }
  | _ => none }
def seatsSetsRow : OpenClaim := { program := "ytmobhanopjakiaa", sum := "0b5675d74bc2360a73af42d1bec7081da3c448716423e2dadae47129e586f026", func := "lampbearer/lampbearerlaw.SeatsSets", spec := "seatsSets", recurses := true, apart := false }
def SeatsSetsSaid : Prop := seatsSetsRow.holds Try.pinned (OpenSpec.ofChange seatsSetsSpec)

/-- ITS FALSE NEIGHBOUR: 'it returns false'. Refute it at one input. -/
def seatsSetsWrong : ChangeSpec := { name := "seatsSets", fn := fun _ => fun
  | [d1, d2, d3] => { results := [.lit (.bool false)], args := [d1, d2, d3] }
  | _ => none }
def SeatsSetsWrongFalsely : Prop := seatsSetsRow.holds Try.pinned (OpenSpec.ofChange seatsSetsWrong)

/-- 'lampbearerlaw.VmAddresses': WHATEVER THE INPUT: true; the input reads as it did. -/
def vmAddressesSpec : ChangeSpec := { name := "vmAddresses", fn := fun _ => fun
  | [d1, d2, d3] => { results := [.lit (.bool true)], args := [d1, d2, d3] }
  | _ => none }
def vmAddressesRow : OpenClaim := { program := "ytmobhanopjakiaa", sum := "0b5675d74bc2360a73af42d1bec7081da3c448716423e2dadae47129e586f026", func := "lampbearer/lampbearerlaw.VmAddresses", spec := "vmAddresses", recurses := true, apart := false }
def VmAddressesSaid : Prop := vmAddressesRow.holds Try.pinned (OpenSpec.ofChange vmAddressesSpec)

/-- ITS FALSE NEIGHBOUR: 'it returns false'. Refute it at one input. -/
def vmAddressesWrong : ChangeSpec := { name := "vmAddresses", fn := fun _ => fun
  | [d1, d2, d3] => { results := [.lit (.bool false)], args := [d1, d2, d3] }
  | _ => none }
def VmAddressesWrongFalsely : Prop := vmAddressesRow.holds Try.pinned (OpenSpec.ofChange vmAddressesWrong)

/-- 'lampbearerlaw.MemoryPlays': WHATEVER THE INPUT: true; the input reads as it did. -/
def memoryPlaysSpec : ChangeSpec := { name := "memoryPlays", fn := fun _ => fun
  | [d1, d2] => { results := [.lit (.bool true)], args := [d1, d2] }
  | _ => none }
def memoryPlaysRow : OpenClaim := { program := "ytmobhanopjakiaa", sum := "0b5675d74bc2360a73af42d1bec7081da3c448716423e2dadae47129e586f026", func := "lampbearer/lampbearerlaw.MemoryPlays", spec := "memoryPlays", inPlace := ["math/bits.Sub64"], apart := false }
def MemoryPlaysSaid : Prop := memoryPlaysRow.holds Try.pinned (OpenSpec.ofChange memoryPlaysSpec)

/-- ITS FALSE NEIGHBOUR: 'it returns false'. Refute it at one input. -/
def memoryPlaysWrong : ChangeSpec := { name := "memoryPlays", fn := fun _ => fun
  | [d1, d2] => { results := [.lit (.bool false)], args := [d1, d2] }
  | _ => none }
def MemoryPlaysWrongFalsely : Prop := memoryPlaysRow.holds Try.pinned (OpenSpec.ofChange memoryPlaysWrong)

/- THE SECOND FORM. 'bulk': how many values and letters a reading holds, each counted each time it is reached (what is shared counts as often as it is met; a slice's spare places count too). A statement '..UptoSaid' is the law's where the arguments, and the package variables that the reading takes, are together of bulk at most 1048576: NARROWER than '..Said'. Prove '..Said' where nothing that the law and all that it calls make is longer than what came in: it says more and counts as full. Else prove '..UptoSaid'. A law counts once. -/
mutual
def uptoBulk {H : Type} : DataW H → Nat
  | .lit (.string bytes) => bytes.length + 1
  | .lit _ => 1
  | .nil => 1
  | .ptr d => uptoBulk d + 1
  | .slice elems spare => uptoBulkAll elems + uptoBulkAll spare + 1
  | .agg parts => uptoBulkAll parts + 1
  | .iface _ d => uptoBulk d + 1
  | .map entries => uptoBulkEntries entries + 1
  | .held _ => 1
def uptoBulkAll {H : Type} : List (DataW H) → Nat
  | [] => 0
  | d :: r => uptoBulk d + uptoBulkAll r
def uptoBulkEntries {H : Type} : List (Lit × DataW H) → Nat
  | [] => 0
  | x :: r => uptoBulkEntry x + uptoBulkEntries r
def uptoBulkEntry {H : Type} : Lit × DataW H → Nat
  | (.string bytes, d) => bytes.length + uptoBulk d + 1
  | (_, d) => uptoBulk d + 1
 end
def uptoSmall : (H : Type) → List (DataW H) → Bool := fun _ ds => decide (uptoBulkAll ds ≤ 1048576)
def OpenSpec.upto (s : _root_.Go.ChangeSpec) : _root_.Go.OpenSpec := { _root_.Go.OpenSpec.ofChange s with cond := some uptoSmall }

/-- 'lampbearerlaw.TwosQuotients', WHERE WHAT IT READS IS OF BULK AT MOST 1048576: true; the input reads as it did. -/
def twosQuotientsUptoRow : OpenClaim := { program := "ytmobhanopjakiaa", sum := "0b5675d74bc2360a73af42d1bec7081da3c448716423e2dadae47129e586f026", func := "lampbearer/lampbearerlaw.TwosQuotients", spec := "twosQuotients", inPlace := ["math/bits.Sub64"], recurses := true, apart := false, narrowed := true }
def TwosQuotientsUptoSaid : Prop := twosQuotientsUptoRow.holds Try.pinned (OpenSpec.upto twosQuotientsSpec)

/-- 'lampbearerlaw.WordRests', WHERE WHAT IT READS IS OF BULK AT MOST 1048576: true; the input reads as it did. -/
def wordRestsUptoRow : OpenClaim := { program := "ytmobhanopjakiaa", sum := "0b5675d74bc2360a73af42d1bec7081da3c448716423e2dadae47129e586f026", func := "lampbearer/lampbearerlaw.WordRests", spec := "wordRests", inPlace := ["math/bits.Add64", "math/bits.Sub64"], recurses := true, apart := false, narrowed := true }
def WordRestsUptoSaid : Prop := wordRestsUptoRow.holds Try.pinned (OpenSpec.upto wordRestsSpec)

/-- 'lampbearerlaw.TwosBytes', WHERE WHAT IT READS IS OF BULK AT MOST 1048576: true; the input reads as it did. -/
def twosBytesUptoRow : OpenClaim := { program := "ytmobhanopjakiaa", sum := "0b5675d74bc2360a73af42d1bec7081da3c448716423e2dadae47129e586f026", func := "lampbearer/lampbearerlaw.TwosBytes", spec := "twosBytes", inPlace := ["math/bits.Sub64"], unfollowed := true, recurses := true, apart := false, narrowed := true }
def TwosBytesUptoSaid : Prop := twosBytesUptoRow.holds Try.pinned (OpenSpec.upto twosBytesSpec)

/-- 'lampbearerlaw.HexNumbers', WHERE WHAT IT READS IS OF BULK AT MOST 1048576: true; the input reads as it did. -/
def hexNumbersUptoRow : OpenClaim := { program := "ytmobhanopjakiaa", sum := "0b5675d74bc2360a73af42d1bec7081da3c448716423e2dadae47129e586f026", func := "lampbearer/lampbearerlaw.HexNumbers", spec := "hexNumbers", inPlace := ["math/bits.Add64"], recurses := true, apart := false, narrowed := true }
def HexNumbersUptoSaid : Prop := hexNumbersUptoRow.holds Try.pinned (OpenSpec.upto hexNumbersSpec)

/-- 'lampbearerlaw.SpongeEach', WHERE WHAT IT READS IS OF BULK AT MOST 1048576: true; the input reads as it did. -/
def spongeEachUptoRow : OpenClaim := { program := "ytmobhanopjakiaa", sum := "0b5675d74bc2360a73af42d1bec7081da3c448716423e2dadae47129e586f026", func := "lampbearer/lampbearerlaw.SpongeEach", spec := "spongeEach", unfollowed := true, recurses := true, apart := false, narrowed := true }
def SpongeEachUptoSaid : Prop := spongeEachUptoRow.holds Try.pinned (OpenSpec.upto spongeEachSpec)

/-- 'lampbearerlaw.BloomFilters', WHERE WHAT IT READS IS OF BULK AT MOST 1048576: true; the input reads as it did. -/
def bloomFiltersUptoRow : OpenClaim := { program := "ytmobhanopjakiaa", sum := "0b5675d74bc2360a73af42d1bec7081da3c448716423e2dadae47129e586f026", func := "lampbearer/lampbearerlaw.BloomFilters", spec := "bloomFilters", apart := false, narrowed := true }
def BloomFiltersUptoSaid : Prop := bloomFiltersUptoRow.holds Try.pinned (OpenSpec.upto bloomFiltersSpec)

/-- 'lampbearerlaw.TreeGets', WHERE WHAT IT READS IS OF BULK AT MOST 1048576: true; the input reads as it did. -/
def treeGetsUptoRow : OpenClaim := { program := "ytmobhanopjakiaa", sum := "0b5675d74bc2360a73af42d1bec7081da3c448716423e2dadae47129e586f026", func := "lampbearer/lampbearerlaw.TreeGets", spec := "treeGets", unfollowed := true, recurses := true, loops := true, apart := false, narrowed := true }
def TreeGetsUptoSaid : Prop := treeGetsUptoRow.holds Try.pinned (OpenSpec.upto treeGetsSpec)

/-- 'lampbearerlaw.TreePairs', WHERE WHAT IT READS IS OF BULK AT MOST 1048576: true; the input reads as it did. -/
def treePairsUptoRow : OpenClaim := { program := "ytmobhanopjakiaa", sum := "0b5675d74bc2360a73af42d1bec7081da3c448716423e2dadae47129e586f026", func := "lampbearer/lampbearerlaw.TreePairs", spec := "treePairs", unfollowed := true, recurses := true, loops := true, apart := false, narrowed := true }
def TreePairsUptoSaid : Prop := treePairsUptoRow.holds Try.pinned (OpenSpec.upto treePairsSpec)

/-- 'lampbearerlaw.PackDecodes', WHERE WHAT IT READS IS OF BULK AT MOST 1048576: true; the input reads as it did. -/
def packDecodesUptoRow : OpenClaim := { program := "ytmobhanopjakiaa", sum := "0b5675d74bc2360a73af42d1bec7081da3c448716423e2dadae47129e586f026", func := "lampbearer/lampbearerlaw.PackDecodes", spec := "packDecodes", unfollowed := true, recurses := true, apart := false, narrowed := true }
def PackDecodesUptoSaid : Prop := packDecodesUptoRow.holds Try.pinned (OpenSpec.upto packDecodesSpec)

/-- 'lampbearerlaw.SeatsSets', WHERE WHAT IT READS IS OF BULK AT MOST 1048576: true; the input reads as it did. -/
def seatsSetsUptoRow : OpenClaim := { program := "ytmobhanopjakiaa", sum := "0b5675d74bc2360a73af42d1bec7081da3c448716423e2dadae47129e586f026", func := "lampbearer/lampbearerlaw.SeatsSets", spec := "seatsSets", recurses := true, apart := false, narrowed := true }
def SeatsSetsUptoSaid : Prop := seatsSetsUptoRow.holds Try.pinned (OpenSpec.upto seatsSetsSpec)

/-- 'lampbearerlaw.VmAddresses', WHERE WHAT IT READS IS OF BULK AT MOST 1048576: true; the input reads as it did. -/
def vmAddressesUptoRow : OpenClaim := { program := "ytmobhanopjakiaa", sum := "0b5675d74bc2360a73af42d1bec7081da3c448716423e2dadae47129e586f026", func := "lampbearer/lampbearerlaw.VmAddresses", spec := "vmAddresses", recurses := true, apart := false, narrowed := true }
def VmAddressesUptoSaid : Prop := vmAddressesUptoRow.holds Try.pinned (OpenSpec.upto vmAddressesSpec)

/-- 'lampbearerlaw.MemoryPlays', WHERE WHAT IT READS IS OF BULK AT MOST 1048576: true; the input reads as it did. -/
def memoryPlaysUptoRow : OpenClaim := { program := "ytmobhanopjakiaa", sum := "0b5675d74bc2360a73af42d1bec7081da3c448716423e2dadae47129e586f026", func := "lampbearer/lampbearerlaw.MemoryPlays", spec := "memoryPlays", inPlace := ["math/bits.Sub64"], apart := false, narrowed := true }
def MemoryPlaysUptoSaid : Prop := memoryPlaysUptoRow.holds Try.pinned (OpenSpec.upto memoryPlaysSpec)

end Rows
end Go.Proofs.Ytmobhanopjakiaa
