/-
  NARROWER THAN 'FOR EVERY INPUT', by the rows' own cells (each row's printed sentence says how): PackEncodes: loops · TreeRights: loops.
  DERIVED. THE GIVEN ROWS OF THIS SEAT. 11 by the template 'for every input the law returns true; each argument reads behind the call as it read before'; 0 by the template 'total and deterministic' (their statements: YtbilninjiklpaaaTotals.lean).
  GIVEN WITH THE SEED: the statements are not yours to turn. If you find one false, say at which input.
  Laid BY PROGRAM, IN A SANDBOX (cutbox-rows.mjs): the forced cells as the released guide's own fill.sh prints them over the translation 4a000a020bce8957… (all of the seat's roots in one cut). By AI agents, Wed Nov 11 2026. No macro, syntax, notation, axiom, sorry.
-/
import Derived.Test.YtbilninjiklpaaaChecked
import GoSem.Claim
import GoSem.ClaimJoined
import GoSem.ClaimMapViews
import Derived.JoinedTies
import Derived.KernelRfl
namespace Go.Proofs.Ytbilninjiklpaaa
/- THE CELL 'sum', in the pinned program and in every row, IS THE sha256 OF THE DUMP (.gsa) THAT YtbilninjiklpaaaProg.lean LOADS. Nothing in Lean hashes anything: it is a label: what it is worth is what the hold of that sum in a sandbox is worth. -/
noncomputable def Try.pinned : Pinned := { name := "ytbilninjiklpaaa", sum := "4a000a020bce89575122b2edf1c8ff68f02c975b1607ef434168ddeefb4b9292", checked := Try.checked }
namespace Rows
def none {H : Type} : Left H := { results := [], args := [] }

/-- 'lampbearerlaw.TwosBits': WHATEVER THE INPUT: true; the input reads as it did. -/
def twosBitsSpec : ChangeSpec := { name := "twosBits", fn := fun _ => fun
  | [d1, d2] => { results := [.lit (.bool true)], args := [d1, d2] }
  | _ => none }
def twosBitsRow : OpenClaim := { program := "ytbilninjiklpaaa", sum := "4a000a020bce89575122b2edf1c8ff68f02c975b1607ef434168ddeefb4b9292", func := "lampbearer/lampbearerlaw.TwosBits", spec := "twosBits", inPlace := ["math/bits.Sub64"], unfollowed := true, recurses := true, apart := false }
def TwosBitsSaid : Prop := twosBitsRow.holds Try.pinned (OpenSpec.ofChange twosBitsSpec)

/-- ITS FALSE NEIGHBOUR: 'it returns false'. Refute it at one input. -/
def twosBitsWrong : ChangeSpec := { name := "twosBits", fn := fun _ => fun
  | [d1, d2] => { results := [.lit (.bool false)], args := [d1, d2] }
  | _ => none }
def TwosBitsWrongFalsely : Prop := twosBitsRow.holds Try.pinned (OpenSpec.ofChange twosBitsWrong)

/-- 'lampbearerlaw.ChainTurns': WHATEVER THE INPUT: true; the input reads as it did. -/
def chainTurnsSpec : ChangeSpec := { name := "chainTurns", fn := fun _ => fun
  | [d1, d2] => { results := [.lit (.bool true)], args := [d1, d2] }
  | _ => none }
def chainTurnsRow : OpenClaim := { program := "ytbilninjiklpaaa", sum := "4a000a020bce89575122b2edf1c8ff68f02c975b1607ef434168ddeefb4b9292", func := "lampbearer/lampbearerlaw.ChainTurns", spec := "chainTurns", apart := false }
def ChainTurnsSaid : Prop := chainTurnsRow.holds Try.pinned (OpenSpec.ofChange chainTurnsSpec)

/-- ITS FALSE NEIGHBOUR: 'it returns false'. Refute it at one input. -/
def chainTurnsWrong : ChangeSpec := { name := "chainTurns", fn := fun _ => fun
  | [d1, d2] => { results := [.lit (.bool false)], args := [d1, d2] }
  | _ => none }
def ChainTurnsWrongFalsely : Prop := chainTurnsRow.holds Try.pinned (OpenSpec.ofChange chainTurnsWrong)

/-- 'lampbearerlaw.PackEncodes': WHATEVER THE INPUT: true; the input reads as it did. -/
def packEncodesSpec : ChangeSpec := { name := "packEncodes", fn := fun _ => fun
  | [d] => { results := [.lit (.bool true)], args := [d] }
  | _ => none }
def packEncodesRow : OpenClaim := { program := "ytbilninjiklpaaa", sum := "4a000a020bce89575122b2edf1c8ff68f02c975b1607ef434168ddeefb4b9292", func := "lampbearer/lampbearerlaw.PackEncodes", spec := "packEncodes", recurses := true, loops := true, apart := false }
def PackEncodesSaid : Prop := packEncodesRow.holds Try.pinned (OpenSpec.ofChange packEncodesSpec)

/-- ITS FALSE NEIGHBOUR: 'it returns false'. Refute it at one input. -/
def packEncodesWrong : ChangeSpec := { name := "packEncodes", fn := fun _ => fun
  | [d] => { results := [.lit (.bool false)], args := [d] }
  | _ => none }
def PackEncodesWrongFalsely : Prop := packEncodesRow.holds Try.pinned (OpenSpec.ofChange packEncodesWrong)

/-- 'lampbearerlaw.WordQuotients': WHATEVER THE INPUT: true; the input reads as it did. -/
def wordQuotientsSpec : ChangeSpec := { name := "wordQuotients", fn := fun _ => fun
  | [d1, d2] => { results := [.lit (.bool true)], args := [d1, d2] }
  | _ => none }
def wordQuotientsRow : OpenClaim := { program := "ytbilninjiklpaaa", sum := "4a000a020bce89575122b2edf1c8ff68f02c975b1607ef434168ddeefb4b9292", func := "lampbearer/lampbearerlaw.WordQuotients", spec := "wordQuotients", inPlace := ["math/bits.Sub64"], recurses := true, apart := false }
def WordQuotientsSaid : Prop := wordQuotientsRow.holds Try.pinned (OpenSpec.ofChange wordQuotientsSpec)

/-- ITS FALSE NEIGHBOUR: 'it returns false'. Refute it at one input. -/
def wordQuotientsWrong : ChangeSpec := { name := "wordQuotients", fn := fun _ => fun
  | [d1, d2] => { results := [.lit (.bool false)], args := [d1, d2] }
  | _ => none }
def WordQuotientsWrongFalsely : Prop := wordQuotientsRow.holds Try.pinned (OpenSpec.ofChange wordQuotientsWrong)

/-- 'lampbearerlaw.NibTags': WHATEVER THE INPUT: true; the input reads as it did. -/
def nibTagsSpec : ChangeSpec := { name := "nibTags", fn := fun _ => fun
  | [d1, d2, d3] => { results := [.lit (.bool true)], args := [d1, d2, d3] }
  | _ => none }
def nibTagsRow : OpenClaim := { program := "ytbilninjiklpaaa", sum := "4a000a020bce89575122b2edf1c8ff68f02c975b1607ef434168ddeefb4b9292", func := "lampbearer/lampbearerlaw.NibTags", spec := "nibTags", apart := false }
def NibTagsSaid : Prop := nibTagsRow.holds Try.pinned (OpenSpec.ofChange nibTagsSpec)

/-- ITS FALSE NEIGHBOUR: 'it returns false'. Refute it at one input. -/
def nibTagsWrong : ChangeSpec := { name := "nibTags", fn := fun _ => fun
  | [d1, d2, d3] => { results := [.lit (.bool false)], args := [d1, d2, d3] }
  | _ => none }
def NibTagsWrongFalsely : Prop := nibTagsRow.holds Try.pinned (OpenSpec.ofChange nibTagsWrong)

/-- 'lampbearerlaw.TreeRights': WHATEVER THE INPUT: true; the input reads as it did. -/
def treeRightsSpec : ChangeSpec := { name := "treeRights", fn := fun _ => fun
  | [d] => { results := [.lit (.bool true)], args := [d] }
  | _ => none }
def treeRightsRow : OpenClaim := { program := "ytbilninjiklpaaa", sum := "4a000a020bce89575122b2edf1c8ff68f02c975b1607ef434168ddeefb4b9292", func := "lampbearer/lampbearerlaw.TreeRights", spec := "treeRights", unfollowed := true, recurses := true, loops := true, apart := false }
def TreeRightsSaid : Prop := treeRightsRow.holds Try.pinned (OpenSpec.ofChange treeRightsSpec)

/-- ITS FALSE NEIGHBOUR: 'it returns false'. Refute it at one input. -/
def treeRightsWrong : ChangeSpec := { name := "treeRights", fn := fun _ => fun
  | [d] => { results := [.lit (.bool false)], args := [d] }
  | _ => none }
def TreeRightsWrongFalsely : Prop := treeRightsRow.holds Try.pinned (OpenSpec.ofChange treeRightsWrong)

/-- 'lampbearerlaw.WordPowers': WHATEVER THE INPUT: true; the input reads as it did. -/
def wordPowersSpec : ChangeSpec := { name := "wordPowers", fn := fun _ => fun
  | [d1, d2] => { results := [.lit (.bool true)], args := [d1, d2] }
  | _ => none }
def wordPowersRow : OpenClaim := { program := "ytbilninjiklpaaa", sum := "4a000a020bce89575122b2edf1c8ff68f02c975b1607ef434168ddeefb4b9292", func := "lampbearer/lampbearerlaw.WordPowers", spec := "wordPowers", inPlace := ["math/bits.Add64"], apart := false }
def WordPowersSaid : Prop := wordPowersRow.holds Try.pinned (OpenSpec.ofChange wordPowersSpec)

/-- ITS FALSE NEIGHBOUR: 'it returns false'. Refute it at one input. -/
def wordPowersWrong : ChangeSpec := { name := "wordPowers", fn := fun _ => fun
  | [d1, d2] => { results := [.lit (.bool false)], args := [d1, d2] }
  | _ => none }
def WordPowersWrongFalsely : Prop := wordPowersRow.holds Try.pinned (OpenSpec.ofChange wordPowersWrong)

/-- 'lampbearerlaw.SpongeSums': WHATEVER THE INPUT: true; the input reads as it did. -/
def spongeSumsSpec : ChangeSpec := { name := "spongeSums", fn := fun _ => fun
  | [d] => { results := [.lit (.bool true)], args := [d] }
  | _ => none }
def spongeSumsRow : OpenClaim := { program := "ytbilninjiklpaaa", sum := "4a000a020bce89575122b2edf1c8ff68f02c975b1607ef434168ddeefb4b9292", func := "lampbearer/lampbearerlaw.SpongeSums", spec := "spongeSums", apart := false }
def SpongeSumsSaid : Prop := spongeSumsRow.holds Try.pinned (OpenSpec.ofChange spongeSumsSpec)

/-- ITS FALSE NEIGHBOUR: 'it returns false'. Refute it at one input. -/
def spongeSumsWrong : ChangeSpec := { name := "spongeSums", fn := fun _ => fun
  | [d] => { results := [.lit (.bool false)], args := [d] }
  | _ => none }
def SpongeSumsWrongFalsely : Prop := spongeSumsRow.holds Try.pinned (OpenSpec.ofChange spongeSumsWrong)

/-- 'lampbearerlaw.PackSplits': WHATEVER THE INPUT: true; the input reads as it did. -/
def packSplitsSpec : ChangeSpec := { name := "packSplits", fn := fun _ => fun
  | [d] => { results := [.lit (.bool true)], args := [d] }
  | _ => none }
def packSplitsRow : OpenClaim := { program := "ytbilninjiklpaaa", sum := "4a000a020bce89575122b2edf1c8ff68f02c975b1607ef434168ddeefb4b9292", func := "lampbearer/lampbearerlaw.PackSplits", spec := "packSplits", unfollowed := true, recurses := true, apart := false }
def PackSplitsSaid : Prop := packSplitsRow.holds Try.pinned (OpenSpec.ofChange packSplitsSpec)

/-- ITS FALSE NEIGHBOUR: 'it returns false'. Refute it at one input. -/
def packSplitsWrong : ChangeSpec := { name := "packSplits", fn := fun _ => fun
  | [d] => { results := [.lit (.bool false)], args := [d] }
  | _ => none }
def PackSplitsWrongFalsely : Prop := packSplitsRow.holds Try.pinned (OpenSpec.ofChange packSplitsWrong)

/-- 'lampbearerlaw.TwosShifts': WHATEVER THE INPUT: true; the input reads as it did. -/
def twosShiftsSpec : ChangeSpec := { name := "twosShifts", fn := fun _ => fun
  | [d1, d2] => { results := [.lit (.bool true)], args := [d1, d2] }
  | _ => none }
def twosShiftsRow : OpenClaim := { program := "ytbilninjiklpaaa", sum := "4a000a020bce89575122b2edf1c8ff68f02c975b1607ef434168ddeefb4b9292", func := "lampbearer/lampbearerlaw.TwosShifts", spec := "twosShifts", inPlace := ["math/bits.Sub64"], unfollowed := true, recurses := true, apart := false }
def TwosShiftsSaid : Prop := twosShiftsRow.holds Try.pinned (OpenSpec.ofChange twosShiftsSpec)

/-- ITS FALSE NEIGHBOUR: 'it returns false'. Refute it at one input. -/
def twosShiftsWrong : ChangeSpec := { name := "twosShifts", fn := fun _ => fun
  | [d1, d2] => { results := [.lit (.bool false)], args := [d1, d2] }
  | _ => none }
def TwosShiftsWrongFalsely : Prop := twosShiftsRow.holds Try.pinned (OpenSpec.ofChange twosShiftsWrong)

/-- 'lampbearerlaw.WordSums': WHATEVER THE INPUT: true; the input reads as it did. -/
def wordSumsSpec : ChangeSpec := { name := "wordSums", fn := fun _ => fun
  | [d1, d2] => { results := [.lit (.bool true)], args := [d1, d2] }
  | _ => none }
def wordSumsRow : OpenClaim := { program := "ytbilninjiklpaaa", sum := "4a000a020bce89575122b2edf1c8ff68f02c975b1607ef434168ddeefb4b9292", func := "lampbearer/lampbearerlaw.WordSums", spec := "wordSums", inPlace := ["math/bits.Add64", "math/bits.Sub64"], apart := false }
def WordSumsSaid : Prop := wordSumsRow.holds Try.pinned (OpenSpec.ofChange wordSumsSpec)

/-- ITS FALSE NEIGHBOUR: 'it returns false'. Refute it at one input. -/
def wordSumsWrong : ChangeSpec := { name := "wordSums", fn := fun _ => fun
  | [d1, d2] => { results := [.lit (.bool false)], args := [d1, d2] }
  | _ => none }
def WordSumsWrongFalsely : Prop := wordSumsRow.holds Try.pinned (OpenSpec.ofChange wordSumsWrong)

/- THE SECOND FORM. 'bulk': how many values and letters a reading holds, each counted each time it is reached (what is shared counts as often as it is met; a slice's spare places count too). A statement '..UptoSaid' is the law's where the arguments, and the package variables that the reading takes, are together of bulk at most 1048576: NARROWER than '..Said'. Prove '..Said' where nothing that the law and all that it calls make is longer than what came in: it says more and counts as full. Else prove '..UptoSaid'. A law counts once. -/
mutual
def uptoBulk {H : Type} : DataW H → Nat
  | .lit (.string bytes) => bytes.length + 1
  | .lit _ => 1
  | .nil => 1
  | .ptr d => uptoBulk d + 1
  | .slice elems spare => uptoBulkAll elems + uptoBulkAll spare + 1
  | .agg parts => uptoBulkAll parts + 1
  | .iface _ d => uptoBulk d + 1
  | .map entries => uptoBulkEntries entries + 1
  | .held _ => 1
def uptoBulkAll {H : Type} : List (DataW H) → Nat
  | [] => 0
  | d :: r => uptoBulk d + uptoBulkAll r
def uptoBulkEntries {H : Type} : List (Lit × DataW H) → Nat
  | [] => 0
  | x :: r => uptoBulkEntry x + uptoBulkEntries r
def uptoBulkEntry {H : Type} : Lit × DataW H → Nat
  | (.string bytes, d) => bytes.length + uptoBulk d + 1
  | (_, d) => uptoBulk d + 1
 end
def uptoSmall : (H : Type) → List (DataW H) → Bool := fun _ ds => decide (uptoBulkAll ds ≤ 1048576)
def OpenSpec.upto (s : _root_.Go.ChangeSpec) : _root_.Go.OpenSpec := { _root_.Go.OpenSpec.ofChange s with cond := some uptoSmall }

/-- 'lampbearerlaw.TwosBits', WHERE WHAT IT READS IS OF BULK AT MOST 1048576: true; the input reads as it did. -/
def twosBitsUptoRow : OpenClaim := { program := "ytbilninjiklpaaa", sum := "4a000a020bce89575122b2edf1c8ff68f02c975b1607ef434168ddeefb4b9292", func := "lampbearer/lampbearerlaw.TwosBits", spec := "twosBits", inPlace := ["math/bits.Sub64"], unfollowed := true, recurses := true, apart := false, narrowed := true }
def TwosBitsUptoSaid : Prop := twosBitsUptoRow.holds Try.pinned (OpenSpec.upto twosBitsSpec)

/-- 'lampbearerlaw.ChainTurns', WHERE WHAT IT READS IS OF BULK AT MOST 1048576: true; the input reads as it did. -/
def chainTurnsUptoRow : OpenClaim := { program := "ytbilninjiklpaaa", sum := "4a000a020bce89575122b2edf1c8ff68f02c975b1607ef434168ddeefb4b9292", func := "lampbearer/lampbearerlaw.ChainTurns", spec := "chainTurns", apart := false, narrowed := true }
def ChainTurnsUptoSaid : Prop := chainTurnsUptoRow.holds Try.pinned (OpenSpec.upto chainTurnsSpec)

/-- 'lampbearerlaw.PackEncodes', WHERE WHAT IT READS IS OF BULK AT MOST 1048576: true; the input reads as it did. -/
def packEncodesUptoRow : OpenClaim := { program := "ytbilninjiklpaaa", sum := "4a000a020bce89575122b2edf1c8ff68f02c975b1607ef434168ddeefb4b9292", func := "lampbearer/lampbearerlaw.PackEncodes", spec := "packEncodes", recurses := true, loops := true, apart := false, narrowed := true }
def PackEncodesUptoSaid : Prop := packEncodesUptoRow.holds Try.pinned (OpenSpec.upto packEncodesSpec)

/-- 'lampbearerlaw.WordQuotients', WHERE WHAT IT READS IS OF BULK AT MOST 1048576: true; the input reads as it did. -/
def wordQuotientsUptoRow : OpenClaim := { program := "ytbilninjiklpaaa", sum := "4a000a020bce89575122b2edf1c8ff68f02c975b1607ef434168ddeefb4b9292", func := "lampbearer/lampbearerlaw.WordQuotients", spec := "wordQuotients", inPlace := ["math/bits.Sub64"], recurses := true, apart := false, narrowed := true }
def WordQuotientsUptoSaid : Prop := wordQuotientsUptoRow.holds Try.pinned (OpenSpec.upto wordQuotientsSpec)

/-- 'lampbearerlaw.NibTags', WHERE WHAT IT READS IS OF BULK AT MOST 1048576: true; the input reads as it did. -/
def nibTagsUptoRow : OpenClaim := { program := "ytbilninjiklpaaa", sum := "4a000a020bce89575122b2edf1c8ff68f02c975b1607ef434168ddeefb4b9292", func := "lampbearer/lampbearerlaw.NibTags", spec := "nibTags", apart := false, narrowed := true }
def NibTagsUptoSaid : Prop := nibTagsUptoRow.holds Try.pinned (OpenSpec.upto nibTagsSpec)

/-- 'lampbearerlaw.TreeRights', WHERE WHAT IT READS IS OF BULK AT MOST 1048576: true; the input reads as it did. -/
def treeRightsUptoRow : OpenClaim := { program := "ytbilninjiklpaaa", sum := "4a000a020bce89575122b2edf1c8ff68f02c975b1607ef434168ddeefb4b9292", func := "lampbearer/lampbearerlaw.TreeRights", spec := "treeRights", unfollowed := true, recurses := true, loops := true, apart := false, narrowed := true }
def TreeRightsUptoSaid : Prop := treeRightsUptoRow.holds Try.pinned (OpenSpec.upto treeRightsSpec)

/-- 'lampbearerlaw.WordPowers', WHERE WHAT IT READS IS OF BULK AT MOST 1048576: true; the input reads as it did. -/
def wordPowersUptoRow : OpenClaim := { program := "ytbilninjiklpaaa", sum := "4a000a020bce89575122b2edf1c8ff68f02c975b1607ef434168ddeefb4b9292", func := "lampbearer/lampbearerlaw.WordPowers", spec := "wordPowers", inPlace := ["math/bits.Add64"], apart := false, narrowed := true }
def WordPowersUptoSaid : Prop := wordPowersUptoRow.holds Try.pinned (OpenSpec.upto wordPowersSpec)

/-- 'lampbearerlaw.SpongeSums', WHERE WHAT IT READS IS OF BULK AT MOST 1048576: true; the input reads as it did. -/
def spongeSumsUptoRow : OpenClaim := { program := "ytbilninjiklpaaa", sum := "4a000a020bce89575122b2edf1c8ff68f02c975b1607ef434168ddeefb4b9292", func := "lampbearer/lampbearerlaw.SpongeSums", spec := "spongeSums", apart := false, narrowed := true }
def SpongeSumsUptoSaid : Prop := spongeSumsUptoRow.holds Try.pinned (OpenSpec.upto spongeSumsSpec)

/-- 'lampbearerlaw.PackSplits', WHERE WHAT IT READS IS OF BULK AT MOST 1048576: true; the input reads as it did. -/
def packSplitsUptoRow : OpenClaim := { program := "ytbilninjiklpaaa", sum := "4a000a020bce89575122b2edf1c8ff68f02c975b1607ef434168ddeefb4b9292", func := "lampbearer/lampbearerlaw.PackSplits", spec := "packSplits", unfollowed := true, recurses := true, apart := false, narrowed := true }
def PackSplitsUptoSaid : Prop := packSplitsUptoRow.holds Try.pinned (OpenSpec.upto packSplitsSpec)

/-- 'lampbearerlaw.TwosShifts', WHERE WHAT IT READS IS OF BULK AT MOST 1048576: true; the input reads as it did. -/
def twosShiftsUptoRow : OpenClaim := { program := "ytbilninjiklpaaa", sum := "4a000a020bce89575122b2edf1c8ff68f02c975b1607ef434168ddeefb4b9292", func := "lampbearer/lampbearerlaw.TwosShifts", spec := "twosShifts", inPlace := ["math/bits.Sub64"], unfollowed := true, recurses := true, apart := false, narrowed := true }
def TwosShiftsUptoSaid : Prop := twosShiftsUptoRow.holds Try.pinned (OpenSpec.upto twosShiftsSpec)

/-- 'lampbearerlaw.WordSums', WHERE WHAT IT READS IS OF BULK AT MOST 1048576: true; the input reads as it did. -/
def wordSumsUptoRow : OpenClaim := { program := "ytbilninjiklpaaa", sum := "4a000a020bce89575122b2edf1c8ff68f02c975b1607ef434168ddeefb4b9292", func := "lampbearer/lampbearerlaw.WordSums", spec := "wordSums", inPlace := ["math/bits.Add64", "math/bits.Sub64"], apart := false, narrowed := true }
def WordSumsUptoSaid : Prop := wordSumsUptoRow.holds Try.pinned (OpenSpec.upto wordSumsSpec)

end Rows
end Go.Proofs.Ytbilninjiklpaaa
