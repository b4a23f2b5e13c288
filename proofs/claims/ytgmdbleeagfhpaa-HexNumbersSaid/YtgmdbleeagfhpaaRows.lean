/-
  NARROWER THAN 'FOR EVERY INPUT', by the rows' own cells (each row's printed sentence says how): PackEncodes: loops.
  DERIVED. THE GIVEN ROWS OF THIS SEAT. 12 by the template 'for every input the law returns true; each argument reads behind the call as it read before'; 0 by the template 'total and deterministic' (their statements: YtgmdbleeagfhpaaTotals.lean).
  GIVEN WITH THE SEED: the statements are not yours to turn. If you find one false, say at which input.
  Laid BY PROGRAM, IN A SANDBOX (cutbox-rows.mjs): the forced cells as the released guide's own fill.sh prints them over the translation 4ac5c9a438aae744… (all of the seat's roots in one cut). By AI agents, Wed Nov 11 2026. No macro, syntax, notation, axiom, sorry.
-/
import Derived.Test.YtgmdbleeagfhpaaChecked
import GoSem.Claim
import GoSem.ClaimJoined
import GoSem.ClaimMapViews
import Derived.JoinedTies
import Derived.KernelRfl
namespace Go.Proofs.Ytgmdbleeagfhpaa
/- THE CELL 'sum', in the pinned program and in every row, IS THE sha256 OF THE DUMP (.gsa) THAT YtgmdbleeagfhpaaProg.lean LOADS. Nothing in Lean hashes anything: it is a label: what it is worth is what the hold of that sum in a sandbox is worth. -/
noncomputable def Try.pinned : Pinned := { name := "ytgmdbleeagfhpaa", sum := "4ac5c9a438aae744333c82ea4fe73d0299301e4b0b106db5909cf476f45b3e64", checked := Try.checked }
namespace Rows
def none {H : Type} : Left H := { results := [], args := [] }

/-- 'lampbearerlaw.TwosQuotients': WHATEVER THE INPUT: true; the input reads as it did. -/
def twosQuotientsSpec : ChangeSpec := { name := "twosQuotients", fn := fun _ => fun
  | [d1, d2] => { results := [.lit (.bool true)], args := [d1, d2] }
  | _ => none }
def twosQuotientsRow : OpenClaim := { program := "ytgmdbleeagfhpaa", sum := "4ac5c9a438aae744333c82ea4fe73d0299301e4b0b106db5909cf476f45b3e64", func := "lampbearer/lampbearerlaw.TwosQuotients", spec := "twosQuotients", inPlace := ["math/bits.Sub64"], recurses := true, apart := false }
def TwosQuotientsSaid : Prop := twosQuotientsRow.holds Try.pinned (OpenSpec.ofChange twosQuotientsSpec)

/-- ITS FALSE NEIGHBOUR: 'it returns false'. Refute it at one input. -/
def twosQuotientsWrong : ChangeSpec := { name := "twosQuotients", fn := fun _ => fun
  | [d1, d2] => { results := [.lit (.bool false)], args := [d1, d2] }
  | _ => none }
def TwosQuotientsWrongFalsely : Prop := twosQuotientsRow.holds Try.pinned (OpenSpec.ofChange twosQuotientsWrong)

/-- 'lampbearerlaw.WordRests': WHATEVER THE INPUT: true; the input reads as it did. -/
def wordRestsSpec : ChangeSpec := { name := "wordRests", fn := fun _ => fun
  | [d1, d2, d3] => { results := [.lit (.bool true)], args := [d1, d2, d3] }
  | _ => none }
def wordRestsRow : OpenClaim := { program := "ytgmdbleeagfhpaa", sum := "4ac5c9a438aae744333c82ea4fe73d0299301e4b0b106db5909cf476f45b3e64", func := "lampbearer/lampbearerlaw.WordRests", spec := "wordRests", inPlace := ["math/bits.Add64", "math/bits.Sub64"], recurses := true, apart := false }
def WordRestsSaid : Prop := wordRestsRow.holds Try.pinned (OpenSpec.ofChange wordRestsSpec)

/-- ITS FALSE NEIGHBOUR: 'it returns false'. Refute it at one input. -/
def wordRestsWrong : ChangeSpec := { name := "wordRests", fn := fun _ => fun
  | [d1, d2, d3] => { results := [.lit (.bool false)], args := [d1, d2, d3] }
  | _ => none }
def WordRestsWrongFalsely : Prop := wordRestsRow.holds Try.pinned (OpenSpec.ofChange wordRestsWrong)

/-- 'lampbearerlaw.TwosShifts': WHATEVER THE INPUT: true; the input reads as it did. -/
def twosShiftsSpec : ChangeSpec := { name := "twosShifts", fn := fun _ => fun
  | [d1, d2] => { results := [.lit (.bool true)], args := [d1, d2] }
  | _ => none }
def twosShiftsRow : OpenClaim := { program := "ytgmdbleeagfhpaa", sum := "4ac5c9a438aae744333c82ea4fe73d0299301e4b0b106db5909cf476f45b3e64", func := "lampbearer/lampbearerlaw.TwosShifts", spec := "twosShifts", inPlace := ["math/bits.Sub64"], unfollowed := true, recurses := true, apart := false }
def TwosShiftsSaid : Prop := twosShiftsRow.holds Try.pinned (OpenSpec.ofChange twosShiftsSpec)

/-- ITS FALSE NEIGHBOUR: 'it returns false'. Refute it at one input. -/
def twosShiftsWrong : ChangeSpec := { name := "twosShifts", fn := fun _ => fun
  | [d1, d2] => { results := [.lit (.bool false)], args := [d1, d2] }
  | _ => none }
def TwosShiftsWrongFalsely : Prop := twosShiftsRow.holds Try.pinned (OpenSpec.ofChange twosShiftsWrong)

/-- 'lampbearerlaw.TwosBytes': WHATEVER THE INPUT: true; the input reads as it did. -/
def twosBytesSpec : ChangeSpec := { name := "twosBytes", fn := fun _ => fun
  | [d1, d2] => { results := [.lit (.bool true)], args := [d1, d2] }
  | _ => none }
def twosBytesRow : OpenClaim := { program := "ytgmdbleeagfhpaa", sum := "4ac5c9a438aae744333c82ea4fe73d0299301e4b0b106db5909cf476f45b3e64", func := "lampbearer/lampbearerlaw.TwosBytes", spec := "twosBytes", inPlace := ["math/bits.Sub64"], unfollowed := true, recurses := true, apart := false }
def TwosBytesSaid : Prop := twosBytesRow.holds Try.pinned (OpenSpec.ofChange twosBytesSpec)

/-- ITS FALSE NEIGHBOUR: 'it returns false'. Refute it at one input. -/
def twosBytesWrong : ChangeSpec := { name := "twosBytes", fn := fun _ => fun
  | [d1, d2] => { results := [.lit (.bool false)], args := [d1, d2] }
  | _ => none }
def TwosBytesWrongFalsely : Prop := twosBytesRow.holds Try.pinned (OpenSpec.ofChange twosBytesWrong)

/-- 'lampbearerlaw.TwosBits': WHATEVER THE INPUT: true; the input reads as it did. -/
def twosBitsSpec : ChangeSpec := { name := "twosBits", fn := fun _ => fun
  | [d1, d2] => { results := [.lit (.bool true)], args := [d1, d2] }
  | _ => none }
def twosBitsRow : OpenClaim := { program := "ytgmdbleeagfhpaa", sum := "4ac5c9a438aae744333c82ea4fe73d0299301e4b0b106db5909cf476f45b3e64", func := "lampbearer/lampbearerlaw.TwosBits", spec := "twosBits", inPlace := ["math/bits.Sub64"], unfollowed := true, recurses := true, apart := false }
def TwosBitsSaid : Prop := twosBitsRow.holds Try.pinned (OpenSpec.ofChange twosBitsSpec)

/-- ITS FALSE NEIGHBOUR: 'it returns false'. Refute it at one input. -/
def twosBitsWrong : ChangeSpec := { name := "twosBits", fn := fun _ => fun
  | [d1, d2] => { results := [.lit (.bool false)], args := [d1, d2] }
  | _ => none }
def TwosBitsWrongFalsely : Prop := twosBitsRow.holds Try.pinned (OpenSpec.ofChange twosBitsWrong)

/-- 'lampbearerlaw.NibTags': WHATEVER THE INPUT: true; the input reads as it did. -/
def nibTagsSpec : ChangeSpec := { name := "nibTags", fn := fun _ => fun
  | [d1, d2, d3] => { results := [.lit (.bool true)], args := [d1, d2, d3] }
  | _ => none }
def nibTagsRow : OpenClaim := { program := "ytgmdbleeagfhpaa", sum := "4ac5c9a438aae744333c82ea4fe73d0299301e4b0b106db5909cf476f45b3e64", func := "lampbearer/lampbearerlaw.NibTags", spec := "nibTags", apart := false }
def NibTagsSaid : Prop := nibTagsRow.holds Try.pinned (OpenSpec.ofChange nibTagsSpec)

/-- ITS FALSE NEIGHBOUR: 'it returns false'. Refute it at one input. -/
def nibTagsWrong : ChangeSpec := { name := "nibTags", fn := fun _ => fun
  | [d1, d2, d3] => { results := [.lit (.bool false)], args := [d1, d2, d3] }
  | _ => none }
def NibTagsWrongFalsely : Prop := nibTagsRow.holds Try.pinned (OpenSpec.ofChange nibTagsWrong)

/-- 'lampbearerlaw.SpongeSums': WHATEVER THE INPUT: true; the input reads as it did. -/
def spongeSumsSpec : ChangeSpec := { name := "spongeSums", fn := fun _ => fun
  | [d] => { results := [.lit (.bool true)], args := [d] }
  | _ => none }
def spongeSumsRow : OpenClaim := { program := "ytgmdbleeagfhpaa", sum := "4ac5c9a438aae744333c82ea4fe73d0299301e4b0b106db5909cf476f45b3e64", func := "lampbearer/lampbearerlaw.SpongeSums", spec := "spongeSums", apart := false }
def SpongeSumsSaid : Prop := spongeSumsRow.holds Try.pinned (OpenSpec.ofChange spongeSumsSpec)

/-- ITS FALSE NEIGHBOUR: 'it returns false'. Refute it at one input. -/
def spongeSumsWrong : ChangeSpec := { name := "spongeSums", fn := fun _ => fun
  | [d] => { results := [.lit (.bool false)], args := [d] }
  | _ => none }
def SpongeSumsWrongFalsely : Prop := spongeSumsRow.holds Try.pinned (OpenSpec.ofChange spongeSumsWrong)

/-- 'lampbearerlaw.SpongeEach': WHATEVER THE INPUT: true; the input reads as it did. -/
def spongeEachSpec : ChangeSpec := { name := "spongeEach", fn := fun _ => fun
  | [d] => { results := [.lit (.bool true)], args := [d] }
  | _ => none }
def spongeEachRow : OpenClaim := { program := "ytgmdbleeagfhpaa", sum := "4ac5c9a438aae744333c82ea4fe73d0299301e4b0b106db5909cf476f45b3e64", func := "lampbearer/lampbearerlaw.SpongeEach", spec := "spongeEach", unfollowed := true, recurses := true, apart := false }
def SpongeEachSaid : Prop := spongeEachRow.holds Try.pinned (OpenSpec.ofChange spongeEachSpec)

/-- ITS FALSE NEIGHBOUR: 'it returns false'. Refute it at one input. -/
def spongeEachWrong : ChangeSpec := { name := "spongeEach", fn := fun _ => fun
  | [d] => { results := [.lit (.bool false)], args := [d] }
  | _ => none }
def SpongeEachWrongFalsely : Prop := spongeEachRow.holds Try.pinned (OpenSpec.ofChange spongeEachWrong)

/-- 'lampbearerlaw.HexNumbers': WHATEVER THE INPUT: true; the input reads as it did. -/
def hexNumbersSpec : ChangeSpec := { name := "hexNumbers", fn := fun _ => fun
  | [d1, d2] => { results := [.lit (.bool true)], args := [d1, d2] }
  | _ => none }
def hexNumbersRow : OpenClaim := { program := "ytgmdbleeagfhpaa", sum := "4ac5c9a438aae744333c82ea4fe73d0299301e4b0b106db5909cf476f45b3e64", func := "lampbearer/lampbearerlaw.HexNumbers", spec := "hexNumbers", inPlace := ["math/bits.Add64"], recurses := true, apart := false }
def HexNumbersSaid : Prop := hexNumbersRow.holds Try.pinned (OpenSpec.ofChange hexNumbersSpec)

/-- ITS FALSE NEIGHBOUR: 'it returns false'. Refute it at one input. -/
def hexNumbersWrong : ChangeSpec := { name := "hexNumbers", fn := fun _ => fun
  | [d1, d2] => { results := [.lit (.bool false)], args := [d1, d2] }
  | _ => none }
def HexNumbersWrongFalsely : Prop := hexNumbersRow.holds Try.pinned (OpenSpec.ofChange hexNumbersWrong)

/-- 'lampbearerlaw.ChainTurns': WHATEVER THE INPUT: true; the input reads as it did. -/
def chainTurnsSpec : ChangeSpec := { name := "chainTurns", fn := fun _ => fun
  | [d1, d2] => { results := [.lit (.bool true)], args := [d1, d2] }
  | _ => none }
def chainTurnsRow : OpenClaim := { program := "ytgmdbleeagfhpaa", sum := "4ac5c9a438aae744333c82ea4fe73d0299301e4b0b106db5909cf476f45b3e64", func := "lampbearer/lampbearerlaw.ChainTurns", spec := "chainTurns", apart := false }
def ChainTurnsSaid : Prop := chainTurnsRow.holds Try.pinned (OpenSpec.ofChange chainTurnsSpec)

/-- ITS FALSE NEIGHBOUR: 'it returns false'. Refute it at one input. -/
def chainTurnsWrong : ChangeSpec := { name := "chainTurns", fn := fun _ => fun
  | [d1, d2] => { results := [.lit (.bool false)], args := [d1, d2] }
  | _ => none }
def ChainTurnsWrongFalsely : Prop := chainTurnsRow.holds Try.pinned (OpenSpec.ofChange chainTurnsWrong)

/-- 'lampbearerlaw.MemoryPlays': WHATEVER THE INPUT: true; the input reads as it did. -/
def memoryPlaysSpec : ChangeSpec := { name := "memoryPlays", fn := fun _ => fun
  | [d1, d2] => { results := [.lit (.bool true)], args := [d1, d2] }
  | _ => none }
def memoryPlaysRow : OpenClaim := { program := "ytgmdbleeagfhpaa", sum := "4ac5c9a438aae744333c82ea4fe73d0299301e4b0b106db5909cf476f45b3e64", func := "lampbearer/lampbearerlaw.MemoryPlays", spec := "memoryPlays", inPlace := ["math/bits.Sub64"], apart := false }
def MemoryPlaysSaid : Prop := memoryPlaysRow.holds Try.pinned (OpenSpec.ofChange memoryPlaysSpec)

/-- ITS FALSE NEIGHBOUR: 'it returns false'. Refute it at one input. -/
def memoryPlaysWrong : ChangeSpec := { name := "memoryPlays", fn := fun _ => fun
  | [d1, d2] => { results := [.lit (.bool false)], args := [d1, d2] }
  | _ => none }
def MemoryPlaysWrongFalsely : Prop := memoryPlaysRow.holds Try.pinned (OpenSpec.ofChange memoryPlaysWrong)

/-- 'lampbearerlaw.PackEncodes': WHATEVER THE INPUT: true; the input reads as it did. -/
def packEncodesSpec : ChangeSpec := { name := "packEncodes", fn := fun _ => fun
  | [d] => { results := [.lit (.bool true)], args := [d] }
  | _ => none }
def packEncodesRow : OpenClaim := { program := "ytgmdbleeagfhpaa", sum := "4ac5c9a438aae744333c82ea4fe73d0299301e4b0b106db5909cf476f45b3e64", func := "lampbearer/lampbearerlaw.PackEncodes", spec := "packEncodes", recurses := true, loops := true, apart := false }
def PackEncodesSaid : Prop := packEncodesRow.holds Try.pinned (OpenSpec.ofChange packEncodesSpec)

/-- ITS FALSE NEIGHBOUR: 'it returns false'. Refute it at one input. -/
def packEncodesWrong : ChangeSpec := { name := "packEncodes", fn := fun _ => fun
  | [d] => { results := [.lit (.bool false)], args := [d] }
  | _ => none }
def PackEncodesWrongFalsely : Prop := packEncodesRow.holds Try.pinned (OpenSpec.ofChange packEncodesWrong)

/- THE SECOND FORM. 'bulk': how many values and letters a reading holds, each counted each time it is reached (what is shared counts as often as it is met; a slice's spare places count too). A statement '..UptoSaid' is the law's where the arguments, and the package variables that the reading takes, are together of bulk at most 1048576: NARROWER than '..Said'. Prove '..Said' where nothing that the law and all that it calls make is longer than what came in: it says more and counts as full. Else prove '..UptoSaid'. A law counts once. -/
mutual
def uptoBulk {H : Type} : DataW H → Nat
  | .lit (.string bytes) => bytes.length + 1
  | .lit _ => 1
  | .nil => 1
  | .ptr d => uptoBulk d + 1
  | .slice elems spare => uptoBulkAll elems + uptoBulkAll spare + 1
  | .agg parts => uptoBulkAll parts + 1
  | .iface _ d => uptoBulk d + 1
  | .map entries => uptoBulkEntries entries + 1
  | .held _ => 1
def uptoBulkAll {H : Type} : List (DataW H) → Nat
  | [] => 0
  | d :: r => uptoBulk d + uptoBulkAll r
def uptoBulkEntries {H : Type} : List (Lit × DataW H) → Nat
  | [] => 0
  | x :: r => uptoBulkEntry x + uptoBulkEntries r
def uptoBulkEntry {H : Type} : Lit × DataW H → Nat
  | (.string bytes, d) => bytes.length + uptoBulk d + 1
  | (_, d) => uptoBulk d + 1
 end
def uptoSmall : (H : Type) → List (DataW H) → Bool := fun _ ds => decide (uptoBulkAll ds ≤ 1048576)
def OpenSpec.upto (s : _root_.Go.ChangeSpec) : _root_.Go.OpenSpec := { _root_.Go.OpenSpec.ofChange s with cond := some uptoSmall }

/-- 'lampbearerlaw.TwosQuotients', WHERE WHAT IT READS IS OF BULK AT MOST 1048576: true; the input reads as it did. -/
def twosQuotientsUptoRow : OpenClaim := { program := "ytgmdbleeagfhpaa", sum := "4ac5c9a438aae744333c82ea4fe73d0299301e4b0b106db5909cf476f45b3e64", func := "lampbearer/lampbearerlaw.TwosQuotients", spec := "twosQuotients", inPlace := ["math/bits.Sub64"], recurses := true, apart := false, narrowed := true }
def TwosQuotientsUptoSaid : Prop := twosQuotientsUptoRow.holds Try.pinned (OpenSpec.upto twosQuotientsSpec)

/-- 'lampbearerlaw.WordRests', WHERE WHAT IT READS IS OF BULK AT MOST 1048576: true; the input reads as it did. -/
def wordRestsUptoRow : OpenClaim := { program := "ytgmdbleeagfhpaa", sum := "4ac5c9a438aae744333c82ea4fe73d0299301e4b0b106db5909cf476f45b3e64", func := "lampbearer/lampbearerlaw.WordRests", spec := "wordRests", inPlace := ["math/bits.Add64", "math/bits.Sub64"], recurses := true, apart := false, narrowed := true }
def WordRestsUptoSaid : Prop := wordRestsUptoRow.holds Try.pinned (OpenSpec.upto wordRestsSpec)

/-- 'lampbearerlaw.TwosShifts', WHERE WHAT IT READS IS OF BULK AT MOST 1048576: true; the input reads as it did. -/
def twosShiftsUptoRow : OpenClaim := { program := "ytgmdbleeagfhpaa", sum := "4ac5c9a438aae744333c82ea4fe73d0299301e4b0b106db5909cf476f45b3e64", func := "lampbearer/lampbearerlaw.TwosShifts", spec := "twosShifts", inPlace := ["math/bits.Sub64"], unfollowed := true, recurses := true, apart := false, narrowed := true }
def TwosShiftsUptoSaid : Prop := twosShiftsUptoRow.holds Try.pinned (OpenSpec.upto twosShiftsSpec)

/-- 'lampbearerlaw.TwosBytes', WHERE WHAT IT READS IS OF BULK AT MOST 1048576: true; the input reads as it did. -/
def twosBytesUptoRow : OpenClaim := { program := "ytgmdbleeagfhpaa", sum := "4ac5c9a438aae744333c82ea4fe73d0299301e4b0b106db5909cf476f45b3e64", func := "lampbearer/lampbearerlaw.TwosBytes", spec := "twosBytes", inPlace := ["math/bits.Sub64"], unfollowed := true, recurses := true, apart := false, narrowed := true }
def TwosBytesUptoSaid : Prop := twosBytesUptoRow.holds Try.pinned (OpenSpec.upto twosBytesSpec)

/-- 'lampbearerlaw.TwosBits', WHERE WHAT IT READS IS OF BULK AT MOST 1048576: true; the input reads as it did. -/
def twosBitsUptoRow : OpenClaim := { program := "ytgmdbleeagfhpaa", sum := "4ac5c9a438aae744333c82ea4fe73d0299301e4b0b106db5909cf476f45b3e64", func := "lampbearer/lampbearerlaw.TwosBits", spec := "twosBits", inPlace := ["math/bits.Sub64"], unfollowed := true, recurses := true, apart := false, narrowed := true }
def TwosBitsUptoSaid : Prop := twosBitsUptoRow.holds Try.pinned (OpenSpec.upto twosBitsSpec)

/-- 'lampbearerlaw.NibTags', WHERE WHAT IT READS IS OF BULK AT MOST 1048576: true; the input reads as it did. -/
def nibTagsUptoRow : OpenClaim := { program := "ytgmdbleeagfhpaa", sum := "4ac5c9a438aae744333c82ea4fe73d0299301e4b0b106db5909cf476f45b3e64", func := "lampbearer/lampbearerlaw.NibTags", spec := "nibTags", apart := false, narrowed := true }
def NibTagsUptoSaid : Prop := nibTagsUptoRow.holds Try.pinned (OpenSpec.upto nibTagsSpec)

/-- 'lampbearerlaw.SpongeSums', WHERE WHAT IT READS IS OF BULK AT MOST 1048576: true; the input reads as it did. -/
def spongeSumsUptoRow : OpenClaim := { program := "ytgmdbleeagfhpaa", sum := "4ac5c9a438aae744333c82ea4fe73d0299301e4b0b106db5909cf476f45b3e64", func := "lampbearer/lampbearerlaw.SpongeSums", spec := "spongeSums", apart := false, narrowed := true }
def SpongeSumsUptoSaid : Prop := spongeSumsUptoRow.holds Try.pinned (OpenSpec.upto spongeSumsSpec)

/-- 'lampbearerlaw.SpongeEach', WHERE WHAT IT READS IS OF BULK AT MOST 1048576: true; the input reads as it did. -/
def spongeEachUptoRow : OpenClaim := { program := "ytgmdbleeagfhpaa", sum := "4ac5c9a438aae744333c82ea4fe73d0299301e4b0b106db5909cf476f45b3e64", func := "lampbearer/lampbearerlaw.SpongeEach", spec := "spongeEach", unfollowed := true, recurses := true, apart := false, narrowed := true }
def SpongeEachUptoSaid : Prop := spongeEachUptoRow.holds Try.pinned (OpenSpec.upto spongeEachSpec)

/-- 'lampbearerlaw.HexNumbers', WHERE WHAT IT READS IS OF BULK AT MOST 1048576: true; the input reads as it did. -/
def hexNumbersUptoRow : OpenClaim := { program := "ytgmdbleeagfhpaa", sum := "4ac5c9a438aae744333c82ea4fe73d0299301e4b0b106db5909cf476f45b3e64", func := "lampbearer/lampbearerlaw.HexNumbers", spec := "hexNumbers", inPlace := ["math/bits.Add64"], recurses := true, apart := false, narrowed := true }
def HexNumbersUptoSaid : Prop := hexNumbersUptoRow.holds Try.pinned (OpenSpec.upto hexNumbersSpec)

/-- 'lampbearerlaw.ChainTurns', WHERE WHAT IT READS IS OF BULK AT MOST 1048576: true; the input reads as it did. -/
def chainTurnsUptoRow : OpenClaim := { program := "ytgmdbleeagfhpaa", sum := "4ac5c9a438aae744333c82ea4fe73d0299301e4b0b106db5909cf476f45b3e64", func := "lampbearer/lampbearerlaw.ChainTurns", spec := "chainTurns", apart := false, narrowed := true }
def ChainTurnsUptoSaid : Prop := chainTurnsUptoRow.holds Try.pinned (OpenSpec.upto chainTurnsSpec)

/-- 'lampbearerlaw.MemoryPlays', WHERE WHAT IT READS IS OF BULK AT MOST 1048576: true; the input reads as it did. -/
def memoryPlaysUptoRow : OpenClaim := { program := "ytgmdbleeagfhpaa", sum := "4ac5c9a438aae744333c82ea4fe73d0299301e4b0b106db5909cf476f45b3e64", func := "lampbearer/lampbearerlaw.MemoryPlays", spec := "memoryPlays", inPlace := ["math/bits.Sub64"], apart := false, narrowed := true }
def MemoryPlaysUptoSaid : Prop := memoryPlaysUptoRow.holds Try.pinned (OpenSpec.upto memoryPlaysSpec)

/-- 'lampbearerlaw.PackEncodes', WHERE WHAT IT READS IS OF BULK AT MOST 1048576: true; the input reads as it did. -/
def packEncodesUptoRow : OpenClaim := { program := "ytgmdbleeagfhpaa", sum := "4ac5c9a438aae744333c82ea4fe73d0299301e4b0b106db5909cf476f45b3e64", func := "lampbearer/lampbearerlaw.PackEncodes", spec := "packEncodes", recurses := true, loops := true, apart := false, narrowed := true }
def PackEncodesUptoSaid : Prop := packEncodesUptoRow.holds Try.pinned (OpenSpec.upto packEncodesSpec)

end Rows
end Go.Proofs.Ytgmdbleeagfhpaa
