/-
  NARROWER THAN 'FOR EVERY INPUT', by the rows' own cells (each row's printed sentence says how): PackEncodes: loops.
  DERIVED. THE GIVEN ROWS OF THIS SEAT. 12 by the template 'for every input the law returns true; each argument reads behind the call as it read before'; 0 by the template 'total and deterministic' (their statements: YtbnghkhipmhojaaTotals.lean).
  GIVEN WITH THE SEED: the statements are not yours to turn. If you find one false, say at which input.
  Laid BY PROGRAM, IN A SANDBOX (cutbox-rows.mjs): the forced cells as the released guide's own fill.sh prints them over the translation 779dbe5220382c2b… (all of the seat's roots in one cut). By AI agents, Wed Nov 11 2026. No macro, syntax, notation, axiom, sorry.
-/
import Derived.Test.YtbnghkhipmhojaaChecked
import GoSem.Claim
import GoSem.ClaimJoined
import GoSem.ClaimMapViews
import Derived.JoinedTies
import Derived.KernelRfl
namespace Go.Proofs.Ytbnghkhipmhojaa
/- THE CELL 'sum', in the pinned program and in every row, IS THE sha256 OF THE DUMP (.gsa) THAT YtbnghkhipmhojaaProg.lean LOADS. Nothing in Lean hashes anything: it is a label: what it is worth is what the hold of that sum in a sandbox is worth. -/
noncomputable def Try.pinned : Pinned := { name := "ytbnghkhipmhojaa", sum := "779dbe5220382c2b05e762456f8021555af867e8a0be38c43423dcd21ec89c61", checked := Try.checked }
namespace Rows
def none {H : Type} : Left H := { results := [], args := [] }

/-- 'lampbearerlaw.SpongePads': WHATEVER THE INPUT: true; the input reads as it did. -/
def spongePadsSpec : ChangeSpec := { name := "spongePads", fn := fun _ => fun
  | [d] => { results := [.lit (.bool true)], args := [d] }
  | _ => none }
def spongePadsRow : OpenClaim := { program := "ytbnghkhipmhojaa", sum := "779dbe5220382c2b05e762456f8021555af867e8a0be38c43423dcd21ec89c61", func := "lampbearer/lampbearerlaw.SpongePads", spec := "spongePads", apart := false }
def SpongePadsSaid : Prop := spongePadsRow.holds Try.pinned (OpenSpec.ofChange spongePadsSpec)

/-- ITS FALSE NEIGHBOUR: 'it returns false'. Refute it at one input. -/
def spongePadsWrong : ChangeSpec := { name := "spongePads", fn := fun _ => fun
  | [d] => { results := [.lit (.bool false)], args := [d] }
  | _ => none }
def SpongePadsWrongFalsely : Prop := spongePadsRow.holds Try.pinned (OpenSpec.ofChange spongePadsWrong)

/-- 'lampbearerlaw.NibCommon': WHATEVER THE INPUT: true; the input reads as it did. -/
def nibCommonSpec : ChangeSpec := { name := "nibCommon", fn := fun _ => fun
  | [d1, d2] => { results := [.lit (.bool true)], args := [d1, d2] }
  | _ => none }
def nibCommonRow : OpenClaim := { program := "ytbnghkhipmhojaa", sum := "779dbe5220382c2b05e762456f8021555af867e8a0be38c43423dcd21ec89c61", func := "lampbearer/lampbearerlaw.NibCommon", spec := "nibCommon", recurses := true, apart := false }
def NibCommonSaid : Prop := nibCommonRow.holds Try.pinned (OpenSpec.ofChange nibCommonSpec)

/-- ITS FALSE NEIGHBOUR: 'it returns false'. Refute it at one input. -/
def nibCommonWrong : ChangeSpec := { name := "nibCommon", fn := fun _ => fun
  | [d1, d2] => { results := [.lit (.bool false)], args := [d1, d2] }
  | _ => none }
def NibCommonWrongFalsely : Prop := nibCommonRow.holds Try.pinned (OpenSpec.ofChange nibCommonWrong)

/-- 'lampbearerlaw.PriceSums': WHATEVER THE INPUT: true; the input reads as it did. -/
def priceSumsSpec : ChangeSpec := { name := "priceSums", fn := fun _ => fun
  | [d1, d2, d3, d4, d5] => { results := [.lit (.bool true)], args := [d1, d2, d3, d4, d5] }
  | _ => none }
def priceSumsRow : OpenClaim := { program := "ytbnghkhipmhojaa", sum := "779dbe5220382c2b05e762456f8021555af867e8a0be38c43423dcd21ec89c61", func := "lampbearer/lampbearerlaw.PriceSums", spec := "priceSums", apart := false }
def PriceSumsSaid : Prop := priceSumsRow.holds Try.pinned (OpenSpec.ofChange priceSumsSpec)

/-- ITS FALSE NEIGHBOUR: 'it returns false'. Refute it at one input. -/
def priceSumsWrong : ChangeSpec := { name := "priceSums", fn := fun _ => fun
  | [d1, d2, d3, d4, d5] => { results := [.lit (.bool false)], args := [d1, d2, d3, d4, d5] }
  | _ => none }
def PriceSumsWrongFalsely : Prop := priceSumsRow.holds Try.pinned (OpenSpec.ofChange priceSumsWrong)

/-- 'lampbearerlaw.SpongeMixes': WHATEVER THE INPUT: true; the input reads as it did. -/
def spongeMixesSpec : ChangeSpec := { name := "spongeMixes", fn := fun _ => fun
  | [d] => { results := [.lit (.bool true)], args := [d] }
  | _ => none }
def spongeMixesRow : OpenClaim := { program := "ytbnghkhipmhojaa", sum := "779dbe5220382c2b05e762456f8021555af867e8a0be38c43423dcd21ec89c61", func := "lampbearer/lampbearerlaw.SpongeMixes", spec := "spongeMixes", apart := false }
def SpongeMixesSaid : Prop := spongeMixesRow.holds Try.pinned (OpenSpec.ofChange spongeMixesSpec)

/-- ITS FALSE NEIGHBOUR: 'it returns false'. Refute it at one input. -/
def spongeMixesWrong : ChangeSpec := { name := "spongeMixes", fn := fun _ => fun
  | [d] => { results := [.lit (.bool false)], args := [d] }
  | _ => none }
def SpongeMixesWrongFalsely : Prop := spongeMixesRow.holds Try.pinned (OpenSpec.ofChange spongeMixesWrong)

/-- 'lampbearerlaw.NibHalves': WHATEVER THE INPUT: true; the input reads as it did. -/
def nibHalvesSpec : ChangeSpec := { name := "nibHalves", fn := fun _ => fun
  | [d1, d2] => { results := [.lit (.bool true)], args := [d1, d2] }
  | _ => none }
def nibHalvesRow : OpenClaim := { program := "ytbnghkhipmhojaa", sum := "779dbe5220382c2b05e762456f8021555af867e8a0be38c43423dcd21ec89c61", func := "lampbearer/lampbearerlaw.NibHalves", spec := "nibHalves", apart := false }
def NibHalvesSaid : Prop := nibHalvesRow.holds Try.pinned (OpenSpec.ofChange nibHalvesSpec)

/-- ITS FALSE NEIGHBOUR: 'it returns false'. Refute it at one input. -/
def nibHalvesWrong : ChangeSpec := { name := "nibHalves", fn := fun _ => fun
  | [d1, d2] => { results := [.lit (.bool false)], args := [d1, d2] }
  | _ => none }
def NibHalvesWrongFalsely : Prop := nibHalvesRow.holds Try.pinned (OpenSpec.ofChange nibHalvesWrong)

/-- 'lampbearerlaw.TwosBits': WHATEVER THE INPUT: true; the input reads as it did. -/
def twosBitsSpec : ChangeSpec := { name := "twosBits", fn := fun _ => fun
  | [d1, d2] => { results := [.lit (.bool true)], args := [d1, d2] }
  | _ => none }
def twosBitsRow : OpenClaim := { program := "ytbnghkhipmhojaa", sum := "779dbe5220382c2b05e762456f8021555af867e8a0be38c43423dcd21ec89c61", func := "lampbearer/lampbearerlaw.TwosBits", spec := "twosBits", inPlace := ["math/bits.Sub64"], unfollowed := true, recurses := true, apart := false }
def TwosBitsSaid : Prop := twosBitsRow.holds Try.pinned (OpenSpec.ofChange twosBitsSpec)

/-- ITS FALSE NEIGHBOUR: 'it returns false'. Refute it at one input. -/
def twosBitsWrong : ChangeSpec := { name := "twosBits", fn := fun _ => fun
  | [d1, d2] => { results := [.lit (.bool false)], args := [d1, d2] }
  | _ => none }
def TwosBitsWrongFalsely : Prop := twosBitsRow.holds Try.pinned (OpenSpec.ofChange twosBitsWrong)

/-- 'lampbearerlaw.WordBytes': WHATEVER THE INPUT: true; the input reads as it did. -/
def wordBytesSpec : ChangeSpec := { name := "wordBytes", fn := fun _ => fun
  | [d1, d2, d3, d4] => { results := [.lit (.bool true)], args := [d1, d2, d3, d4] }
  | _ => none }
def wordBytesRow : OpenClaim := { program := "ytbnghkhipmhojaa", sum := "779dbe5220382c2b05e762456f8021555af867e8a0be38c43423dcd21ec89c61", func := "lampbearer/lampbearerlaw.WordBytes", spec := "wordBytes", apart := false }
def WordBytesSaid : Prop := wordBytesRow.holds Try.pinned (OpenSpec.ofChange wordBytesSpec)

/-- ITS FALSE NEIGHBOUR: 'it returns false'. Refute it at one input. -/
def wordBytesWrong : ChangeSpec := { name := "wordBytes", fn := fun _ => fun
  | [d1, d2, d3, d4] => { results := [.lit (.bool false)], args := [d1, d2, d3, d4] }
  | _ => none }
def WordBytesWrongFalsely : Prop := wordBytesRow.holds Try.pinned (OpenSpec.ofChange wordBytesWrong)

/-- 'lampbearerlaw.ChainTurns': WHATEVER THE INPUT: true; the input reads as it did. -/
def chainTurnsSpec : ChangeSpec := { name := "chainTurns", fn := fun _ => fun
  | [d1, d2] => { results := [.lit (.bool true)], args := [d1, d2] }
  | _ => none }
def chainTurnsRow : OpenClaim := { program := "ytbnghkhipmhojaa", sum := "779dbe5220382c2b05e762456f8021555af867e8a0be38c43423dcd21ec89c61", func := "lampbearer/lampbearerlaw.ChainTurns", spec := "chainTurns", apart := false }
def ChainTurnsSaid : Prop := chainTurnsRow.holds Try.pinned (OpenSpec.ofChange chainTurnsSpec)

/-- ITS FALSE NEIGHBOUR: 'it returns false'. Refute it at one input. -/
def chainTurnsWrong : ChangeSpec := { name := "chainTurns", fn := fun _ => fun
  | [d1, d2] => { results := [.lit (.bool false)], args := [d1, d2] }
  | _ => none }
def ChainTurnsWrongFalsely : Prop := chainTurnsRow.holds Try.pinned (OpenSpec.ofChange chainTurnsWrong)

/-- 'lampbearerlaw.PackNums': WHATEVER THE INPUT: true; the input reads as it did. -/
def packNumsSpec : ChangeSpec := { name := "packNums", fn := fun _ => fun
  | [d1, d2] => { results := [.lit (.bool true)], args := [d1, d2] }
  | _ => none }
def packNumsRow : OpenClaim := { program := "ytbnghkhipmhojaa", sum := "779dbe5220382c2b05e762456f8021555af867e8a0be38c43423dcd21ec89c61", func := "lampbearer/lampbearerlaw.PackNums", spec := "packNums", apart := false }
def PackNumsSaid : Prop := packNumsRow.holds Try.pinned (OpenSpec.ofChange packNumsSpec)

/-- ITS FALSE NEIGHBOUR: 'it returns false'. Refute it at one input. -/
def packNumsWrong : ChangeSpec := { name := "packNums", fn := fun _ => fun
  | [d1, d2] => { results := [.lit (.bool false)], args := [d1, d2] }
  | _ => none }
def PackNumsWrongFalsely : Prop := packNumsRow.holds Try.pinned (OpenSpec.ofChange packNumsWrong)

/-- 'lampbearerlaw.CodePlaces': WHATEVER THE INPUT: true; the input reads as it did. -/
def codePlacesSpec : ChangeSpec := { name := "codePlaces", fn := fun _ => fun
  | [d1, d2] => { results := [.lit (.bool true)], args := [d1, d2] }
  | _ => none }
def codePlacesRow : OpenClaim := { program := "ytbnghkhipmhojaa", sum := "779dbe5220382c2b05e762456f8021555af867e8a0be38c43423dcd21ec89c61", func := "lampbearer/lampbearerlaw.CodePlaces", spec := "codePlaces", apart := false }
def CodePlacesSaid : Prop := codePlacesRow.holds Try.pinned (OpenSpec.ofChange codePlacesSpec)

/-- ITS FALSE NEIGHBOUR: 'it returns false'. Refute it at one input. -/
def codePlacesWrong : ChangeSpec := { name := "codePlaces", fn := fun _ => fun
  | [d1, d2] => { results := [.lit (.bool false)], args := [d1, d2] }
  | _ => none }
def CodePlacesWrongFalsely : Prop := codePlacesRow.holds Try.pinned (OpenSpec.ofChange codePlacesWrong)

/-- 'lampbearerlaw.PackEncodes': WHATEVER THE INPUT: true; the input reads as it did. -/
def packEncodesSpec : ChangeSpec := { name := "packEncodes", fn := fun _ => fun
  | [d] => { results := [.lit (.bool true)], args := [d] }
  | _ => none }
def packEncodesRow : OpenClaim := { program := "ytbnghkhipmhojaa", sum := "779dbe5220382c2b05e762456f8021555af867e8a0be38c43423dcd21ec89c61", func := "lampbearer/lampbearerlaw.PackEncodes", spec := "packEncodes", recurses := true, loops := true, apart := false }
def PackEncodesSaid : Prop := packEncodesRow.holds Try.pinned (OpenSpec.ofChange packEncodesSpec)

/-- ITS FALSE NEIGHBOUR: 'it returns false'. Refute it at one input. -/
def packEncodesWrong : ChangeSpec := { name := "packEncodes", fn := fun _ => fun
  | [d] => { results := [.lit (.bool false)], args := [d] }
  | _ => none }
def PackEncodesWrongFalsely : Prop := packEncodesRow.holds Try.pinned (OpenSpec.ofChange packEncodesWrong)

/-- 'lampbearerlaw.HexPrints': WHATEVER THE INPUT: true; the input reads as it did. -/
def hexPrintsSpec : ChangeSpec := { name := "hexPrints", fn := fun _ => fun
  | [d1, d2] => { results := [.lit (.bool true)], args := [d1, d2] }
  | _ => none }
def hexPrintsRow : OpenClaim := { program := "ytbnghkhipmhojaa", sum := "779dbe5220382c2b05e762456f8021555af867e8a0be38c43423dcd21ec89c61", func := "lampbearer/lampbearerlaw.HexPrints", spec := "hexPrints", apart := false }
def HexPrintsSaid : Prop := hexPrintsRow.holds Try.pinned (OpenSpec.ofChange hexPrintsSpec)

/-- ITS FALSE NEIGHBOUR: 'it returns false'. Refute it at one input. -/
def hexPrintsWrong : ChangeSpec := { name := "hexPrints", fn := fun _ => fun
  | [d1, d2] => { results := [.lit (.bool false)], args := [d1, d2] }
  | _ => none }
def HexPrintsWrongFalsely : Prop := hexPrintsRow.holds Try.pinned (OpenSpec.ofChange hexPrintsWrong)

/- THE SECOND FORM. 'bulk': how many values and letters a reading holds, each counted each time it is reached (what is shared counts as often as it is met; a slice's spare places count too). A statement '..UptoSaid' is the law's where the arguments, and the package variables that the reading takes, are together of bulk at most 1048576: NARROWER than '..Said'. Prove '..Said' where nothing that the law and all that it calls make is longer than what came in: it says more and counts as full. Else prove '..UptoSaid'. A law counts once. -/
mutual
def uptoBulk {H : Type} : DataW H → Nat
  | .lit (.string bytes) => bytes.length + 1
  | .lit _ => 1
  | .nil => 1
  | .ptr d => uptoBulk d + 1
  | .slice elems spare => uptoBulkAll elems + uptoBulkAll spare + 1
  | .agg parts => uptoBulkAll parts + 1
  | .iface _ d => uptoBulk d + 1
  | .map entries => uptoBulkEntries entries + 1
  | .held _ => 1
def uptoBulkAll {H : Type} : List (DataW H) → Nat
  | [] => 0
  | d :: r => uptoBulk d + uptoBulkAll r
def uptoBulkEntries {H : Type} : List (Lit × DataW H) → Nat
  | [] => 0
  | x :: r => uptoBulkEntry x + uptoBulkEntries r
def uptoBulkEntry {H : Type} : Lit × DataW H → Nat
  | (.string bytes, d) => bytes.length + uptoBulk d + 1
  | (_, d) => uptoBulk d + 1
 end
def uptoSmall : (H : Type) → List (DataW H) → Bool := fun _ ds => decide (uptoBulkAll ds ≤ 1048576)
def OpenSpec.upto (s : _root_.Go.ChangeSpec) : _root_.Go.OpenSpec := { _root_.Go.OpenSpec.ofChange s with cond := some uptoSmall }

/-- 'lampbearerlaw.SpongePads', WHERE WHAT IT READS IS OF BULK AT MOST 1048576: true; the input reads as it did. -/
def spongePadsUptoRow : OpenClaim := { program := "ytbnghkhipmhojaa", sum := "779dbe5220382c2b05e762456f8021555af867e8a0be38c43423dcd21ec89c61", func := "lampbearer/lampbearerlaw.SpongePads", spec := "spongePads", apart := false, narrowed := true }
def SpongePadsUptoSaid : Prop := spongePadsUptoRow.holds Try.pinned (OpenSpec.upto spongePadsSpec)

/-- 'lampbearerlaw.NibCommon', WHERE WHAT IT READS IS OF BULK AT MOST 1048576: true; the input reads as it did. -/
def nibCommonUptoRow : OpenClaim := { program := "ytbnghkhipmhojaa", sum := "779dbe5220382c2b05e762456f8021555af867e8a0be38c43423dcd21ec89c61", func := "lampbearer/lampbearerlaw.NibCommon", spec := "nibCommon", recurses := true, apart := false, narrowed := true }
def NibCommonUptoSaid : Prop := nibCommonUptoRow.holds Try.pinned (OpenSpec.upto nibCommonSpec)

/-- 'lampbearerlaw.PriceSums', WHERE WHAT IT READS IS OF BULK AT MOST 1048576: true; the input reads as it did. -/
def priceSumsUptoRow : OpenClaim := { program := "ytbnghkhipmhojaa", sum := "779dbe5220382c2b05e762456f8021555af867e8a0be38c43423dcd21ec89c61", func := "lampbearer/lampbearerlaw.PriceSums", spec := "priceSums", apart := false, narrowed := true }
def PriceSumsUptoSaid : Prop := priceSumsUptoRow.holds Try.pinned (OpenSpec.upto priceSumsSpec)

/-- 'lampbearerlaw.SpongeMixes', WHERE WHAT IT READS IS OF BULK AT MOST 1048576: true; the input reads as it did. -/
def spongeMixesUptoRow : OpenClaim := { program := "ytbnghkhipmhojaa", sum := "779dbe5220382c2b05e762456f8021555af867e8a0be38c43423dcd21ec89c61", func := "lampbearer/lampbearerlaw.SpongeMixes", spec := "spongeMixes", apart := false, narrowed := true }
def SpongeMixesUptoSaid : Prop := spongeMixesUptoRow.holds Try.pinned (OpenSpec.upto spongeMixesSpec)

/-- 'lampbearerlaw.NibHalves', WHERE WHAT IT READS IS OF BULK AT MOST 1048576: true; the input reads as it did. -/
def nibHalvesUptoRow : OpenClaim := { program := "ytbnghkhipmhojaa", sum := "779dbe5220382c2b05e762456f8021555af867e8a0be38c43423dcd21ec89c61", func := "lampbearer/lampbearerlaw.NibHalves", spec := "nibHalves", apart := false, narrowed := true }
def NibHalvesUptoSaid : Prop := nibHalvesUptoRow.holds Try.pinned (OpenSpec.upto nibHalvesSpec)

/-- 'lampbearerlaw.TwosBits', WHERE WHAT IT READS IS OF BULK AT MOST 1048576: true; the input reads as it did. -/
def twosBitsUptoRow : OpenClaim := { program := "ytbnghkhipmhojaa", sum := "779dbe5220382c2b05e762456f8021555af867e8a0be38c43423dcd21ec89c61", func := "lampbearer/lampbearerlaw.TwosBits", spec := "twosBits", inPlace := ["math/bits.Sub64"], unfollowed := true, recurses := true, apart := false, narrowed := true }
def TwosBitsUptoSaid : Prop := twosBitsUptoRow.holds Try.pinned (OpenSpec.upto twosBitsSpec)

/-- 'lampbearerlaw.WordBytes', WHERE WHAT IT READS IS OF BULK AT MOST 1048576: true; the input reads as it did. -/
def wordBytesUptoRow : OpenClaim := { program := "ytbnghkhipmhojaa", sum := "779dbe5220382c2b05e762456f8021555af867e8a0be38c43423dcd21ec89c61", func := "lampbearer/lampbearerlaw.WordBytes", spec := "wordBytes", apart := false, narrowed := true }
def WordBytesUptoSaid : Prop := wordBytesUptoRow.holds Try.pinned (OpenSpec.upto wordBytesSpec)

/-- 'lampbearerlaw.ChainTurns', WHERE WHAT IT READS IS OF BULK AT MOST 1048576: true; the input reads as it did. -/
def chainTurnsUptoRow : OpenClaim := { program := "ytbnghkhipmhojaa", sum := "779dbe5220382c2b05e762456f8021555af867e8a0be38c43423dcd21ec89c61", func := "lampbearer/lampbearerlaw.ChainTurns", spec := "chainTurns", apart := false, narrowed := true }
def ChainTurnsUptoSaid : Prop := chainTurnsUptoRow.holds Try.pinned (OpenSpec.upto chainTurnsSpec)

/-- 'lampbearerlaw.PackNums', WHERE WHAT IT READS IS OF BULK AT MOST 1048576: true; the input reads as it did. -/
def packNumsUptoRow : OpenClaim := { program := "ytbnghkhipmhojaa", sum := "779dbe5220382c2b05e762456f8021555af867e8a0be38c43423dcd21ec89c61", func := "lampbearer/lampbearerlaw.PackNums", spec := "packNums", apart := false, narrowed := true }
def PackNumsUptoSaid : Prop := packNumsUptoRow.holds Try.pinned (OpenSpec.upto packNumsSpec)

/-- 'lampbearerlaw.CodePlaces', WHERE WHAT IT READS IS OF BULK AT MOST 1048576: true; the input reads as it did. -/
def codePlacesUptoRow : OpenClaim := { program := "ytbnghkhipmhojaa", sum := "779dbe5220382c2b05e762456f8021555af867e8a0be38c43423dcd21ec89c61", func := "lampbearer/lampbearerlaw.CodePlaces", spec := "codePlaces", apart := false, narrowed := true }
def CodePlacesUptoSaid : Prop := codePlacesUptoRow.holds Try.pinned (OpenSpec.upto codePlacesSpec)

/-- 'lampbearerlaw.PackEncodes', WHERE WHAT IT READS IS OF BULK AT MOST 1048576: true; the input reads as it did. -/
def packEncodesUptoRow : OpenClaim := { program := "ytbnghkhipmhojaa", sum := "779dbe5220382c2b05e762456f8021555af867e8a0be38c43423dcd21ec89c61", func := "lampbearer/lampbearerlaw.PackEncodes", spec := "packEncodes", recurses := true, loops := true, apart := false, narrowed := true }
def PackEncodesUptoSaid : Prop := packEncodesUptoRow.holds Try.pinned (OpenSpec.upto packEncodesSpec)

/-- 'lampbearerlaw.HexPrints', WHERE WHAT IT READS IS OF BULK AT MOST 1048576: true; the input reads as it did. -/
def hexPrintsUptoRow : OpenClaim := { program := "ytbnghkhipmhojaa", sum := "779dbe5220382c2b05e762456f8021555af867e8a0be38c43423dcd21ec89c61", func := "lampbearer/lampbearerlaw.HexPrints", spec := "hexPrints", apart := false, narrowed := true }
def HexPrintsUptoSaid : Prop := hexPrintsUptoRow.holds Try.pinned (OpenSpec.upto hexPrintsSpec)

end Rows
end Go.Proofs.Ytbnghkhipmhojaa
