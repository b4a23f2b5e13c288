/-
  DERIVED. GIVEN WITH THE SEED: THE CARDS: each row of YtikndlkfmjhgdaaDoorRows.lean that lists a variable, with what it lists TIED to the program's text (the seventh form; the later family's looks); each row that meets fmt, with fmt's text TOLD by the authors' own Lean function (tested against real Go, not proved from fmt's source: count such statements apart). THE CARD IS WHAT COUNTS. Prove the row's statement (the work); the ties are given (YtikndlkfmjhgdaaDoorTie.lean); close each card by the builder's one call (the guide's Derived/Test/ToyasCard.lean, 'card_holds'). Laid BY PROGRAM, IN A SANDBOX (cutbox-door.mjs). By AI agents, Wed Nov 11 2026. No macro, syntax, notation, axiom, sorry.
-/
import Derived.Test.YtikndlkfmjhgdaaDoorRows
import GoSem.ClaimSeven
namespace Go.Proofs.YtikndlkfmjhgdaaDoor
namespace Rows

/-- THE TIED CARD OF 'lampbearerlaw.CodeNames'. -/
def codeNamesCard : Claim7 := { stood := { row := codeNamesRow, standIns := [], harness := (true, "ff27f059fcfdd0f4a92cdac36cd9cacd0f2a18ed1b975b09cfbd25412ee4400c"), looks := false }, kinds := [], alts := [], laidByText := true, laidKinds := [.data, .data, .data, .listed, .data], laidTests := true, laidLooks := .later }
def CodeNamesCardSaid : Prop := Claim7.holds Tryd.pinned (.plain (OpenSpec.ofChange codeNamesSpec)) codeNamesCard

/-- THE TIED CARD OF 'lampbearerlaw.PriceOps'. -/
def priceOpsCard : Claim7 := { stood := { row := priceOpsRow, standIns := [], harness := (true, "ff27f059fcfdd0f4a92cdac36cd9cacd0f2a18ed1b975b09cfbd25412ee4400c"), looks := false }, kinds := [], alts := [], laidByText := true, laidKinds := [.data, .data, .data, .data, .listed, .data, .pinned], laidTests := true, laidLooks := .later }
def PriceOpsCardSaid : Prop := Claim7.holds Tryd.pinned (.plain (OpenSpec.ofChange priceOpsSpec)) priceOpsCard

/-- THE SECOND FORM's CARD OF 'lampbearerlaw.CodeNames'. -/
def codeNamesUptoCard : Claim7 := { stood := { row := codeNamesUptoRow, standIns := [], harness := (true, "ff27f059fcfdd0f4a92cdac36cd9cacd0f2a18ed1b975b09cfbd25412ee4400c"), looks := false }, kinds := [], alts := [], laidByText := true, laidKinds := [.data, .data, .data, .listed, .data], laidTests := true, laidLooks := .later }
def CodeNamesUptoCardSaid : Prop := Claim7.holds Tryd.pinned (.plain (OpenSpec.upto codeNamesSpec)) codeNamesUptoCard

/-- THE SECOND FORM's CARD OF 'lampbearerlaw.PriceOps'. -/
def priceOpsUptoCard : Claim7 := { stood := { row := priceOpsUptoRow, standIns := [], harness := (true, "ff27f059fcfdd0f4a92cdac36cd9cacd0f2a18ed1b975b09cfbd25412ee4400c"), looks := false }, kinds := [], alts := [], laidByText := true, laidKinds := [.data, .data, .data, .data, .listed, .data, .pinned], laidTests := true, laidLooks := .later }
def PriceOpsUptoCardSaid : Prop := Claim7.holds Tryd.pinned (.plain (OpenSpec.upto priceOpsSpec)) priceOpsUptoCard
end Rows
end Go.Proofs.YtikndlkfmjhgdaaDoor
