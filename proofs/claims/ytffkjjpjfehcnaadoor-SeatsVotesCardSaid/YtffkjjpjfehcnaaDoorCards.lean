/-
  DERIVED. GIVEN WITH THE SEED: THE CARDS: each row of YtffkjjpjfehcnaaDoorRows.lean that lists a variable, with what it lists TIED to the program's text (the seventh form; the later family's looks); each row that meets fmt, with fmt's text TOLD by the authors' own Lean function (tested against real Go, not proved from fmt's source: count such statements apart). THE CARD IS WHAT COUNTS. Prove the row's statement (the work); the ties are given (YtffkjjpjfehcnaaDoorTie.lean); close each card by the builder's one call (the guide's Derived/Test/ToyasCard.lean, 'card_holds'). Laid BY PROGRAM, IN A SANDBOX (cutbox-door.mjs). By AI agents, Wed Nov 11 2026. No macro, syntax, notation, axiom, sorry.
-/
import Derived.Test.YtffkjjpjfehcnaaDoorRows
import GoSem.ClaimSeven
namespace Go.Proofs.YtffkjjpjfehcnaaDoor
namespace Rows

/-- THE TIED CARD OF 'lampbearerlaw.SeatsVotes'. -/
def seatsVotesCard : Claim7 := { stood := { row := seatsVotesRow, standIns := [], harness := (true, "5d325730fc08ef2be554b3d16d266a4fb75a04c668d9c77357a53f33e27e182a"), looks := false }, kinds := [], alts := [], laidByText := true, laidKinds := [.data], laidTests := true, laidLooks := .later }
def SeatsVotesCardSaid : Prop := Claim7.holds Tryd.pinned (.plain (OpenSpec.ofChange seatsVotesSpec)) seatsVotesCard

/-- THE SECOND FORM's CARD OF 'lampbearerlaw.SeatsVotes'. -/
def seatsVotesUptoCard : Claim7 := { stood := { row := seatsVotesUptoRow, standIns := [], harness := (true, "5d325730fc08ef2be554b3d16d266a4fb75a04c668d9c77357a53f33e27e182a"), looks := false }, kinds := [], alts := [], laidByText := true, laidKinds := [.data], laidTests := true, laidLooks := .later }
def SeatsVotesUptoCardSaid : Prop := Claim7.holds Tryd.pinned (.plain (OpenSpec.upto seatsVotesSpec)) seatsVotesUptoCard
end Rows
end Go.Proofs.YtffkjjpjfehcnaaDoor
