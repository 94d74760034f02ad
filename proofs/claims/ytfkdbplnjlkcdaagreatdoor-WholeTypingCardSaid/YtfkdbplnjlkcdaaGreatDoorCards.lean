/-
  DERIVED. GIVEN WITH THE SEED: THE CARDS: each row of YtfkdbplnjlkcdaaGreatDoorRows.lean that lists a variable, with what it lists TIED to the program's text (the seventh form; the later family's looks); each row that meets fmt, with fmt's text TOLD by the authors' own Lean function (tested against real Go, not proved from fmt's source: count such statements apart). THE CARD IS WHAT COUNTS. Prove the row's statement (the work); the ties are given (YtfkdbplnjlkcdaaGreatDoorTie.lean); close each card by the builder's one call (the guide's Derived/Test/ToyasCard.lean, 'card_holds'). Laid BY PROGRAM, IN A SANDBOX (cutbox-door.mjs). By AI agents, Wed Nov 11 2026. No macro, syntax, notation, axiom, sorry.
-/
import Derived.Test.YtfkdbplnjlkcdaaGreatDoorRows
import GoSem.ClaimSeven
namespace Go.Proofs.YtfkdbplnjlkcdaaGreatDoor
namespace Rows

/-- THE TIED CARD OF 'shuttertop.WholeTyping'. -/
def wholeTypingCard : Claim7 := { stood := { row := wholeTypingRow, standIns := [], harness := (true, "d16f819b914bf213958dd00171ac9db78abd9e52de0db8841bef5150916834e2"), looks := true }, kinds := [], alts := [], laidByText := true, laidKinds := [.handle], laidTests := true, laidLooks := .later }
def WholeTypingCardSaid : Prop := Claim7.holds Tryz.pinned (.plain (OpenSpec.ofChange wholeTypingSpec)) wholeTypingCard

/-- THE SECOND FORM's CARD OF 'shuttertop.WholeTyping'. -/
def wholeTypingUptoCard : Claim7 := { stood := { row := wholeTypingUptoRow, standIns := [], harness := (true, "d16f819b914bf213958dd00171ac9db78abd9e52de0db8841bef5150916834e2"), looks := true }, kinds := [], alts := [], laidByText := true, laidKinds := [.handle], laidTests := true, laidLooks := .later }
def WholeTypingUptoCardSaid : Prop := Claim7.holds Tryz.pinned (.plain (OpenSpec.upto wholeTypingSpec)) wholeTypingUptoCard
end Rows
end Go.Proofs.YtfkdbplnjlkcdaaGreatDoor
