/-
  DERIVED. GIVEN WITH THE SEED: THE CARDS: each row of YtfbcjibdgicaoaaGreatDoorRows.lean that lists a variable, with what it lists TIED to the program's text (the seventh form; the later family's looks); each row that meets fmt, with fmt's text TOLD by the authors' own Lean function (tested against real Go, not proved from fmt's source: count such statements apart). THE CARD IS WHAT COUNTS. Prove the row's statement (the work); the ties are given (YtfbcjibdgicaoaaGreatDoorTie.lean); close each card by the builder's one call (the guide's Derived/Test/ToyasCard.lean, 'card_holds'). Laid BY PROGRAM, IN A SANDBOX (cutbox-door.mjs). By AI agents, Wed Nov 11 2026. No macro, syntax, notation, axiom, sorry.
-/
import Derived.Test.YtfbcjibdgicaoaaGreatDoorRows
import GoSem.ClaimSeven
namespace Go.Proofs.YtfbcjibdgicaoaaGreatDoor
namespace Rows

/-- THE TIED CARD OF 'shutterlaw18.ReadReplies'. -/
def readRepliesCard : Claim7 := { stood := { row := readRepliesRow, standIns := [], harness := (true, "bc44edb4d5673f82a2278cdf7a2c99d51700fa2403f559517a9bc7788637c802"), looks := true }, kinds := [], alts := [], laidByText := true, laidKinds := [.handle], laidTests := true, laidLooks := .later }
def ReadRepliesCardSaid : Prop := Claim7.holds Tryz.pinned (.plain (OpenSpec.ofChange readRepliesSpec)) readRepliesCard

/-- THE TIED CARD OF 'shutterlaw18.ReadTells'. -/
def readTellsCard : Claim7 := { stood := { row := readTellsRow, standIns := [], harness := (true, "bc44edb4d5673f82a2278cdf7a2c99d51700fa2403f559517a9bc7788637c802"), looks := true }, kinds := [], alts := [], laidByText := true, laidKinds := [.handle], laidTests := true, laidLooks := .later }
def ReadTellsCardSaid : Prop := Claim7.holds Tryz.pinned (.plain (OpenSpec.ofChange readTellsSpec)) readTellsCard

/-- THE TIED CARD OF 'shutterlaw18.ReadImage'. -/
def readImageCard : Claim7 := { stood := { row := readImageRow, standIns := [], harness := (true, "bc44edb4d5673f82a2278cdf7a2c99d51700fa2403f559517a9bc7788637c802"), looks := true }, kinds := [], alts := [], laidByText := true, laidKinds := [.handle], laidTests := true, laidLooks := .later }
def ReadImageCardSaid : Prop := Claim7.holds Tryz.pinned (.plain (OpenSpec.ofChange readImageSpec)) readImageCard

/-- THE SECOND FORM's CARD OF 'shutterlaw18.ReadReplies'. -/
def readRepliesUptoCard : Claim7 := { stood := { row := readRepliesUptoRow, standIns := [], harness := (true, "bc44edb4d5673f82a2278cdf7a2c99d51700fa2403f559517a9bc7788637c802"), looks := true }, kinds := [], alts := [], laidByText := true, laidKinds := [.handle], laidTests := true, laidLooks := .later }
def ReadRepliesUptoCardSaid : Prop := Claim7.holds Tryz.pinned (.plain (OpenSpec.upto readRepliesSpec)) readRepliesUptoCard

/-- THE SECOND FORM's CARD OF 'shutterlaw18.ReadTells'. -/
def readTellsUptoCard : Claim7 := { stood := { row := readTellsUptoRow, standIns := [], harness := (true, "bc44edb4d5673f82a2278cdf7a2c99d51700fa2403f559517a9bc7788637c802"), looks := true }, kinds := [], alts := [], laidByText := true, laidKinds := [.handle], laidTests := true, laidLooks := .later }
def ReadTellsUptoCardSaid : Prop := Claim7.holds Tryz.pinned (.plain (OpenSpec.upto readTellsSpec)) readTellsUptoCard

/-- THE SECOND FORM's CARD OF 'shutterlaw18.ReadImage'. -/
def readImageUptoCard : Claim7 := { stood := { row := readImageUptoRow, standIns := [], harness := (true, "bc44edb4d5673f82a2278cdf7a2c99d51700fa2403f559517a9bc7788637c802"), looks := true }, kinds := [], alts := [], laidByText := true, laidKinds := [.handle], laidTests := true, laidLooks := .later }
def ReadImageUptoCardSaid : Prop := Claim7.holds Tryz.pinned (.plain (OpenSpec.upto readImageSpec)) readImageUptoCard
end Rows
end Go.Proofs.YtfbcjibdgicaoaaGreatDoor
