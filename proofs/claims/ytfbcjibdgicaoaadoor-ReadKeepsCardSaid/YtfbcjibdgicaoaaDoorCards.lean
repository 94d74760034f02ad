/-
  DERIVED. GIVEN WITH THE SEED: THE CARDS: each row of YtfbcjibdgicaoaaDoorRows.lean that lists a variable, with what it lists TIED to the program's text (the seventh form; the later family's looks); each row that meets fmt, with fmt's text TOLD by the authors' own Lean function (tested against real Go, not proved from fmt's source: count such statements apart). THE CARD IS WHAT COUNTS. Prove the row's statement (the work); the ties are given (YtfbcjibdgicaoaaDoorTie.lean); close each card by the builder's one call (the guide's Derived/Test/ToyasCard.lean, 'card_holds'). Laid BY PROGRAM, IN A SANDBOX (cutbox-door.mjs). By AI agents, Wed Nov 11 2026. No macro, syntax, notation, axiom, sorry.
-/
import Derived.Test.YtfbcjibdgicaoaaDoorRows
import GoSem.ClaimSeven
namespace Go.Proofs.YtfbcjibdgicaoaaDoor
namespace Rows

/-- THE TIED CARD OF 'shutterlaw06.BytesKeeps'. -/
def bytesKeepsCard : Claim7 := { stood := { row := bytesKeepsRow, standIns := [], harness := (true, "dfbd0683f8a01c142189808954b77a8cc0d15f1e691d4eef74b1d122901cdf08"), looks := true }, kinds := [], alts := [], laidByText := true, laidKinds := [.handle], laidTests := true, laidLooks := .later }
def BytesKeepsCardSaid : Prop := Claim7.holds Tryd.pinned (.plain (OpenSpec.ofChange bytesKeepsSpec)) bytesKeepsCard

/-- THE TIED CARD OF 'shutterlaw18.ReadKeeps'. -/
def readKeepsCard : Claim7 := { stood := { row := readKeepsRow, standIns := [], harness := (true, "dfbd0683f8a01c142189808954b77a8cc0d15f1e691d4eef74b1d122901cdf08"), looks := true }, kinds := [], alts := [], laidByText := true, laidKinds := [.handle], laidTests := true, laidLooks := .later }
def ReadKeepsCardSaid : Prop := Claim7.holds Tryd.pinned (.plain (OpenSpec.ofChange readKeepsSpec)) readKeepsCard

/-- THE SECOND FORM's CARD OF 'shutterlaw06.BytesKeeps'. -/
def bytesKeepsUptoCard : Claim7 := { stood := { row := bytesKeepsUptoRow, standIns := [], harness := (true, "dfbd0683f8a01c142189808954b77a8cc0d15f1e691d4eef74b1d122901cdf08"), looks := true }, kinds := [], alts := [], laidByText := true, laidKinds := [.handle], laidTests := true, laidLooks := .later }
def BytesKeepsUptoCardSaid : Prop := Claim7.holds Tryd.pinned (.plain (OpenSpec.upto bytesKeepsSpec)) bytesKeepsUptoCard

/-- THE SECOND FORM's CARD OF 'shutterlaw18.ReadKeeps'. -/
def readKeepsUptoCard : Claim7 := { stood := { row := readKeepsUptoRow, standIns := [], harness := (true, "dfbd0683f8a01c142189808954b77a8cc0d15f1e691d4eef74b1d122901cdf08"), looks := true }, kinds := [], alts := [], laidByText := true, laidKinds := [.handle], laidTests := true, laidLooks := .later }
def ReadKeepsUptoCardSaid : Prop := Claim7.holds Tryd.pinned (.plain (OpenSpec.upto readKeepsSpec)) readKeepsUptoCard
end Rows
end Go.Proofs.YtfbcjibdgicaoaaDoor
