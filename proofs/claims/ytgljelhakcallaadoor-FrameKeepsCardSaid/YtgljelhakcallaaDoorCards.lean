/-
  DERIVED. GIVEN WITH THE SEED: THE CARDS: each row of YtgljelhakcallaaDoorRows.lean that lists a variable, with what it lists TIED to the program's text (the seventh form; the later family's looks); each row that meets fmt, with fmt's text TOLD by the authors' own Lean function (tested against real Go, not proved from fmt's source: count such statements apart). THE CARD IS WHAT COUNTS. Prove the row's statement (the work); the ties are given (YtgljelhakcallaaDoorTie.lean); close each card by the builder's one call (the guide's Derived/Test/ToyasCard.lean, 'card_holds'). Laid BY PROGRAM, IN A SANDBOX (cutbox-door.mjs). By AI agents, Wed Nov 11 2026. No macro, syntax, notation, axiom, sorry.
-/
import Derived.Test.YtgljelhakcallaaDoorRows
import GoSem.ClaimSeven
namespace Go.Proofs.YtgljelhakcallaaDoor
namespace Rows

/-- THE TIED CARD OF 'shutterlaw06.BytesKeeps'. -/
def bytesKeepsCard : Claim7 := { stood := { row := bytesKeepsRow, standIns := [], harness := (true, "da9d21d8c97c7ecb1536aba6bfa6aec6978cb1ce55dfea175ec1afb4b59904f1"), looks := true }, kinds := [], alts := [], laidByText := true, laidKinds := [.handle], laidTests := true, laidLooks := .later }
def BytesKeepsCardSaid : Prop := Claim7.holds Tryd.pinned (.plain (OpenSpec.ofChange bytesKeepsSpec)) bytesKeepsCard

/-- THE TIED CARD OF 'shutterlaw19.FrameSeals'. -/
def frameSealsCard : Claim7 := { stood := { row := frameSealsRow, standIns := [], harness := (true, "da9d21d8c97c7ecb1536aba6bfa6aec6978cb1ce55dfea175ec1afb4b59904f1"), looks := true }, kinds := [], alts := [], laidByText := true, laidKinds := [.handle], laidTests := true, laidLooks := .later }
def FrameSealsCardSaid : Prop := Claim7.holds Tryd.pinned (.plain (OpenSpec.ofChange frameSealsSpec)) frameSealsCard

/-- THE TIED CARD OF 'shutterlaw19.FrameBack'. -/
def frameBackCard : Claim7 := { stood := { row := frameBackRow, standIns := [], harness := (true, "da9d21d8c97c7ecb1536aba6bfa6aec6978cb1ce55dfea175ec1afb4b59904f1"), looks := true }, kinds := [], alts := [], laidByText := true, laidKinds := [.handle], laidTests := true, laidLooks := .later }
def FrameBackCardSaid : Prop := Claim7.holds Tryd.pinned (.plain (OpenSpec.ofChange frameBackSpec)) frameBackCard

/-- THE TIED CARD OF 'shutterlaw19.FrameForged'. -/
def frameForgedCard : Claim7 := { stood := { row := frameForgedRow, standIns := [], harness := (true, "da9d21d8c97c7ecb1536aba6bfa6aec6978cb1ce55dfea175ec1afb4b59904f1"), looks := true }, kinds := [], alts := [], laidByText := true, laidKinds := [.handle], laidTests := true, laidLooks := .later }
def FrameForgedCardSaid : Prop := Claim7.holds Tryd.pinned (.plain (OpenSpec.ofChange frameForgedSpec)) frameForgedCard

/-- THE TIED CARD OF 'shutterlaw19.FrameKeeps'. -/
def frameKeepsCard : Claim7 := { stood := { row := frameKeepsRow, standIns := [], harness := (true, "da9d21d8c97c7ecb1536aba6bfa6aec6978cb1ce55dfea175ec1afb4b59904f1"), looks := true }, kinds := [], alts := [], laidByText := true, laidKinds := [.handle], laidTests := true, laidLooks := .later }
def FrameKeepsCardSaid : Prop := Claim7.holds Tryd.pinned (.plain (OpenSpec.ofChange frameKeepsSpec)) frameKeepsCard

/-- THE TIED CARD OF 'shutterlaw19.FrameApart'. -/
def frameApartCard : Claim7 := { stood := { row := frameApartRow, standIns := [], harness := (true, "da9d21d8c97c7ecb1536aba6bfa6aec6978cb1ce55dfea175ec1afb4b59904f1"), looks := true }, kinds := [], alts := [], laidByText := true, laidKinds := [.handle], laidTests := true, laidLooks := .later }
def FrameApartCardSaid : Prop := Claim7.holds Tryd.pinned (.plain (OpenSpec.ofChange frameApartSpec)) frameApartCard

/-- THE SECOND FORM's CARD OF 'shutterlaw06.BytesKeeps'. -/
def bytesKeepsUptoCard : Claim7 := { stood := { row := bytesKeepsUptoRow, standIns := [], harness := (true, "da9d21d8c97c7ecb1536aba6bfa6aec6978cb1ce55dfea175ec1afb4b59904f1"), looks := true }, kinds := [], alts := [], laidByText := true, laidKinds := [.handle], laidTests := true, laidLooks := .later }
def BytesKeepsUptoCardSaid : Prop := Claim7.holds Tryd.pinned (.plain (OpenSpec.upto bytesKeepsSpec)) bytesKeepsUptoCard

/-- THE SECOND FORM's CARD OF 'shutterlaw19.FrameSeals'. -/
def frameSealsUptoCard : Claim7 := { stood := { row := frameSealsUptoRow, standIns := [], harness := (true, "da9d21d8c97c7ecb1536aba6bfa6aec6978cb1ce55dfea175ec1afb4b59904f1"), looks := true }, kinds := [], alts := [], laidByText := true, laidKinds := [.handle], laidTests := true, laidLooks := .later }
def FrameSealsUptoCardSaid : Prop := Claim7.holds Tryd.pinned (.plain (OpenSpec.upto frameSealsSpec)) frameSealsUptoCard

/-- THE SECOND FORM's CARD OF 'shutterlaw19.FrameBack'. -/
def frameBackUptoCard : Claim7 := { stood := { row := frameBackUptoRow, standIns := [], harness := (true, "da9d21d8c97c7ecb1536aba6bfa6aec6978cb1ce55dfea175ec1afb4b59904f1"), looks := true }, kinds := [], alts := [], laidByText := true, laidKinds := [.handle], laidTests := true, laidLooks := .later }
def FrameBackUptoCardSaid : Prop := Claim7.holds Tryd.pinned (.plain (OpenSpec.upto frameBackSpec)) frameBackUptoCard

/-- THE SECOND FORM's CARD OF 'shutterlaw19.FrameForged'. -/
def frameForgedUptoCard : Claim7 := { stood := { row := frameForgedUptoRow, standIns := [], harness := (true, "da9d21d8c97c7ecb1536aba6bfa6aec6978cb1ce55dfea175ec1afb4b59904f1"), looks := true }, kinds := [], alts := [], laidByText := true, laidKinds := [.handle], laidTests := true, laidLooks := .later }
def FrameForgedUptoCardSaid : Prop := Claim7.holds Tryd.pinned (.plain (OpenSpec.upto frameForgedSpec)) frameForgedUptoCard

/-- THE SECOND FORM's CARD OF 'shutterlaw19.FrameKeeps'. -/
def frameKeepsUptoCard : Claim7 := { stood := { row := frameKeepsUptoRow, standIns := [], harness := (true, "da9d21d8c97c7ecb1536aba6bfa6aec6978cb1ce55dfea175ec1afb4b59904f1"), looks := true }, kinds := [], alts := [], laidByText := true, laidKinds := [.handle], laidTests := true, laidLooks := .later }
def FrameKeepsUptoCardSaid : Prop := Claim7.holds Tryd.pinned (.plain (OpenSpec.upto frameKeepsSpec)) frameKeepsUptoCard

/-- THE SECOND FORM's CARD OF 'shutterlaw19.FrameApart'. -/
def frameApartUptoCard : Claim7 := { stood := { row := frameApartUptoRow, standIns := [], harness := (true, "da9d21d8c97c7ecb1536aba6bfa6aec6978cb1ce55dfea175ec1afb4b59904f1"), looks := true }, kinds := [], alts := [], laidByText := true, laidKinds := [.handle], laidTests := true, laidLooks := .later }
def FrameApartUptoCardSaid : Prop := Claim7.holds Tryd.pinned (.plain (OpenSpec.upto frameApartSpec)) frameApartUptoCard
end Rows
end Go.Proofs.YtgljelhakcallaaDoor
