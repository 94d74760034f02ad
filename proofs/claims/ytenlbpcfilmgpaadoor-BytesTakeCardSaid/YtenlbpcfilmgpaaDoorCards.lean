/-
  DERIVED. GIVEN WITH THE SEED: THE CARDS: each row of YtenlbpcfilmgpaaDoorRows.lean that lists a variable, with what it lists TIED to the program's text (the seventh form; the later family's looks); each row that meets fmt, with fmt's text TOLD by the authors' own Lean function (tested against real Go, not proved from fmt's source: count such statements apart). THE CARD IS WHAT COUNTS. Prove the row's statement (the work); the ties are given (YtenlbpcfilmgpaaDoorTie.lean); close each card by the builder's one call (the guide's Derived/Test/ToyasCard.lean, 'card_holds'). Laid BY PROGRAM, IN A SANDBOX (cutbox-door.mjs). By AI agents, Wed Nov 11 2026. No macro, syntax, notation, axiom, sorry.
-/
import Derived.Test.YtenlbpcfilmgpaaDoorRows
import GoSem.ClaimSeven
namespace Go.Proofs.YtenlbpcfilmgpaaDoor
namespace Rows

/-- THE TIED CARD OF 'shutterlaw06.BytesTake'. -/
def bytesTakeCard : Claim7 := { stood := { row := bytesTakeRow, standIns := [], harness := (true, "a51dbd7ae5188957dd90bfb6d368666bf0a0020da13ec632adaed795f1d92696"), looks := true }, kinds := [], alts := [], laidByText := true, laidKinds := [.handle], laidTests := true, laidLooks := .later }
def BytesTakeCardSaid : Prop := Claim7.holds Tryd.pinned (.plain (OpenSpec.ofChange bytesTakeSpec)) bytesTakeCard

/-- THE TIED CARD OF 'shutterlaw06.BytesKeeps'. -/
def bytesKeepsCard : Claim7 := { stood := { row := bytesKeepsRow, standIns := [], harness := (true, "a51dbd7ae5188957dd90bfb6d368666bf0a0020da13ec632adaed795f1d92696"), looks := true }, kinds := [], alts := [], laidByText := true, laidKinds := [.handle], laidTests := true, laidLooks := .later }
def BytesKeepsCardSaid : Prop := Claim7.holds Tryd.pinned (.plain (OpenSpec.ofChange bytesKeepsSpec)) bytesKeepsCard

/-- THE TIED CARD OF 'shutterlaw04.AddrBack'. -/
def addrBackCard : Claim7 := { stood := { row := addrBackRow, standIns := [], harness := (true, "a51dbd7ae5188957dd90bfb6d368666bf0a0020da13ec632adaed795f1d92696"), looks := true }, kinds := [], alts := [], laidByText := true, laidKinds := [.handle], laidTests := true, laidLooks := .later }
def AddrBackCardSaid : Prop := Claim7.holds Tryd.pinned (.plain (OpenSpec.ofChange addrBackSpec)) addrBackCard

/-- THE TIED CARD OF 'shutterlaw04.AddrApart'. -/
def addrApartCard : Claim7 := { stood := { row := addrApartRow, standIns := [], harness := (true, "a51dbd7ae5188957dd90bfb6d368666bf0a0020da13ec632adaed795f1d92696"), looks := true }, kinds := [], alts := [], laidByText := true, laidKinds := [.handle], laidTests := true, laidLooks := .later }
def AddrApartCardSaid : Prop := Claim7.holds Tryd.pinned (.plain (OpenSpec.ofChange addrApartSpec)) addrApartCard

/-- THE TIED CARD OF 'shutterlaw04.AddrWays'. -/
def addrWaysCard : Claim7 := { stood := { row := addrWaysRow, standIns := [], harness := (true, "a51dbd7ae5188957dd90bfb6d368666bf0a0020da13ec632adaed795f1d92696"), looks := true }, kinds := [], alts := [], laidByText := true, laidKinds := [.handle], laidTests := true, laidLooks := .later }
def AddrWaysCardSaid : Prop := Claim7.holds Tryd.pinned (.plain (OpenSpec.ofChange addrWaysSpec)) addrWaysCard

/-- THE TIED CARD OF 'shutterlaw04.AddrGets'. -/
def addrGetsCard : Claim7 := { stood := { row := addrGetsRow, standIns := [], harness := (true, "a51dbd7ae5188957dd90bfb6d368666bf0a0020da13ec632adaed795f1d92696"), looks := true }, kinds := [], alts := [], laidByText := true, laidKinds := [.handle], laidTests := true, laidLooks := .later }
def AddrGetsCardSaid : Prop := Claim7.holds Tryd.pinned (.plain (OpenSpec.ofChange addrGetsSpec)) addrGetsCard

/-- THE TIED CARD OF 'shutterlaw06.BytesActs'. -/
def bytesActsCard : Claim7 := { stood := { row := bytesActsRow, standIns := [], harness := (true, "a51dbd7ae5188957dd90bfb6d368666bf0a0020da13ec632adaed795f1d92696"), looks := true }, kinds := [], alts := [], laidByText := true, laidKinds := [.handle], laidTests := true, laidLooks := .later }
def BytesActsCardSaid : Prop := Claim7.holds Tryd.pinned (.plain (OpenSpec.ofChange bytesActsSpec)) bytesActsCard

/-- THE TIED CARD OF 'shutterlaw06.BytesSticks'. -/
def bytesSticksCard : Claim7 := { stood := { row := bytesSticksRow, standIns := [], harness := (true, "a51dbd7ae5188957dd90bfb6d368666bf0a0020da13ec632adaed795f1d92696"), looks := true }, kinds := [], alts := [], laidByText := true, laidKinds := [.handle], laidTests := true, laidLooks := .later }
def BytesSticksCardSaid : Prop := Claim7.holds Tryd.pinned (.plain (OpenSpec.ofChange bytesSticksSpec)) bytesSticksCard

/-- THE SECOND FORM's CARD OF 'shutterlaw06.BytesTake'. -/
def bytesTakeUptoCard : Claim7 := { stood := { row := bytesTakeUptoRow, standIns := [], harness := (true, "a51dbd7ae5188957dd90bfb6d368666bf0a0020da13ec632adaed795f1d92696"), looks := true }, kinds := [], alts := [], laidByText := true, laidKinds := [.handle], laidTests := true, laidLooks := .later }
def BytesTakeUptoCardSaid : Prop := Claim7.holds Tryd.pinned (.plain (OpenSpec.upto bytesTakeSpec)) bytesTakeUptoCard

/-- THE SECOND FORM's CARD OF 'shutterlaw06.BytesKeeps'. -/
def bytesKeepsUptoCard : Claim7 := { stood := { row := bytesKeepsUptoRow, standIns := [], harness := (true, "a51dbd7ae5188957dd90bfb6d368666bf0a0020da13ec632adaed795f1d92696"), looks := true }, kinds := [], alts := [], laidByText := true, laidKinds := [.handle], laidTests := true, laidLooks := .later }
def BytesKeepsUptoCardSaid : Prop := Claim7.holds Tryd.pinned (.plain (OpenSpec.upto bytesKeepsSpec)) bytesKeepsUptoCard

/-- THE SECOND FORM's CARD OF 'shutterlaw04.AddrBack'. -/
def addrBackUptoCard : Claim7 := { stood := { row := addrBackUptoRow, standIns := [], harness := (true, "a51dbd7ae5188957dd90bfb6d368666bf0a0020da13ec632adaed795f1d92696"), looks := true }, kinds := [], alts := [], laidByText := true, laidKinds := [.handle], laidTests := true, laidLooks := .later }
def AddrBackUptoCardSaid : Prop := Claim7.holds Tryd.pinned (.plain (OpenSpec.upto addrBackSpec)) addrBackUptoCard

/-- THE SECOND FORM's CARD OF 'shutterlaw04.AddrApart'. -/
def addrApartUptoCard : Claim7 := { stood := { row := addrApartUptoRow, standIns := [], harness := (true, "a51dbd7ae5188957dd90bfb6d368666bf0a0020da13ec632adaed795f1d92696"), looks := true }, kinds := [], alts := [], laidByText := true, laidKinds := [.handle], laidTests := true, laidLooks := .later }
def AddrApartUptoCardSaid : Prop := Claim7.holds Tryd.pinned (.plain (OpenSpec.upto addrApartSpec)) addrApartUptoCard

/-- THE SECOND FORM's CARD OF 'shutterlaw04.AddrWays'. -/
def addrWaysUptoCard : Claim7 := { stood := { row := addrWaysUptoRow, standIns := [], harness := (true, "a51dbd7ae5188957dd90bfb6d368666bf0a0020da13ec632adaed795f1d92696"), looks := true }, kinds := [], alts := [], laidByText := true, laidKinds := [.handle], laidTests := true, laidLooks := .later }
def AddrWaysUptoCardSaid : Prop := Claim7.holds Tryd.pinned (.plain (OpenSpec.upto addrWaysSpec)) addrWaysUptoCard

/-- THE SECOND FORM's CARD OF 'shutterlaw04.AddrGets'. -/
def addrGetsUptoCard : Claim7 := { stood := { row := addrGetsUptoRow, standIns := [], harness := (true, "a51dbd7ae5188957dd90bfb6d368666bf0a0020da13ec632adaed795f1d92696"), looks := true }, kinds := [], alts := [], laidByText := true, laidKinds := [.handle], laidTests := true, laidLooks := .later }
def AddrGetsUptoCardSaid : Prop := Claim7.holds Tryd.pinned (.plain (OpenSpec.upto addrGetsSpec)) addrGetsUptoCard

/-- THE SECOND FORM's CARD OF 'shutterlaw06.BytesActs'. -/
def bytesActsUptoCard : Claim7 := { stood := { row := bytesActsUptoRow, standIns := [], harness := (true, "a51dbd7ae5188957dd90bfb6d368666bf0a0020da13ec632adaed795f1d92696"), looks := true }, kinds := [], alts := [], laidByText := true, laidKinds := [.handle], laidTests := true, laidLooks := .later }
def BytesActsUptoCardSaid : Prop := Claim7.holds Tryd.pinned (.plain (OpenSpec.upto bytesActsSpec)) bytesActsUptoCard

/-- THE SECOND FORM's CARD OF 'shutterlaw06.BytesSticks'. -/
def bytesSticksUptoCard : Claim7 := { stood := { row := bytesSticksUptoRow, standIns := [], harness := (true, "a51dbd7ae5188957dd90bfb6d368666bf0a0020da13ec632adaed795f1d92696"), looks := true }, kinds := [], alts := [], laidByText := true, laidKinds := [.handle], laidTests := true, laidLooks := .later }
def BytesSticksUptoCardSaid : Prop := Claim7.holds Tryd.pinned (.plain (OpenSpec.upto bytesSticksSpec)) bytesSticksUptoCard
end Rows
end Go.Proofs.YtenlbpcfilmgpaaDoor
