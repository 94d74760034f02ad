/-
  DERIVED. GIVEN WITH THE SEED: THE CARDS: each row of YtlomgckbmdjmhaaDoorRows.lean that lists a variable, with what it lists TIED to the program's text (the seventh form; the later family's looks); each row that meets fmt, with fmt's text TOLD by the authors' own Lean function (tested against real Go, not proved from fmt's source: count such statements apart). THE CARD IS WHAT COUNTS. Prove the row's statement (the work); the ties are given (YtlomgckbmdjmhaaDoorTie.lean); close each card by the builder's one call (the guide's Derived/Test/ToyasCard.lean, 'card_holds'). Laid BY PROGRAM, IN A SANDBOX (cutbox-door.mjs). By AI agents, Wed Nov 11 2026. No macro, syntax, notation, axiom, sorry.
-/
import Derived.Test.YtlomgckbmdjmhaaDoorRows
import GoSem.ClaimSeven
namespace Go.Proofs.YtlomgckbmdjmhaaDoor
namespace Rows

/-- THE TIED CARD OF 'shutterlaw21.RoamNewest'. -/
def roamNewestCard : Claim7 := { stood := { row := roamNewestRow, standIns := [], harness := (true, "602beeacac674c3d6d70540b35e02349bf0b321cfd8892b6b57f5d62d8f6fcd9"), looks := true }, kinds := [], alts := [], laidByText := true, laidKinds := [.handle], laidTests := true, laidLooks := .later }
def RoamNewestCardSaid : Prop := Claim7.holds Tryd.pinned (.plain (OpenSpec.ofChange roamNewestSpec)) roamNewestCard

/-- THE TIED CARD OF 'shutterlaw21.RoamKeeps'. -/
def roamKeepsCard : Claim7 := { stood := { row := roamKeepsRow, standIns := [], harness := (true, "602beeacac674c3d6d70540b35e02349bf0b321cfd8892b6b57f5d62d8f6fcd9"), looks := true }, kinds := [], alts := [], laidByText := true, laidKinds := [.handle], laidTests := true, laidLooks := .later }
def RoamKeepsCardSaid : Prop := Claim7.holds Tryd.pinned (.plain (OpenSpec.ofChange roamKeepsSpec)) roamKeepsCard

/-- THE TIED CARD OF 'shutterlaw21.RoamAgain'. -/
def roamAgainCard : Claim7 := { stood := { row := roamAgainRow, standIns := [], harness := (true, "602beeacac674c3d6d70540b35e02349bf0b321cfd8892b6b57f5d62d8f6fcd9"), looks := true }, kinds := [], alts := [], laidByText := true, laidKinds := [.handle], laidTests := true, laidLooks := .later }
def RoamAgainCardSaid : Prop := Claim7.holds Tryd.pinned (.plain (OpenSpec.ofChange roamAgainSpec)) roamAgainCard

/-- THE TIED CARD OF 'shutterlaw09.InputApart'. -/
def inputApartCard : Claim7 := { stood := { row := inputApartRow, standIns := [], harness := (true, "602beeacac674c3d6d70540b35e02349bf0b321cfd8892b6b57f5d62d8f6fcd9"), looks := true }, kinds := [], alts := [], laidByText := true, laidKinds := [.handle], laidTests := true, laidLooks := .later }
def InputApartCardSaid : Prop := Claim7.holds Tryd.pinned (.plain (OpenSpec.ofChange inputApartSpec)) inputApartCard

/-- THE TIED CARD OF 'shutterlaw09.InputKeeps'. -/
def inputKeepsCard : Claim7 := { stood := { row := inputKeepsRow, standIns := [], harness := (true, "602beeacac674c3d6d70540b35e02349bf0b321cfd8892b6b57f5d62d8f6fcd9"), looks := true }, kinds := [], alts := [], laidByText := true, laidKinds := [.handle], laidTests := true, laidLooks := .later }
def InputKeepsCardSaid : Prop := Claim7.holds Tryd.pinned (.plain (OpenSpec.ofChange inputKeepsSpec)) inputKeepsCard

/-- THE TIED CARD OF 'shutterlaw09.InputLengths'. -/
def inputLengthsCard : Claim7 := { stood := { row := inputLengthsRow, standIns := [], harness := (true, "602beeacac674c3d6d70540b35e02349bf0b321cfd8892b6b57f5d62d8f6fcd9"), looks := true }, kinds := [], alts := [], laidByText := true, laidKinds := [.handle], laidTests := true, laidLooks := .later }
def InputLengthsCardSaid : Prop := Claim7.holds Tryd.pinned (.plain (OpenSpec.ofChange inputLengthsSpec)) inputLengthsCard

/-- THE TIED CARD OF 'shutterlaw09.InputReads'. -/
def inputReadsCard : Claim7 := { stood := { row := inputReadsRow, standIns := [], harness := (true, "602beeacac674c3d6d70540b35e02349bf0b321cfd8892b6b57f5d62d8f6fcd9"), looks := true }, kinds := [], alts := [], laidByText := true, laidKinds := [.handle], laidTests := true, laidLooks := .later }
def InputReadsCardSaid : Prop := Claim7.holds Tryd.pinned (.plain (OpenSpec.ofChange inputReadsSpec)) inputReadsCard

/-- THE TIED CARD OF 'shutterlaw09.InputBack'. -/
def inputBackCard : Claim7 := { stood := { row := inputBackRow, standIns := [], harness := (true, "602beeacac674c3d6d70540b35e02349bf0b321cfd8892b6b57f5d62d8f6fcd9"), looks := true }, kinds := [], alts := [], laidByText := true, laidKinds := [.handle], laidTests := true, laidLooks := .later }
def InputBackCardSaid : Prop := Claim7.holds Tryd.pinned (.plain (OpenSpec.ofChange inputBackSpec)) inputBackCard

/-- THE TIED CARD OF 'shutterlaw18.ReadModified'. -/
def readModifiedCard : Claim7 := { stood := { row := readModifiedRow, standIns := [], harness := (true, "602beeacac674c3d6d70540b35e02349bf0b321cfd8892b6b57f5d62d8f6fcd9"), looks := true }, kinds := [], alts := [], laidByText := true, laidKinds := [.handle], laidTests := true, laidLooks := .later }
def ReadModifiedCardSaid : Prop := Claim7.holds Tryd.pinned (.plain (OpenSpec.ofChange readModifiedSpec)) readModifiedCard

/-- THE TIED CARD OF 'shutterlaw18.ReadImages'. -/
def readImagesCard : Claim7 := { stood := { row := readImagesRow, standIns := [], harness := (true, "602beeacac674c3d6d70540b35e02349bf0b321cfd8892b6b57f5d62d8f6fcd9"), looks := true }, kinds := [], alts := [], laidByText := true, laidKinds := [.handle], laidTests := true, laidLooks := .later }
def ReadImagesCardSaid : Prop := Claim7.holds Tryd.pinned (.plain (OpenSpec.ofChange readImagesSpec)) readImagesCard

/-- THE TIED CARD OF 'shutterlaw18.ReadKeeps'. -/
def readKeepsCard : Claim7 := { stood := { row := readKeepsRow, standIns := [], harness := (true, "602beeacac674c3d6d70540b35e02349bf0b321cfd8892b6b57f5d62d8f6fcd9"), looks := true }, kinds := [], alts := [], laidByText := true, laidKinds := [.handle], laidTests := true, laidLooks := .later }
def ReadKeepsCardSaid : Prop := Claim7.holds Tryd.pinned (.plain (OpenSpec.ofChange readKeepsSpec)) readKeepsCard

/-- THE TIED CARD OF 'shutterlaw18.ReadAlone'. -/
def readAloneCard : Claim7 := { stood := { row := readAloneRow, standIns := [], harness := (true, "602beeacac674c3d6d70540b35e02349bf0b321cfd8892b6b57f5d62d8f6fcd9"), looks := true }, kinds := [], alts := [], laidByText := true, laidKinds := [.handle], laidTests := true, laidLooks := .later }
def ReadAloneCardSaid : Prop := Claim7.holds Tryd.pinned (.plain (OpenSpec.ofChange readAloneSpec)) readAloneCard

/-- THE SECOND FORM's CARD OF 'shutterlaw21.RoamNewest'. -/
def roamNewestUptoCard : Claim7 := { stood := { row := roamNewestUptoRow, standIns := [], harness := (true, "602beeacac674c3d6d70540b35e02349bf0b321cfd8892b6b57f5d62d8f6fcd9"), looks := true }, kinds := [], alts := [], laidByText := true, laidKinds := [.handle], laidTests := true, laidLooks := .later }
def RoamNewestUptoCardSaid : Prop := Claim7.holds Tryd.pinned (.plain (OpenSpec.upto roamNewestSpec)) roamNewestUptoCard

/-- THE SECOND FORM's CARD OF 'shutterlaw21.RoamKeeps'. -/
def roamKeepsUptoCard : Claim7 := { stood := { row := roamKeepsUptoRow, standIns := [], harness := (true, "602beeacac674c3d6d70540b35e02349bf0b321cfd8892b6b57f5d62d8f6fcd9"), looks := true }, kinds := [], alts := [], laidByText := true, laidKinds := [.handle], laidTests := true, laidLooks := .later }
def RoamKeepsUptoCardSaid : Prop := Claim7.holds Tryd.pinned (.plain (OpenSpec.upto roamKeepsSpec)) roamKeepsUptoCard

/-- THE SECOND FORM's CARD OF 'shutterlaw21.RoamAgain'. -/
def roamAgainUptoCard : Claim7 := { stood := { row := roamAgainUptoRow, standIns := [], harness := (true, "602beeacac674c3d6d70540b35e02349bf0b321cfd8892b6b57f5d62d8f6fcd9"), looks := true }, kinds := [], alts := [], laidByText := true, laidKinds := [.handle], laidTests := true, laidLooks := .later }
def RoamAgainUptoCardSaid : Prop := Claim7.holds Tryd.pinned (.plain (OpenSpec.upto roamAgainSpec)) roamAgainUptoCard

/-- THE SECOND FORM's CARD OF 'shutterlaw09.InputApart'. -/
def inputApartUptoCard : Claim7 := { stood := { row := inputApartUptoRow, standIns := [], harness := (true, "602beeacac674c3d6d70540b35e02349bf0b321cfd8892b6b57f5d62d8f6fcd9"), looks := true }, kinds := [], alts := [], laidByText := true, laidKinds := [.handle], laidTests := true, laidLooks := .later }
def InputApartUptoCardSaid : Prop := Claim7.holds Tryd.pinned (.plain (OpenSpec.upto inputApartSpec)) inputApartUptoCard

/-- THE SECOND FORM's CARD OF 'shutterlaw09.InputKeeps'. -/
def inputKeepsUptoCard : Claim7 := { stood := { row := inputKeepsUptoRow, standIns := [], harness := (true, "602beeacac674c3d6d70540b35e02349bf0b321cfd8892b6b57f5d62d8f6fcd9"), looks := true }, kinds := [], alts := [], laidByText := true, laidKinds := [.handle], laidTests := true, laidLooks := .later }
def InputKeepsUptoCardSaid : Prop := Claim7.holds Tryd.pinned (.plain (OpenSpec.upto inputKeepsSpec)) inputKeepsUptoCard

/-- THE SECOND FORM's CARD OF 'shutterlaw09.InputLengths'. -/
def inputLengthsUptoCard : Claim7 := { stood := { row := inputLengthsUptoRow, standIns := [], harness := (true, "602beeacac674c3d6d70540b35e02349bf0b321cfd8892b6b57f5d62d8f6fcd9"), looks := true }, kinds := [], alts := [], laidByText := true, laidKinds := [.handle], laidTests := true, laidLooks := .later }
def InputLengthsUptoCardSaid : Prop := Claim7.holds Tryd.pinned (.plain (OpenSpec.upto inputLengthsSpec)) inputLengthsUptoCard

/-- THE SECOND FORM's CARD OF 'shutterlaw09.InputReads'. -/
def inputReadsUptoCard : Claim7 := { stood := { row := inputReadsUptoRow, standIns := [], harness := (true, "602beeacac674c3d6d70540b35e02349bf0b321cfd8892b6b57f5d62d8f6fcd9"), looks := true }, kinds := [], alts := [], laidByText := true, laidKinds := [.handle], laidTests := true, laidLooks := .later }
def InputReadsUptoCardSaid : Prop := Claim7.holds Tryd.pinned (.plain (OpenSpec.upto inputReadsSpec)) inputReadsUptoCard

/-- THE SECOND FORM's CARD OF 'shutterlaw09.InputBack'. -/
def inputBackUptoCard : Claim7 := { stood := { row := inputBackUptoRow, standIns := [], harness := (true, "602beeacac674c3d6d70540b35e02349bf0b321cfd8892b6b57f5d62d8f6fcd9"), looks := true }, kinds := [], alts := [], laidByText := true, laidKinds := [.handle], laidTests := true, laidLooks := .later }
def InputBackUptoCardSaid : Prop := Claim7.holds Tryd.pinned (.plain (OpenSpec.upto inputBackSpec)) inputBackUptoCard

/-- THE SECOND FORM's CARD OF 'shutterlaw18.ReadModified'. -/
def readModifiedUptoCard : Claim7 := { stood := { row := readModifiedUptoRow, standIns := [], harness := (true, "602beeacac674c3d6d70540b35e02349bf0b321cfd8892b6b57f5d62d8f6fcd9"), looks := true }, kinds := [], alts := [], laidByText := true, laidKinds := [.handle], laidTests := true, laidLooks := .later }
def ReadModifiedUptoCardSaid : Prop := Claim7.holds Tryd.pinned (.plain (OpenSpec.upto readModifiedSpec)) readModifiedUptoCard

/-- THE SECOND FORM's CARD OF 'shutterlaw18.ReadImages'. -/
def readImagesUptoCard : Claim7 := { stood := { row := readImagesUptoRow, standIns := [], harness := (true, "602beeacac674c3d6d70540b35e02349bf0b321cfd8892b6b57f5d62d8f6fcd9"), looks := true }, kinds := [], alts := [], laidByText := true, laidKinds := [.handle], laidTests := true, laidLooks := .later }
def ReadImagesUptoCardSaid : Prop := Claim7.holds Tryd.pinned (.plain (OpenSpec.upto readImagesSpec)) readImagesUptoCard

/-- THE SECOND FORM's CARD OF 'shutterlaw18.ReadKeeps'. -/
def readKeepsUptoCard : Claim7 := { stood := { row := readKeepsUptoRow, standIns := [], harness := (true, "602beeacac674c3d6d70540b35e02349bf0b321cfd8892b6b57f5d62d8f6fcd9"), looks := true }, kinds := [], alts := [], laidByText := true, laidKinds := [.handle], laidTests := true, laidLooks := .later }
def ReadKeepsUptoCardSaid : Prop := Claim7.holds Tryd.pinned (.plain (OpenSpec.upto readKeepsSpec)) readKeepsUptoCard

/-- THE SECOND FORM's CARD OF 'shutterlaw18.ReadAlone'. -/
def readAloneUptoCard : Claim7 := { stood := { row := readAloneUptoRow, standIns := [], harness := (true, "602beeacac674c3d6d70540b35e02349bf0b321cfd8892b6b57f5d62d8f6fcd9"), looks := true }, kinds := [], alts := [], laidByText := true, laidKinds := [.handle], laidTests := true, laidLooks := .later }
def ReadAloneUptoCardSaid : Prop := Claim7.holds Tryd.pinned (.plain (OpenSpec.upto readAloneSpec)) readAloneUptoCard
end Rows
end Go.Proofs.YtlomgckbmdjmhaaDoor
