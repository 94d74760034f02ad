/-
  DERIVED. GIVEN WITH THE SEED: THE CARDS: each row of YtpkcckaaocannaaDoorRows.lean that lists a variable, with what it lists TIED to the program's text (the seventh form; the later family's looks); each row that meets fmt, with fmt's text TOLD by the authors' own Lean function (tested against real Go, not proved from fmt's source: count such statements apart). THE CARD IS WHAT COUNTS. Prove the row's statement (the work); the ties are given (YtpkcckaaocannaaDoorTie.lean); close each card by the builder's one call (the guide's Derived/Test/ToyasCard.lean, 'card_holds'). Laid BY PROGRAM, IN A SANDBOX (cutbox-door.mjs). By AI agents, Wed Nov 11 2026. No macro, syntax, notation, axiom, sorry.
-/
import Derived.Test.YtpkcckaaocannaaDoorRows
import GoSem.ClaimSeven
namespace Go.Proofs.YtpkcckaaocannaaDoor
namespace Rows

/-- THE TIED CARD OF 'shutterlaw18.ReadModified'. -/
def readModifiedCard : Claim7 := { stood := { row := readModifiedRow, standIns := [], harness := (true, "141767849785d5ea5c66cea2a759f13d124a4938f412f9d5d9028b7ec0db804f"), looks := true }, kinds := [], alts := [], laidByText := true, laidKinds := [.handle], laidTests := true, laidLooks := .later }
def ReadModifiedCardSaid : Prop := Claim7.holds Tryd.pinned (.plain (OpenSpec.ofChange readModifiedSpec)) readModifiedCard

/-- THE TIED CARD OF 'shutterlaw18.ReadImages'. -/
def readImagesCard : Claim7 := { stood := { row := readImagesRow, standIns := [], harness := (true, "141767849785d5ea5c66cea2a759f13d124a4938f412f9d5d9028b7ec0db804f"), looks := true }, kinds := [], alts := [], laidByText := true, laidKinds := [.handle], laidTests := true, laidLooks := .later }
def ReadImagesCardSaid : Prop := Claim7.holds Tryd.pinned (.plain (OpenSpec.ofChange readImagesSpec)) readImagesCard

/-- THE TIED CARD OF 'shutterlaw18.ReadKeeps'. -/
def readKeepsCard : Claim7 := { stood := { row := readKeepsRow, standIns := [], harness := (true, "141767849785d5ea5c66cea2a759f13d124a4938f412f9d5d9028b7ec0db804f"), looks := true }, kinds := [], alts := [], laidByText := true, laidKinds := [.handle], laidTests := true, laidLooks := .later }
def ReadKeepsCardSaid : Prop := Claim7.holds Tryd.pinned (.plain (OpenSpec.ofChange readKeepsSpec)) readKeepsCard

/-- THE TIED CARD OF 'shutterlaw18.ReadAlone'. -/
def readAloneCard : Claim7 := { stood := { row := readAloneRow, standIns := [], harness := (true, "141767849785d5ea5c66cea2a759f13d124a4938f412f9d5d9028b7ec0db804f"), looks := true }, kinds := [], alts := [], laidByText := true, laidKinds := [.handle], laidTests := true, laidLooks := .later }
def ReadAloneCardSaid : Prop := Claim7.holds Tryd.pinned (.plain (OpenSpec.ofChange readAloneSpec)) readAloneCard

/-- THE TIED CARD OF 'shutterlaw21.RoamNewest'. -/
def roamNewestCard : Claim7 := { stood := { row := roamNewestRow, standIns := [], harness := (true, "141767849785d5ea5c66cea2a759f13d124a4938f412f9d5d9028b7ec0db804f"), looks := true }, kinds := [], alts := [], laidByText := true, laidKinds := [.handle], laidTests := true, laidLooks := .later }
def RoamNewestCardSaid : Prop := Claim7.holds Tryd.pinned (.plain (OpenSpec.ofChange roamNewestSpec)) roamNewestCard

/-- THE TIED CARD OF 'shutterlaw21.RoamKeeps'. -/
def roamKeepsCard : Claim7 := { stood := { row := roamKeepsRow, standIns := [], harness := (true, "141767849785d5ea5c66cea2a759f13d124a4938f412f9d5d9028b7ec0db804f"), looks := true }, kinds := [], alts := [], laidByText := true, laidKinds := [.handle], laidTests := true, laidLooks := .later }
def RoamKeepsCardSaid : Prop := Claim7.holds Tryd.pinned (.plain (OpenSpec.ofChange roamKeepsSpec)) roamKeepsCard

/-- THE TIED CARD OF 'shutterlaw21.RoamAgain'. -/
def roamAgainCard : Claim7 := { stood := { row := roamAgainRow, standIns := [], harness := (true, "141767849785d5ea5c66cea2a759f13d124a4938f412f9d5d9028b7ec0db804f"), looks := true }, kinds := [], alts := [], laidByText := true, laidKinds := [.handle], laidTests := true, laidLooks := .later }
def RoamAgainCardSaid : Prop := Claim7.holds Tryd.pinned (.plain (OpenSpec.ofChange roamAgainSpec)) roamAgainCard

/-- THE TIED CARD OF 'shutterlaw06.BytesKeeps'. -/
def bytesKeepsCard : Claim7 := { stood := { row := bytesKeepsRow, standIns := [], harness := (true, "141767849785d5ea5c66cea2a759f13d124a4938f412f9d5d9028b7ec0db804f"), looks := true }, kinds := [], alts := [], laidByText := true, laidKinds := [.handle], laidTests := true, laidLooks := .later }
def BytesKeepsCardSaid : Prop := Claim7.holds Tryd.pinned (.plain (OpenSpec.ofChange bytesKeepsSpec)) bytesKeepsCard

/-- THE SECOND FORM's CARD OF 'shutterlaw18.ReadModified'. -/
def readModifiedUptoCard : Claim7 := { stood := { row := readModifiedUptoRow, standIns := [], harness := (true, "141767849785d5ea5c66cea2a759f13d124a4938f412f9d5d9028b7ec0db804f"), looks := true }, kinds := [], alts := [], laidByText := true, laidKinds := [.handle], laidTests := true, laidLooks := .later }
def ReadModifiedUptoCardSaid : Prop := Claim7.holds Tryd.pinned (.plain (OpenSpec.upto readModifiedSpec)) readModifiedUptoCard

/-- THE SECOND FORM's CARD OF 'shutterlaw18.ReadImages'. -/
def readImagesUptoCard : Claim7 := { stood := { row := readImagesUptoRow, standIns := [], harness := (true, "141767849785d5ea5c66cea2a759f13d124a4938f412f9d5d9028b7ec0db804f"), looks := true }, kinds := [], alts := [], laidByText := true, laidKinds := [.handle], laidTests := true, laidLooks := .later }
def ReadImagesUptoCardSaid : Prop := Claim7.holds Tryd.pinned (.plain (OpenSpec.upto readImagesSpec)) readImagesUptoCard

/-- THE SECOND FORM's CARD OF 'shutterlaw18.ReadKeeps'. -/
def readKeepsUptoCard : Claim7 := { stood := { row := readKeepsUptoRow, standIns := [], harness := (true, "141767849785d5ea5c66cea2a759f13d124a4938f412f9d5d9028b7ec0db804f"), looks := true }, kinds := [], alts := [], laidByText := true, laidKinds := [.handle], laidTests := true, laidLooks := .later }
def ReadKeepsUptoCardSaid : Prop := Claim7.holds Tryd.pinned (.plain (OpenSpec.upto readKeepsSpec)) readKeepsUptoCard

/-- THE SECOND FORM's CARD OF 'shutterlaw18.ReadAlone'. -/
def readAloneUptoCard : Claim7 := { stood := { row := readAloneUptoRow, standIns := [], harness := (true, "141767849785d5ea5c66cea2a759f13d124a4938f412f9d5d9028b7ec0db804f"), looks := true }, kinds := [], alts := [], laidByText := true, laidKinds := [.handle], laidTests := true, laidLooks := .later }
def ReadAloneUptoCardSaid : Prop := Claim7.holds Tryd.pinned (.plain (OpenSpec.upto readAloneSpec)) readAloneUptoCard

/-- THE SECOND FORM's CARD OF 'shutterlaw21.RoamNewest'. -/
def roamNewestUptoCard : Claim7 := { stood := { row := roamNewestUptoRow, standIns := [], harness := (true, "141767849785d5ea5c66cea2a759f13d124a4938f412f9d5d9028b7ec0db804f"), looks := true }, kinds := [], alts := [], laidByText := true, laidKinds := [.handle], laidTests := true, laidLooks := .later }
def RoamNewestUptoCardSaid : Prop := Claim7.holds Tryd.pinned (.plain (OpenSpec.upto roamNewestSpec)) roamNewestUptoCard

/-- THE SECOND FORM's CARD OF 'shutterlaw21.RoamKeeps'. -/
def roamKeepsUptoCard : Claim7 := { stood := { row := roamKeepsUptoRow, standIns := [], harness := (true, "141767849785d5ea5c66cea2a759f13d124a4938f412f9d5d9028b7ec0db804f"), looks := true }, kinds := [], alts := [], laidByText := true, laidKinds := [.handle], laidTests := true, laidLooks := .later }
def RoamKeepsUptoCardSaid : Prop := Claim7.holds Tryd.pinned (.plain (OpenSpec.upto roamKeepsSpec)) roamKeepsUptoCard

/-- THE SECOND FORM's CARD OF 'shutterlaw21.RoamAgain'. -/
def roamAgainUptoCard : Claim7 := { stood := { row := roamAgainUptoRow, standIns := [], harness := (true, "141767849785d5ea5c66cea2a759f13d124a4938f412f9d5d9028b7ec0db804f"), looks := true }, kinds := [], alts := [], laidByText := true, laidKinds := [.handle], laidTests := true, laidLooks := .later }
def RoamAgainUptoCardSaid : Prop := Claim7.holds Tryd.pinned (.plain (OpenSpec.upto roamAgainSpec)) roamAgainUptoCard

/-- THE SECOND FORM's CARD OF 'shutterlaw06.BytesKeeps'. -/
def bytesKeepsUptoCard : Claim7 := { stood := { row := bytesKeepsUptoRow, standIns := [], harness := (true, "141767849785d5ea5c66cea2a759f13d124a4938f412f9d5d9028b7ec0db804f"), looks := true }, kinds := [], alts := [], laidByText := true, laidKinds := [.handle], laidTests := true, laidLooks := .later }
def BytesKeepsUptoCardSaid : Prop := Claim7.holds Tryd.pinned (.plain (OpenSpec.upto bytesKeepsSpec)) bytesKeepsUptoCard
end Rows
end Go.Proofs.YtpkcckaaocannaaDoor
