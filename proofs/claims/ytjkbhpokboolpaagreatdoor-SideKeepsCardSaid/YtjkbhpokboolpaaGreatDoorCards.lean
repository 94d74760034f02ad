/-
  DERIVED. GIVEN WITH THE SEED: THE CARDS: each row of YtjkbhpokboolpaaGreatDoorRows.lean that lists a variable, with what it lists TIED to the program's text (the seventh form; the later family's looks); each row that meets fmt, with fmt's text TOLD by the authors' own Lean function (tested against real Go, not proved from fmt's source: count such statements apart). THE CARD IS WHAT COUNTS. Prove the row's statement (the work); the ties are given (YtjkbhpokboolpaaGreatDoorTie.lean); close each card by the builder's one call (the guide's Derived/Test/ToyasCard.lean, 'card_holds'). Laid BY PROGRAM, IN A SANDBOX (cutbox-door.mjs). By AI agents, Wed Nov 11 2026. No macro, syntax, notation, axiom, sorry.
-/
import Derived.Test.YtjkbhpokboolpaaGreatDoorRows
import GoSem.ClaimSeven
namespace Go.Proofs.YtjkbhpokboolpaaGreatDoor
namespace Rows

/-- THE TIED CARD OF 'shuttertop.WholeFormats'. -/
def wholeFormatsCard : Claim7 := { stood := { row := wholeFormatsRow, standIns := [], harness := (true, "97681d2842d24187412345259b04a562573a42139a28c46130ddb4908a3ff3b1"), looks := true }, kinds := [], alts := [], laidByText := true, laidKinds := [.handle], laidTests := true, laidLooks := .later }
def WholeFormatsCardSaid : Prop := Claim7.holds Tryz.pinned (.plain (OpenSpec.ofChange wholeFormatsSpec)) wholeFormatsCard

/-- THE TIED CARD OF 'shutterlaw25.SideNews'. -/
def sideNewsCard : Claim7 := { stood := { row := sideNewsRow, standIns := [], harness := (true, "97681d2842d24187412345259b04a562573a42139a28c46130ddb4908a3ff3b1"), looks := true }, kinds := [], alts := [], laidByText := true, laidKinds := [.handle], laidTests := true, laidLooks := .later }
def SideNewsCardSaid : Prop := Claim7.holds Tryz.pinned (.plain (OpenSpec.ofChange sideNewsSpec)) sideNewsCard

/-- THE TIED CARD OF 'shutterlaw25.SideKeeps'. -/
def sideKeepsCard : Claim7 := { stood := { row := sideKeepsRow, standIns := [], harness := (true, "97681d2842d24187412345259b04a562573a42139a28c46130ddb4908a3ff3b1"), looks := true }, kinds := [], alts := [], laidByText := true, laidKinds := [.handle], laidTests := true, laidLooks := .later }
def SideKeepsCardSaid : Prop := Claim7.holds Tryz.pinned (.plain (OpenSpec.ofChange sideKeepsSpec)) sideKeepsCard

/-- THE TIED CARD OF 'shutterlaw25.SideKeys'. -/
def sideKeysCard : Claim7 := { stood := { row := sideKeysRow, standIns := [], harness := (true, "97681d2842d24187412345259b04a562573a42139a28c46130ddb4908a3ff3b1"), looks := true }, kinds := [], alts := [], laidByText := true, laidKinds := [.handle], laidTests := true, laidLooks := .later }
def SideKeysCardSaid : Prop := Claim7.holds Tryz.pinned (.plain (OpenSpec.ofChange sideKeysSpec)) sideKeysCard

/-- THE TIED CARD OF 'shutterlaw25.SideSeals'. -/
def sideSealsCard : Claim7 := { stood := { row := sideSealsRow, standIns := [], harness := (true, "97681d2842d24187412345259b04a562573a42139a28c46130ddb4908a3ff3b1"), looks := true }, kinds := [], alts := [], laidByText := true, laidKinds := [.handle], laidTests := true, laidLooks := .later }
def SideSealsCardSaid : Prop := Claim7.holds Tryz.pinned (.plain (OpenSpec.ofChange sideSealsSpec)) sideSealsCard

/-- THE TIED CARD OF 'shutterlaw25.SideReplay'. -/
def sideReplayCard : Claim7 := { stood := { row := sideReplayRow, standIns := [], harness := (true, "97681d2842d24187412345259b04a562573a42139a28c46130ddb4908a3ff3b1"), looks := true }, kinds := [], alts := [], laidByText := true, laidKinds := [.handle], laidTests := true, laidLooks := .later }
def SideReplayCardSaid : Prop := Claim7.holds Tryz.pinned (.plain (OpenSpec.ofChange sideReplaySpec)) sideReplayCard

/-- THE TIED CARD OF 'shutterlaw25.SideTalk'. -/
def sideTalkCard : Claim7 := { stood := { row := sideTalkRow, standIns := [], harness := (true, "97681d2842d24187412345259b04a562573a42139a28c46130ddb4908a3ff3b1"), looks := true }, kinds := [], alts := [], laidByText := true, laidKinds := [.handle], laidTests := true, laidLooks := .later }
def SideTalkCardSaid : Prop := Claim7.holds Tryz.pinned (.plain (OpenSpec.ofChange sideTalkSpec)) sideTalkCard

/-- THE TIED CARD OF 'shutterlaw25.SideRefuses'. -/
def sideRefusesCard : Claim7 := { stood := { row := sideRefusesRow, standIns := [], harness := (true, "97681d2842d24187412345259b04a562573a42139a28c46130ddb4908a3ff3b1"), looks := true }, kinds := [], alts := [], laidByText := true, laidKinds := [.handle], laidTests := true, laidLooks := .later }
def SideRefusesCardSaid : Prop := Claim7.holds Tryz.pinned (.plain (OpenSpec.ofChange sideRefusesSpec)) sideRefusesCard

/-- THE SECOND FORM's CARD OF 'shuttertop.WholeFormats'. -/
def wholeFormatsUptoCard : Claim7 := { stood := { row := wholeFormatsUptoRow, standIns := [], harness := (true, "97681d2842d24187412345259b04a562573a42139a28c46130ddb4908a3ff3b1"), looks := true }, kinds := [], alts := [], laidByText := true, laidKinds := [.handle], laidTests := true, laidLooks := .later }
def WholeFormatsUptoCardSaid : Prop := Claim7.holds Tryz.pinned (.plain (OpenSpec.upto wholeFormatsSpec)) wholeFormatsUptoCard

/-- THE SECOND FORM's CARD OF 'shutterlaw25.SideNews'. -/
def sideNewsUptoCard : Claim7 := { stood := { row := sideNewsUptoRow, standIns := [], harness := (true, "97681d2842d24187412345259b04a562573a42139a28c46130ddb4908a3ff3b1"), looks := true }, kinds := [], alts := [], laidByText := true, laidKinds := [.handle], laidTests := true, laidLooks := .later }
def SideNewsUptoCardSaid : Prop := Claim7.holds Tryz.pinned (.plain (OpenSpec.upto sideNewsSpec)) sideNewsUptoCard

/-- THE SECOND FORM's CARD OF 'shutterlaw25.SideKeeps'. -/
def sideKeepsUptoCard : Claim7 := { stood := { row := sideKeepsUptoRow, standIns := [], harness := (true, "97681d2842d24187412345259b04a562573a42139a28c46130ddb4908a3ff3b1"), looks := true }, kinds := [], alts := [], laidByText := true, laidKinds := [.handle], laidTests := true, laidLooks := .later }
def SideKeepsUptoCardSaid : Prop := Claim7.holds Tryz.pinned (.plain (OpenSpec.upto sideKeepsSpec)) sideKeepsUptoCard

/-- THE SECOND FORM's CARD OF 'shutterlaw25.SideKeys'. -/
def sideKeysUptoCard : Claim7 := { stood := { row := sideKeysUptoRow, standIns := [], harness := (true, "97681d2842d24187412345259b04a562573a42139a28c46130ddb4908a3ff3b1"), looks := true }, kinds := [], alts := [], laidByText := true, laidKinds := [.handle], laidTests := true, laidLooks := .later }
def SideKeysUptoCardSaid : Prop := Claim7.holds Tryz.pinned (.plain (OpenSpec.upto sideKeysSpec)) sideKeysUptoCard

/-- THE SECOND FORM's CARD OF 'shutterlaw25.SideSeals'. -/
def sideSealsUptoCard : Claim7 := { stood := { row := sideSealsUptoRow, standIns := [], harness := (true, "97681d2842d24187412345259b04a562573a42139a28c46130ddb4908a3ff3b1"), looks := true }, kinds := [], alts := [], laidByText := true, laidKinds := [.handle], laidTests := true, laidLooks := .later }
def SideSealsUptoCardSaid : Prop := Claim7.holds Tryz.pinned (.plain (OpenSpec.upto sideSealsSpec)) sideSealsUptoCard

/-- THE SECOND FORM's CARD OF 'shutterlaw25.SideReplay'. -/
def sideReplayUptoCard : Claim7 := { stood := { row := sideReplayUptoRow, standIns := [], harness := (true, "97681d2842d24187412345259b04a562573a42139a28c46130ddb4908a3ff3b1"), looks := true }, kinds := [], alts := [], laidByText := true, laidKinds := [.handle], laidTests := true, laidLooks := .later }
def SideReplayUptoCardSaid : Prop := Claim7.holds Tryz.pinned (.plain (OpenSpec.upto sideReplaySpec)) sideReplayUptoCard

/-- THE SECOND FORM's CARD OF 'shutterlaw25.SideTalk'. -/
def sideTalkUptoCard : Claim7 := { stood := { row := sideTalkUptoRow, standIns := [], harness := (true, "97681d2842d24187412345259b04a562573a42139a28c46130ddb4908a3ff3b1"), looks := true }, kinds := [], alts := [], laidByText := true, laidKinds := [.handle], laidTests := true, laidLooks := .later }
def SideTalkUptoCardSaid : Prop := Claim7.holds Tryz.pinned (.plain (OpenSpec.upto sideTalkSpec)) sideTalkUptoCard

/-- THE SECOND FORM's CARD OF 'shutterlaw25.SideRefuses'. -/
def sideRefusesUptoCard : Claim7 := { stood := { row := sideRefusesUptoRow, standIns := [], harness := (true, "97681d2842d24187412345259b04a562573a42139a28c46130ddb4908a3ff3b1"), looks := true }, kinds := [], alts := [], laidByText := true, laidKinds := [.handle], laidTests := true, laidLooks := .later }
def SideRefusesUptoCardSaid : Prop := Claim7.holds Tryz.pinned (.plain (OpenSpec.upto sideRefusesSpec)) sideRefusesUptoCard
end Rows
end Go.Proofs.YtjkbhpokboolpaaGreatDoor
