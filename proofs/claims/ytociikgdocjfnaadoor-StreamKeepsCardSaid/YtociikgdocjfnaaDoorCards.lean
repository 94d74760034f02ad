/-
  DERIVED. GIVEN WITH THE SEED: THE CARDS: each row of YtociikgdocjfnaaDoorRows.lean that lists a variable, with what it lists TIED to the program's text (the seventh form; the later family's looks); each row that meets fmt, with fmt's text TOLD by the authors' own Lean function (tested against real Go, not proved from fmt's source: count such statements apart). THE CARD IS WHAT COUNTS. Prove the row's statement (the work); the ties are given (YtociikgdocjfnaaDoorTie.lean); close each card by the builder's one call (the guide's Derived/Test/ToyasCard.lean, 'card_holds'). Laid BY PROGRAM, IN A SANDBOX (cutbox-door.mjs). By AI agents, Wed Nov 11 2026. No macro, syntax, notation, axiom, sorry.
-/
import Derived.Test.YtociikgdocjfnaaDoorRows
import GoSem.ClaimSeven
namespace Go.Proofs.YtociikgdocjfnaaDoor
namespace Rows

/-- THE TIED CARD OF 'shutterlaw07.OrderPuts'. -/
def orderPutsCard : Claim7 := { stood := { row := orderPutsRow, standIns := [], harness := (true, "b5ed590bf22af97653eae649f39180fa7ed548d6dc1f4bc1d7c2ca18687581ff"), looks := true }, kinds := [], alts := [], laidByText := true, laidKinds := [.handle], laidTests := true, laidLooks := .later }
def OrderPutsCardSaid : Prop := Claim7.holds Tryd.pinned (.plain (OpenSpec.ofChange orderPutsSpec)) orderPutsCard

/-- THE TIED CARD OF 'shutterlaw07.OrderGets'. -/
def orderGetsCard : Claim7 := { stood := { row := orderGetsRow, standIns := [], harness := (true, "b5ed590bf22af97653eae649f39180fa7ed548d6dc1f4bc1d7c2ca18687581ff"), looks := true }, kinds := [], alts := [], laidByText := true, laidKinds := [.handle], laidTests := true, laidLooks := .later }
def OrderGetsCardSaid : Prop := Claim7.holds Tryd.pinned (.plain (OpenSpec.ofChange orderGetsSpec)) orderGetsCard

/-- THE TIED CARD OF 'shutterlaw08.StreamBack'. -/
def streamBackCard : Claim7 := { stood := { row := streamBackRow, standIns := [], harness := (true, "b5ed590bf22af97653eae649f39180fa7ed548d6dc1f4bc1d7c2ca18687581ff"), looks := true }, kinds := [], alts := [], laidByText := true, laidKinds := [.handle], laidTests := true, laidLooks := .later }
def StreamBackCardSaid : Prop := Claim7.holds Tryd.pinned (.plain (OpenSpec.ofChange streamBackSpec)) streamBackCard

/-- THE TIED CARD OF 'shutterlaw08.StreamKeeps'. -/
def streamKeepsCard : Claim7 := { stood := { row := streamKeepsRow, standIns := [], harness := (true, "b5ed590bf22af97653eae649f39180fa7ed548d6dc1f4bc1d7c2ca18687581ff"), looks := true }, kinds := [], alts := [], laidByText := true, laidKinds := [.handle], laidTests := true, laidLooks := .later }
def StreamKeepsCardSaid : Prop := Claim7.holds Tryd.pinned (.plain (OpenSpec.ofChange streamKeepsSpec)) streamKeepsCard

/-- THE TIED CARD OF 'shutterlaw08.StreamLengths'. -/
def streamLengthsCard : Claim7 := { stood := { row := streamLengthsRow, standIns := [], harness := (true, "b5ed590bf22af97653eae649f39180fa7ed548d6dc1f4bc1d7c2ca18687581ff"), looks := true }, kinds := [], alts := [], laidByText := true, laidKinds := [.handle], laidTests := true, laidLooks := .later }
def StreamLengthsCardSaid : Prop := Claim7.holds Tryd.pinned (.plain (OpenSpec.ofChange streamLengthsSpec)) streamLengthsCard

/-- THE TIED CARD OF 'shutterlaw08.StreamWrites'. -/
def streamWritesCard : Claim7 := { stood := { row := streamWritesRow, standIns := [], harness := (true, "b5ed590bf22af97653eae649f39180fa7ed548d6dc1f4bc1d7c2ca18687581ff"), looks := true }, kinds := [], alts := [], laidByText := true, laidKinds := [.handle], laidTests := true, laidLooks := .later }
def StreamWritesCardSaid : Prop := Claim7.holds Tryd.pinned (.plain (OpenSpec.ofChange streamWritesSpec)) streamWritesCard

/-- THE TIED CARD OF 'shutterlaw08.StreamReads'. -/
def streamReadsCard : Claim7 := { stood := { row := streamReadsRow, standIns := [], harness := (true, "b5ed590bf22af97653eae649f39180fa7ed548d6dc1f4bc1d7c2ca18687581ff"), looks := true }, kinds := [], alts := [], laidByText := true, laidKinds := [.handle], laidTests := true, laidLooks := .later }
def StreamReadsCardSaid : Prop := Claim7.holds Tryd.pinned (.plain (OpenSpec.ofChange streamReadsSpec)) streamReadsCard

/-- THE TIED CARD OF 'shutterlaw08.StreamAgain'. -/
def streamAgainCard : Claim7 := { stood := { row := streamAgainRow, standIns := [], harness := (true, "b5ed590bf22af97653eae649f39180fa7ed548d6dc1f4bc1d7c2ca18687581ff"), looks := true }, kinds := [], alts := [], laidByText := true, laidKinds := [.handle], laidTests := true, laidLooks := .later }
def StreamAgainCardSaid : Prop := Claim7.holds Tryd.pinned (.plain (OpenSpec.ofChange streamAgainSpec)) streamAgainCard

/-- THE SECOND FORM's CARD OF 'shutterlaw07.OrderPuts'. -/
def orderPutsUptoCard : Claim7 := { stood := { row := orderPutsUptoRow, standIns := [], harness := (true, "b5ed590bf22af97653eae649f39180fa7ed548d6dc1f4bc1d7c2ca18687581ff"), looks := true }, kinds := [], alts := [], laidByText := true, laidKinds := [.handle], laidTests := true, laidLooks := .later }
def OrderPutsUptoCardSaid : Prop := Claim7.holds Tryd.pinned (.plain (OpenSpec.upto orderPutsSpec)) orderPutsUptoCard

/-- THE SECOND FORM's CARD OF 'shutterlaw07.OrderGets'. -/
def orderGetsUptoCard : Claim7 := { stood := { row := orderGetsUptoRow, standIns := [], harness := (true, "b5ed590bf22af97653eae649f39180fa7ed548d6dc1f4bc1d7c2ca18687581ff"), looks := true }, kinds := [], alts := [], laidByText := true, laidKinds := [.handle], laidTests := true, laidLooks := .later }
def OrderGetsUptoCardSaid : Prop := Claim7.holds Tryd.pinned (.plain (OpenSpec.upto orderGetsSpec)) orderGetsUptoCard

/-- THE SECOND FORM's CARD OF 'shutterlaw08.StreamBack'. -/
def streamBackUptoCard : Claim7 := { stood := { row := streamBackUptoRow, standIns := [], harness := (true, "b5ed590bf22af97653eae649f39180fa7ed548d6dc1f4bc1d7c2ca18687581ff"), looks := true }, kinds := [], alts := [], laidByText := true, laidKinds := [.handle], laidTests := true, laidLooks := .later }
def StreamBackUptoCardSaid : Prop := Claim7.holds Tryd.pinned (.plain (OpenSpec.upto streamBackSpec)) streamBackUptoCard

/-- THE SECOND FORM's CARD OF 'shutterlaw08.StreamKeeps'. -/
def streamKeepsUptoCard : Claim7 := { stood := { row := streamKeepsUptoRow, standIns := [], harness := (true, "b5ed590bf22af97653eae649f39180fa7ed548d6dc1f4bc1d7c2ca18687581ff"), looks := true }, kinds := [], alts := [], laidByText := true, laidKinds := [.handle], laidTests := true, laidLooks := .later }
def StreamKeepsUptoCardSaid : Prop := Claim7.holds Tryd.pinned (.plain (OpenSpec.upto streamKeepsSpec)) streamKeepsUptoCard

/-- THE SECOND FORM's CARD OF 'shutterlaw08.StreamLengths'. -/
def streamLengthsUptoCard : Claim7 := { stood := { row := streamLengthsUptoRow, standIns := [], harness := (true, "b5ed590bf22af97653eae649f39180fa7ed548d6dc1f4bc1d7c2ca18687581ff"), looks := true }, kinds := [], alts := [], laidByText := true, laidKinds := [.handle], laidTests := true, laidLooks := .later }
def StreamLengthsUptoCardSaid : Prop := Claim7.holds Tryd.pinned (.plain (OpenSpec.upto streamLengthsSpec)) streamLengthsUptoCard

/-- THE SECOND FORM's CARD OF 'shutterlaw08.StreamWrites'. -/
def streamWritesUptoCard : Claim7 := { stood := { row := streamWritesUptoRow, standIns := [], harness := (true, "b5ed590bf22af97653eae649f39180fa7ed548d6dc1f4bc1d7c2ca18687581ff"), looks := true }, kinds := [], alts := [], laidByText := true, laidKinds := [.handle], laidTests := true, laidLooks := .later }
def StreamWritesUptoCardSaid : Prop := Claim7.holds Tryd.pinned (.plain (OpenSpec.upto streamWritesSpec)) streamWritesUptoCard

/-- THE SECOND FORM's CARD OF 'shutterlaw08.StreamReads'. -/
def streamReadsUptoCard : Claim7 := { stood := { row := streamReadsUptoRow, standIns := [], harness := (true, "b5ed590bf22af97653eae649f39180fa7ed548d6dc1f4bc1d7c2ca18687581ff"), looks := true }, kinds := [], alts := [], laidByText := true, laidKinds := [.handle], laidTests := true, laidLooks := .later }
def StreamReadsUptoCardSaid : Prop := Claim7.holds Tryd.pinned (.plain (OpenSpec.upto streamReadsSpec)) streamReadsUptoCard

/-- THE SECOND FORM's CARD OF 'shutterlaw08.StreamAgain'. -/
def streamAgainUptoCard : Claim7 := { stood := { row := streamAgainUptoRow, standIns := [], harness := (true, "b5ed590bf22af97653eae649f39180fa7ed548d6dc1f4bc1d7c2ca18687581ff"), looks := true }, kinds := [], alts := [], laidByText := true, laidKinds := [.handle], laidTests := true, laidLooks := .later }
def StreamAgainUptoCardSaid : Prop := Claim7.holds Tryd.pinned (.plain (OpenSpec.upto streamAgainSpec)) streamAgainUptoCard
end Rows
end Go.Proofs.YtociikgdocjfnaaDoor
