/- Facts on the program that every row without a laid variable asks. -/
import Derived.Test.YtooaghempnlclaaRows
import Derived.Test.YtooaghempnlclaaProg
import Derived.Test.YtooaghempnlclaaChecked
import Derived.Test.YtooaghempnlclaaSx6
import Derived.Test.YtooaghempnlclaaSxR
import Derived.WalkKit
import Derived.ProofKit
import Derived.LaidHandle
import Derived.Deep.DeepHandedRow
namespace Go.Proofs.Ytooaghempnlclaa.Sx
open Go Go.ChangeShapes Go.WideShapes Go.RowKit

theorem own : ownKnob Try.prog.godebug = none := by kernel_rfl
theorem laidOut : laidOutB Try.prog = true := by kernel_rfl
theorem rowedMaps : mapsRowed Try.prog = true := by kernel_rfl
theorem slicesPos : (List.range Try.prog.types.size).all (fun t => match Try.prog.underlying t with | some (.slice e) => Nat.blt 0 (Try.prog.cellsOf e) | _ => true) = true := by kernel_rfl

noncomputable def laidWorld (os : Os) : World := World.holding Try.prog os ⟨#[], #[], []⟩
theorem laidWorld_met (os : Os) (args : Array Value) : laidMetH Try.prog [] ((laidWorld os).forCall (fun _ _ => 0) ⟨#[], args, []⟩).memory :=
  laidMetH_of_parts (laidMet_nil _ _) (by kernel_rfl)
end Go.Proofs.Ytooaghempnlclaa.Sx
