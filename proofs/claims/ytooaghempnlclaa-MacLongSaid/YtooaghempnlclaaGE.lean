/- The structs among the arguments: opened. -/
import Derived.Test.YtooaghempnlclaaGA
import Derived.Test.YtooaghempnlclaaSxR
namespace Go.Proofs.Ytooaghempnlclaa.Sx
open Go Go.ChangeShapes Go.WideShapes


end Go.Proofs.Ytooaghempnlclaa.Sx
