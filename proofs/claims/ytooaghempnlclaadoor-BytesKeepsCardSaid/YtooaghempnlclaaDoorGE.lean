/- The structs among the arguments: opened. -/
import Derived.Test.YtooaghempnlclaaDoorGA
import Derived.Test.YtooaghempnlclaaDoorSxR
namespace Go.Proofs.YtooaghempnlclaaDoor.Sx
open Go Go.ChangeShapes Go.WideShapes


end Go.Proofs.YtooaghempnlclaaDoor.Sx
