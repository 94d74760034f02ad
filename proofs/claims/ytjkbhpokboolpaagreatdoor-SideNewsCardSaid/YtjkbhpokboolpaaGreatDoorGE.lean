import Derived.Test.YtjkbhpokboolpaaGreatDoorGA
import Derived.Test.YtjkbhpokboolpaaGreatDoorSxR
namespace Go.Proofs.YtjkbhpokboolpaaGreatDoor.Sx
open Go Go.ChangeShapes Go.WideShapes
end Go.Proofs.YtjkbhpokboolpaaGreatDoor.Sx
