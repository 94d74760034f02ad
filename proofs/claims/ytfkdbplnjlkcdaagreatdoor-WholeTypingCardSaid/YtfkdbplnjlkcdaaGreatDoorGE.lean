import Derived.Test.YtfkdbplnjlkcdaaGreatDoorGA
import Derived.Test.YtfkdbplnjlkcdaaGreatDoorSxR
namespace Go.Proofs.YtfkdbplnjlkcdaaGreatDoor.Sx
open Go Go.ChangeShapes Go.WideShapes
end Go.Proofs.YtfkdbplnjlkcdaaGreatDoor.Sx
