import Derived.Test.YtjkbhpokboolpaaGreatDoorV4
import Derived.Test.YtjkbhpokboolpaaGreatDoorSxF
namespace Go.Proofs.YtjkbhpokboolpaaGreatDoor.Sx
open Go
end Go.Proofs.YtjkbhpokboolpaaGreatDoor.Sx
