import Derived.Test.YtjkbhpokboolpaaGreatDoorPE
namespace Go.Proofs.YtjkbhpokboolpaaGreatDoor.Sx
open Go
theorem drop_nil {b : List Int} {p : Int} (h : p = (b.length : Int)) : b.drop p.toNat = [] := List.drop_eq_nil_of_le (by omega)
end Go.Proofs.YtjkbhpokboolpaaGreatDoor.Sx
