import Derived.Test.YtjkbhpokboolpaaGreatDoorGA
import Derived.Test.YtjkbhpokboolpaaGreatDoorSxR
namespace Go.Proofs.YtjkbhpokboolpaaGreatDoor.Sx
open Go
abbrev KK : Nat := 1048576
theorem w64_id {n : Int} (h1 : -9223372036854775808 ≤ n) (h2 : n ≤ 9223372036854775807) : w64 n = n := by
  unfold w64 IntKind.wrap
  simp [IntKind.signed, IntKind.bits]
  omega
end Go.Proofs.YtjkbhpokboolpaaGreatDoor.Sx
