import Derived.Test.YtjkbhpokboolpaaGreatDoorSx9
namespace Go.Proofs.YtjkbhpokboolpaaGreatDoor.Sx
open Go
def flatOf : GoErr → GoErr
  | .spot a k => match code? k with
    | some n => .spot a (.no n)
    | none => .spot a k
  | e => e
end Go.Proofs.YtjkbhpokboolpaaGreatDoor.Sx
