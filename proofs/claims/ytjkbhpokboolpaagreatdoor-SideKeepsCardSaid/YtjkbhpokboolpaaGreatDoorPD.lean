import Derived.Test.YtjkbhpokboolpaaGreatDoorPC
import Derived.Test.YtjkbhpokboolpaaGreatDoorGE
namespace Go.Proofs.YtjkbhpokboolpaaGreatDoor.Sx
open Go
def zO : api_Order := ⟨0, [], ⟨false, false, 0, false⟩, 0, 0⟩
def putO (o : api_Order) (n : Int) : List Int :=
  if o.Kind = 1 then o.Text else if o.Kind = 2 then [29, putA o.Attr] else if o.Kind = 4 then [19] else if o.Kind = 5 then [5]
  else if o.Kind = 3 then 17 :: putOf o.Addr n else if o.Kind = 7 then 18 :: putOf o.Addr n else 60 :: (putOf o.Addr n ++ [o.Char])
theorem app_ok {α : Type} {l m : List α} (h : l.length + m.length ≤ 1000000) : app l m = some (l ++ m) := by unfold app Lim; rw [if_pos (by omega)]
end Go.Proofs.YtjkbhpokboolpaaGreatDoor.Sx
