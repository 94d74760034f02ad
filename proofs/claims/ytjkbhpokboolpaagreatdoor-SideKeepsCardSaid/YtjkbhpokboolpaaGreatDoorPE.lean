import Derived.Test.YtjkbhpokboolpaaGreatDoorPD
namespace Go.Proofs.YtjkbhpokboolpaaGreatDoor.Sx
open Go
def kindOf (b : Int) : Int := if b = 29 then 2 else if b = 17 then 3 else if b = 19 then 4 else if b = 5 then 5 else if b = 60 then 6 else if b = 18 then 7 else 0
def curOf (b : List Int) (g : api_Order × Int × GoErr) : bytes_Cursor := ⟨b, g.2.1, if g.2.2 = .nil then .nil else .spot g.2.1 g.2.2⟩
def whereO (g : api_Order × Int × GoErr) : Int := if g.2.2 = .nil then -1 else g.2.1
end Go.Proofs.YtjkbhpokboolpaaGreatDoor.Sx
