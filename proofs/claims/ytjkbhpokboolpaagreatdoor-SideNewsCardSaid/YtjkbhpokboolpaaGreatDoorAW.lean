import Derived.Test.YtjkbhpokboolpaaGreatDoorSN
namespace Go.Proofs.YtjkbhpokboolpaaGreatDoor.Sx
open Go
set_option maxRecDepth 1000000
theorem awake25 : shutterlaw25_awake.m 1048576 = some true := by kernel_rfl
theorem SideNews_true (x0 x1 : Int) (b0 : Wf .i64 x0) (b1 : Wf .i64 x1) : shutterlaw25_SideNews.m KK x0 x1 = some true := SideNews_of awake25 x0 x1 b0 b1
end Go.Proofs.YtjkbhpokboolpaaGreatDoor.Sx
