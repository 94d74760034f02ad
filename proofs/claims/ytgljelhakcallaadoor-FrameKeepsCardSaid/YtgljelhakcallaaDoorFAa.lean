/- Package frame is awake: reckoned by the kernel. -/
import Derived.Test.YtgljelhakcallaaDoorFA
namespace Go.Proofs.YtgljelhakcallaaDoor.Sx
open Go
set_option maxRecDepth 100000

theorem awake19 : shutterlaw19_awake.m KK = some true := by kernel_rfl
end Go.Proofs.YtgljelhakcallaaDoor.Sx
