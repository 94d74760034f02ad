/- Package 02 is awake: reckoned by the kernel. -/
import Derived.Test.YtooaghempnlclaaPR
namespace Go.Proofs.Ytooaghempnlclaa.Sx
open Go

set_option maxRecDepth 100000 in
theorem awake_eq : shutterlaw02_awake.m KK = some true := by kernel_rfl

end Go.Proofs.Ytooaghempnlclaa.Sx
