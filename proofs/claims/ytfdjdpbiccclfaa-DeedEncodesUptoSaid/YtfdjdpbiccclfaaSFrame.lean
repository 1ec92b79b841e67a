/- Closed facts of the rows' step. -/
import Derived.Test.YtfdjdpbiccclfaaProg
import Derived.Test.YtfdjdpbiccclfaaRows
import Derived.ProofKit
import Derived.OpenShut
import Derived.ChangeOld
namespace Go.Proofs.Ytfdjdpbiccclfaa
open Go Go.RowKit
theorem own : ownKnob Try.prog.godebug = none := by kernel_rfl
theorem laidOut : laidOutB Try.prog = true := by kernel_rfl
end Go.Proofs.Ytfdjdpbiccclfaa
