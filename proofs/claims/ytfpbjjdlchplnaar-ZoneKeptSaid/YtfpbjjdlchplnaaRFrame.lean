/- Closed facts of the rows' step. -/
import Derived.Test.YtfpbjjdlchplnaaRArgs
import Derived.Test.YtfpbjjdlchplnaaRRows
namespace Go.Proofs.YtfpbjjdlchplnaaR
open Go Go.RowKit Go.Wr
theorem own : ownKnob Try.prog.godebug = none := by kernel_rfl
theorem laidOut : laidOutB Try.prog = true := by kernel_rfl
end Go.Proofs.YtfpbjjdlchplnaaR
