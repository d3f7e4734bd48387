/- The claim's closed facts, asked of the kernel. -/
import Derived.Test.YtecjccggbbbaaaaGreatRows
import Derived.ProofKit
set_option linter.unusedVariables false
set_option linter.unusedSimpArgs false
namespace Go.Proofs.YtecjccggbbbaaaaGreat
open Go.ChangeShapes Go.WideShapes Go.ChangeAt Go.RowKit
set_option maxRecDepth 100000
theorem evalLanes_closed : joinedFacts Tryz.prog 6 Tryz.f6 Rows.evalLanesSpec Rows.evalLanesRow = true := by kernel_rfl
end Go.Proofs.YtecjccggbbbaaaaGreat
