/- The claim's closed facts, asked of the kernel. -/
import Derived.Test.YtecjccggbbbaaaaGreatRows
import Derived.ProofKit
set_option linter.unusedVariables false
set_option linter.unusedSimpArgs false
namespace Go.Proofs.YtecjccggbbbaaaaGreat
open Go.ChangeShapes Go.WideShapes Go.ChangeAt Go.RowKit
set_option maxRecDepth 100000
theorem splitSteps_closed : joinedFacts Tryz.prog 12 Tryz.f12 Rows.splitStepsSpec Rows.splitStepsRow = true := by kernel_rfl
end Go.Proofs.YtecjccggbbbaaaaGreat
