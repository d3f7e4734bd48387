/- The claim's closed facts, asked of the kernel. -/
import Derived.Test.YtafckkajjloleaaGreatRows
import Derived.ProofKit
set_option linter.unusedVariables false
set_option linter.unusedSimpArgs false
namespace Go.Proofs.YtafckkajjloleaaGreat
open Go.ChangeShapes Go.WideShapes Go.ChangeAt Go.RowKit
set_option maxRecDepth 100000
theorem schedFree_closed : joinedFacts Tryz.prog 7 Tryz.f7 Rows.schedFreeSpec Rows.schedFreeRow = true := by kernel_rfl
end Go.Proofs.YtafckkajjloleaaGreat
