/- The claim's closed facts, asked of the kernel. -/
import Derived.Test.YtecjccggbbbaaaaGreatRows
import Derived.ProofKit
set_option linter.unusedVariables false
set_option linter.unusedSimpArgs false
namespace Go.Proofs.YtecjccggbbbaaaaGreat
open Go.ChangeShapes Go.WideShapes Go.ChangeAt Go.RowKit
set_option maxRecDepth 100000
theorem aliasRow_closed : joinedFacts Tryz.prog 3 Tryz.f3 Rows.aliasRowSpec Rows.aliasRowRow = true := by kernel_rfl
end Go.Proofs.YtecjccggbbbaaaaGreat
