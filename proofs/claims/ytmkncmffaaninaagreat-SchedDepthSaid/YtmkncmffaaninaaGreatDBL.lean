/- A part of the proof of SchedDepth. Conditions: none. -/
import Derived.Test.YtmkncmffaaninaaGreatRows
import Derived.ProofKit
set_option linter.unusedVariables false
set_option linter.unusedSimpArgs false
set_option linter.unusedSectionVars false
namespace Go.Proofs.YtmkncmffaaninaaGreat
open Go.ChangeShapes Go.WideShapes Go.ChangeAt Go.RowKit
set_option maxRecDepth 100000
theorem zm2 : joinedFacts Tryz.prog 5 Tryz.f5 Rows.schedDepthSpec Rows.schedDepthRow = true:=by kernel_rfl
end Go.Proofs.YtmkncmffaaninaaGreat
