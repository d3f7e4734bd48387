/- A part of the proof of SchedBack. Conditions: none. -/
import Derived.Test.YtmkncmffaaninaaGreatRows
import Derived.ProofKit
set_option linter.unusedVariables false
set_option linter.unusedSimpArgs false
set_option linter.unusedSectionVars false
namespace Go.Proofs.YtmkncmffaaninaaGreat
open Go.ChangeShapes Go.WideShapes Go.ChangeAt Go.RowKit
set_option maxRecDepth 100000
theorem zlj : joinedFacts Tryz.prog 6 Tryz.f6 Rows.schedBackSpec Rows.schedBackRow = true:=by kernel_rfl
end Go.Proofs.YtmkncmffaaninaaGreat
