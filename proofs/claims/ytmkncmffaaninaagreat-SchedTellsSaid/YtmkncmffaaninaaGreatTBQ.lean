/- A part of the proof of SchedTells. Conditions: none. -/
import Derived.Test.YtmkncmffaaninaaGreatRows
import Derived.ProofKit
set_option linter.all false
namespace Go.Proofs.YtmkncmffaaninaaGreat
open Go.ChangeShapes Go.WideShapes Go.ChangeAt Go.RowKit
set_option maxRecDepth 100000
theorem zoy : joinedFacts Tryz.prog 3 Tryz.f3 Rows.schedTellsSpec Rows.schedTellsRow = true:=by kernel_rfl
end Go.Proofs.YtmkncmffaaninaaGreat
