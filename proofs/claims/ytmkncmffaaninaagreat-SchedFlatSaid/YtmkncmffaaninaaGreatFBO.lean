/- A part of the proof of SchedFlat. Conditions: none. -/
import Derived.Test.YtmkncmffaaninaaGreatRows
import Derived.ProofKit
set_option linter.all false
namespace Go.Proofs.YtmkncmffaaninaaGreat
open Go.ChangeShapes Go.WideShapes Go.ChangeAt Go.RowKit
set_option maxRecDepth 100000
theorem zn7 : joinedFacts Tryz.prog 4 Tryz.f4 Rows.schedFlatSpec Rows.schedFlatRow = true:=by kernel_rfl
end Go.Proofs.YtmkncmffaaninaaGreat
