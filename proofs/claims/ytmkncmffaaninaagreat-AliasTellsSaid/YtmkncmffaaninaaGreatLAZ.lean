/- A part of the proof of AliasTells. Conditions: none. -/
import Derived.Test.YtmkncmffaaninaaGreatRows
import Derived.ProofKit
set_option linter.all false
namespace Go.Proofs.YtmkncmffaaninaaGreat
open Go.ChangeShapes Go.WideShapes Go.ChangeAt Go.RowKit
set_option maxRecDepth 100000
theorem zpv : joinedFacts Tryz.prog 8 Tryz.f8 Rows.aliasTellsSpec Rows.aliasTellsRow = true:=by kernel_rfl
end Go.Proofs.YtmkncmffaaninaaGreat
