/- A part of the proof of AliasBoth. Conditions: none. -/
import Derived.Test.YtmkncmffaaninaaGreatRows
import Derived.ProofKit
set_option linter.all false
namespace Go.Proofs.YtmkncmffaaninaaGreat
open Go.ChangeShapes Go.WideShapes Go.ChangeAt Go.RowKit
set_option maxRecDepth 100000
theorem zlJ : joinedFacts Tryz.prog 9 Tryz.f9 Rows.aliasBothSpec Rows.aliasBothRow = true:=by kernel_rfl
end Go.Proofs.YtmkncmffaaninaaGreat
