/- A part of the proof of AffineFinds. Conditions: none. -/
import Derived.Test.YtmkncmffaaninaaGreatRows
import Derived.ProofKit
set_option linter.all false
namespace Go.Proofs.YtmkncmffaaninaaGreat
open Go.ChangeShapes Go.WideShapes Go.ChangeAt Go.RowKit
set_option maxRecDepth 100000
theorem znq : joinedFacts Tryz.prog 7 Tryz.f7 Rows.affineFindsSpec Rows.affineFindsRow = true:=by kernel_rfl
end Go.Proofs.YtmkncmffaaninaaGreat
