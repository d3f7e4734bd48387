/- The table's soundness, and facts of the program. -/
import Derived.Test.YtafckkajjloleaaGreatCodeT
import Derived.Test.YtafckkajjloleaaGreatLink
import Derived.Test.YtafckkajjloleaaGreatRows
import Derived.ProofKit
set_option linter.unusedVariables false
set_option linter.unusedSimpArgs false
namespace AC
open Go Go.A Go.Proofs
theorem mixed : Tryz.prog.follows .mixedOrders = true := by kernel_rfl
theorem sound_T : Sound Tryz.prog (call T) := sound (draws_ok mixed) T_ok
end AC
namespace Go.Proofs.YtafckkajjloleaaGreat
open Go.ChangeShapes Go.WideShapes Go.ChangeAt Go.RowKit Go.A
theorem Tryz.own : ownKnob Tryz.prog.godebug = none := by kernel_rfl
theorem Tryz.laidOut : laidOutB Tryz.prog = true := by kernel_rfl
end Go.Proofs.YtafckkajjloleaaGreat
